/- netverifylaw38.WitnessDescribes: the law's walk. -/
import Derived.Test.YtdmfdclkpdliaaaGreatDoorDet
import Derived.Test.YtdmfdclkpdliaaaGreatDoorRaw
import Derived.Test.YtdmfdclkpdliaaaGreatDoorLit
import Derived.Test.YtdmfdclkpdliaaaGreatDoorAwk
import Derived.Test.YtdmfdclkpdliaaaGreatDoorStr
namespace Go.Proofs.YtdmfdclkpdliaaaGreatDoor
open Go Go.RowKit Go.Shelf

theorem DPost.yes {w w' : World} {rs : List Rt} {a : An} {e : Ending} (h : DPost w rs a e w') (ho : ansOk rs a = true) : ∃ g cap, e = .returned (.tuple #[.slice (some ⟨g, 0, none⟩) (ansT rs a).length cap, .int .i64 0]) ∧ Hid (Below w.heap.size w w') ∧ Hid (w'.ownsRow w.heap.size 9 1 (.slice (some ⟨g, 0, none⟩) (ansT rs a).length cap) (ansT rs a).length (strs (ansT rs a))) := by
  obtain ⟨hb, ⟨_, g, cap, he, hw⟩ | ⟨h0, _⟩⟩ := h
  · exact ⟨g, cap, he, hb, hw⟩
  · rw [ho] at h0; cases h0
theorem DPost.no {w w' : World} {rs : List Rt} {a : An} {e : Ending} (h : DPost w rs a e w') (ho : ansOk rs a = false) : e = .returned (.tuple #[.slice none 0 0, .int .i64 1]) ∧ Hid (Below w.heap.size w w') := by
  obtain ⟨hb, ⟨h0, _⟩ | ⟨_, he⟩⟩ := h
  · rw [ho] at h0; cases h0
  · exact ⟨he, hb⟩
theorem LPost.yes {w w' : World} {rs : List Rt} {a : An} {e : Ending} (h : LPost w rs a e w') (ho : ansOk rs a = true) : ∃ g cap, e = .returned (.tuple #[.slice (some ⟨g, 0, none⟩) (ansT rs a).length cap, .bool true]) ∧ Hid (Below w.heap.size w w') ∧ Hid (w'.ownsRow w.heap.size 9 1 (.slice (some ⟨g, 0, none⟩) (ansT rs a).length cap) (ansT rs a).length (strs (ansT rs a))) := by
  obtain ⟨hb, ⟨_, g, cap, he, hw⟩ | ⟨h0, _⟩⟩ := h
  · exact ⟨g, cap, he, hb, hw⟩
  · rw [ho] at h0; cases h0
theorem LPost.no {w w' : World} {rs : List Rt} {a : An} {e : Ending} (h : LPost w rs a e w') (ho : ansOk rs a = false) : e = .returned (.tuple #[.slice none 0 0, .bool false]) ∧ Hid (Below w.heap.size w w') := by
  obtain ⟨hb, ⟨h0, _⟩ | ⟨_, he⟩⟩ := h
  · rw [ho] at h0; cases h0
  · exact ⟨he, hb⟩
theorem own_cells {B g n cap : Nat} {l : List (List UInt8)} {W : World} (h : W.ownsRow B 9 1 (.slice (some ⟨g, 0, none⟩) n cap) n (strs l)) : ∀ (j : Nat) x, (l.map fun y : List UInt8 => ByteArray.mk y.toArray)[j]? = some x → W.cell? ⟨g, 0 + j, none⟩ = some (.string x) := by
  intro j x hx
  simp only [List.getElem?_map, Option.map_eq_some_iff] at hx
  obtain ⟨y, hy, rfl⟩ := hx
  rcases h.2 with ⟨h0, _⟩ | ⟨g', cap', cur, hv, _, hg, _, _, _, ht⟩
  · cases h0
  · simp only [Value.slice.injEq, Option.some.injEq, Addr.mk.injEq] at hv
    obtain ⟨⟨rfl, _⟩, _⟩ := hv
    rw [Nat.zero_add, cell_of_row W g j cur 9 (0, 0) hg, ← Array.getElem?_toList]
    have h3 : (strs l)[j]? = some (.string ⟨y.toArray⟩) := by simp [strs, hy]
    rw [← ht, List.getElem?_take] at h3
    split at h3
    · exact h3
    · cases h3
theorem strings_n (ba bb ca cb n : Nat) (l : List (List UInt8)) (w : World) (hn : l.length = n) (hs : n ≤ 100000) (HA : Hid (∀ (j : Nat) x, (l.map fun y : List UInt8 => ByteArray.mk y.toArray)[j]? = some x → w.cell? ⟨ba, 0 + j, none⟩ = some (.string x))) (HB : Hid (∀ (j : Nat) x, (l.map fun y : List UInt8 => ByteArray.mk y.toArray)[j]? = some x → w.cell? ⟨bb, 0 + j, none⟩ = some (.string x))) :
    Calls Tryz.prog 12 #[.slice (some ⟨ba, 0, none⟩) n ca, .slice (some ⟨bb, 0, none⟩) n cb] w fun e w' => e = .returned (.bool true) ∧ Below w.heap.size w w' := by
  subst hn
  have h := strings_same ba 0 ca bb 0 cb (l.map fun y : List UInt8 => ByteArray.mk y.toArray) w (by simpa using hs) HA HB
  rw [List.length_map] at h
  exact h
theorem ansT_le {rs : List Rt} {a : An} (hq : a.path.length ≤ 20) : (ansT rs a).length ≤ 100000 := by
  have h1 := loopT_le a.loop
  have h2 : (otherT a.other).length ≤ 1 := by unfold otherT; split <;> simp
  unfold ansT
  split <;> simp
  omega

end Go.Proofs.YtdmfdclkpdliaaaGreatDoor
