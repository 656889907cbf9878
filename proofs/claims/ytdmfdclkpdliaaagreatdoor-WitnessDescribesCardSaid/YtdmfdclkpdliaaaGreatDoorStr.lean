/- netverifykeep.Strings of two slices that hold the same texts answers true. -/
import Derived.Test.YtdmfdclkpdliaaaGreatDoorBld
import Derived.WalkKit
import Derived.WalkSpells
import Derived.WalkLawsBesides
import Derived.BigCall
import Derived.BigGuard
import Derived.Deep.QuietTactic
import Derived.BigQuiet
namespace Go.Proofs.YtdmfdclkpdliaaaGreatDoor
open Go Go.RowKit Go.Shelf
theorem below_drewN (w : World) (d : Nat) : Below w.heap.size w (w.drewN d) := ⟨rfl, rfl, rfl, Nat.le_refl _, fun _ _ => rfl⟩
theorem keepStr {p : Prop} (h : p) : Hid p := h
set_option maxRecDepth 100000 in
set_option maxHeartbeats 1000000 in
theorem strings_same (ba oa ca bb ob cb : Nat) (xs : List ByteArray) (w : World) (hn : xs.length ≤ 100000)
    (HA : Hid (∀ (j : Nat) x, xs[j]? = some x → w.cell? ⟨ba, oa + j, none⟩ = some (.string x))) (HB : Hid (∀ (j : Nat) x, xs[j]? = some x → w.cell? ⟨bb, ob + j, none⟩ = some (.string x))) :
    Calls Tryz.prog 12 #[.slice (some ⟨ba, oa, none⟩) xs.length ca, .slice (some ⟨bb, ob, none⟩) xs.length cb] w fun e w' => e = .returned (.bool true) ∧ Below w.heap.size w w' := by
  go_enter Tryz.func12, Tryz.ntmps12
  go_wp2
  go_loopw [5] (fun i wr => ∃ k : Nat, k ≤ xs.length ∧ i = .int .i64 k ∧ ∃ d, wr = w.drewN d) (fun i _ => xs.length - (intOf i).toNat)
  case atStart => exact ⟨0, Nat.zero_le _, rfl, 0, rfl⟩
  case round =>
    obtain ⟨k, hk, rfl, d, rfl⟩ := hrel
    by_cases hkn : k < xs.length
    · obtain ⟨x, hx⟩ : ∃ x, xs[k]? = some x := ⟨xs[k], List.getElem?_eq_getElem hkn⟩
      have h1 := HA.out k x hx
      have h2 := HB.out k x hx
      go_wp2
      go_quiet (fail)
      go_wp2
      exact ⟨⟨k + 1, by omega, by go_num, d + nq, rfl⟩, by simp [intOf]; omega⟩
    · go_wp2
      go_ret
      exact ⟨rfl, below_drewN _ _⟩
end Go.Proofs.YtdmfdclkpdliaaaGreatDoor
