/- The small functions that write an answer: word, line; they turn nothing old. -/
import Derived.Test.YtdmfdclkpdliaaaGreatDoorNet
import Derived.Test.YtdmfdclkpdliaaaGreatDoorJon
import Derived.WalkKit
import Derived.WalkSpells
import Derived.WalkLawsBesides
import Derived.BigCall
import Derived.BigGuard
namespace Go.Proofs.YtdmfdclkpdliaaaGreatDoor
open Go Go.RowKit Go.Shelf

set_option maxRecDepth 100000 in
theorem word_calls (k : Int) (w : World) : Calls Tryz.prog 40 #[.int .i64 k] w fun e w' => e = .returned (.string ⟨(wordT k).toArray⟩) ∧ w = w' := by
  by_cases h1 : k = 1
  · subst h1; go_enter Tryz.func40, Tryz.ntmps40; go_wp2; go_ret; exact ⟨rfl, rfl⟩
  by_cases h2 : k = 2
  · subst h2; go_enter Tryz.func40, Tryz.ntmps40; go_wp2; go_ret; exact ⟨rfl, rfl⟩
  by_cases h3 : k = 3
  · subst h3; go_enter Tryz.func40, Tryz.ntmps40; go_wp2; go_ret; exact ⟨rfl, rfl⟩
  by_cases h4 : k = 4
  · subst h4; go_enter Tryz.func40, Tryz.ntmps40; go_wp2; go_ret; exact ⟨rfl, rfl⟩
  by_cases h5 : k = 5
  · subst h5; go_enter Tryz.func40, Tryz.ntmps40; go_wp2; go_ret; exact ⟨rfl, rfl⟩
  by_cases h6 : k = 6
  · subst h6; go_enter Tryz.func40, Tryz.ntmps40; go_wp2; go_ret; exact ⟨rfl, rfl⟩
  by_cases h7 : k = 7
  · subst h7; go_enter Tryz.func40, Tryz.ntmps40; go_wp2; go_ret; exact ⟨rfl, rfl⟩
  by_cases h8 : k = 8
  · subst h8; go_enter Tryz.func40, Tryz.ntmps40; go_wp2; go_ret; exact ⟨rfl, rfl⟩
  have e : wordT k = [] := by simp [wordT, h1, h2, h3, h4, h5, h6, h7, h8]
  rw [e]
  go_enter Tryz.func40, Tryz.ntmps40; go_wp2; go_ret; exact ⟨rfl, rfl⟩

theorem line_calls (bk n c : Nat) (xs : List (List UInt8)) (w : World) (hn : xs.length = n) (hc : n ≤ c) (hN : n ≤ 100) (hb : w.heap[bk]? = some (.cells (xs.map fun x => Value.string ⟨x.toArray⟩).toArray 9 (0, 0)))
    (hlen : (Lib.join xs [32]).length ≤ 140737488355328) :
    Calls Tryz.prog 37 #[.slice (some ⟨bk, 0, none⟩) n c] w fun e w' => e = .returned (.string ⟨(Lib.join xs [32]).toArray⟩) ∧ Below w.heap.size w w' := by
  have hbk : bk < w.heap.size := (Array.getElem?_eq_some_iff.1 hb).1
  have hm : (xs.map (fun x : List UInt8 => ByteArray.mk x.toArray)).map (·.data.toList) = xs := by rw [List.map_map]; simp [Function.comp_def]
  have hJ := fun w1 (h1 : w1 = w) => join_calls bk 0 c (xs.map fun x => ByteArray.mk x.toArray) ⟨#[32]⟩ w1 (fun j x hx => by
    subst h1
    rw [cell_of_row w1 bk (0 + j) _ 9 (0, 0) hb]
    simp only [List.getElem?_map, Option.map_eq_some_iff] at hx
    obtain ⟨y, hy, rfl⟩ := hx
    simp [hy]) (h1 ▸ hbk) (by rw [List.length_map, hn]; omega) (by rw [List.length_map, hn]; exact hc) (by rw [hm]; exact hlen)
  rw [hm, List.length_map, hn] at hJ
  have HJ := Lib.hid hJ
  clear hJ hb hm hn
  go_enter Tryz.func37, Tryz.ntmps37
  go_wp2_with (go_at_call 72; refine (HJ.out _ rfl).mono ?_; rintro e w' ⟨rfl, hb⟩)
  go_ret
  exact ⟨rfl, hb⟩

/- the three lengths that occur; names that the walk does not look into -/
def j2 (a b : List UInt8) : List UInt8 := a ++ [32] ++ b
def j3 (a b d : List UInt8) : List UInt8 := a ++ [32] ++ b ++ [32] ++ d
theorem line2 (a b : List UInt8) (bk c : Nat) (w : World) (hc : 2 ≤ c) (hb : w.heap[bk]? = some (.cells #[.string ⟨a.toArray⟩, .string ⟨b.toArray⟩] 9 (0, 0))) (ha : a.length ≤ 1000) (hbl : b.length ≤ 1000) :
    Calls Tryz.prog 37 #[.slice (some ⟨bk, 0, none⟩) 2 c] w fun e w' => e = .returned (.string ⟨(j2 a b).toArray⟩) ∧ Below w.heap.size w w' := by
  have e : Lib.join [a, b] [32] = a ++ [32] ++ b := by simp [Lib.join, List.intercalate, List.intersperse]
  have h := line_calls bk 2 c [a, b] w rfl hc (by omega) hb (by rw [e]; simp; omega)
  rw [e] at h
  exact h
theorem line3 (a b d : List UInt8) (bk c : Nat) (w : World) (hc : 3 ≤ c) (hb : w.heap[bk]? = some (.cells #[.string ⟨a.toArray⟩, .string ⟨b.toArray⟩, .string ⟨d.toArray⟩] 9 (0, 0))) (ha : a.length ≤ 1000) (hbl : b.length ≤ 1000) (hd : d.length ≤ 1000) :
    Calls Tryz.prog 37 #[.slice (some ⟨bk, 0, none⟩) 3 c] w fun e w' => e = .returned (.string ⟨(j3 a b d).toArray⟩) ∧ Below w.heap.size w w' := by
  have e : Lib.join [a, b, d] [32] = a ++ [32] ++ b ++ [32] ++ d := by simp [Lib.join, List.intercalate, List.intersperse]
  have h := line_calls bk 3 c [a, b, d] w rfl hc (by omega) hb (by rw [e]; simp; omega)
  rw [e] at h
  exact h
theorem line5 (a b d f g : List UInt8) (bk c : Nat) (w : World) (hc : 5 ≤ c) (hb : w.heap[bk]? = some (.cells #[.string ⟨a.toArray⟩, .string ⟨b.toArray⟩, .string ⟨d.toArray⟩, .string ⟨f.toArray⟩, .string ⟨g.toArray⟩] 9 (0, 0)))
    (ha : a.length ≤ 100) (hbl : b.length ≤ 100) (hd : d.length ≤ 100) (hf : f.length ≤ 100) (hg : g.length ≤ 100) :
    Calls Tryz.prog 37 #[.slice (some ⟨bk, 0, none⟩) 5 c] w fun e w' => e = .returned (.string ⟨(a ++ [32] ++ b ++ [32] ++ d ++ [32] ++ f ++ [32] ++ g).toArray⟩) ∧ Below w.heap.size w w' := by
  have e : Lib.join [a, b, d, f, g] [32] = a ++ [32] ++ b ++ [32] ++ d ++ [32] ++ f ++ [32] ++ g := by simp [Lib.join, List.intercalate, List.intersperse]
  have h := line_calls bk 5 c [a, b, d, f, g] w rfl hc (by omega) hb (by rw [e]; simp; omega)
  rw [e] at h
  exact h

end Go.Proofs.YtdmfdclkpdliaaaGreatDoor
