/- exists, place (both texts): a place of a network exists, and how it is written. -/
import Derived.Test.YtdmfdclkpdliaaaGreatDoorNet
import Derived.WalkKit
import Derived.WalkSpells
import Derived.WalkLawsBesides
import Derived.BigCall
import Derived.BigGuard
import Derived.Deep.QuietTactic
import Derived.BigQuiet
namespace Go.Proofs.YtdmfdclkpdliaaaGreatDoor
open Go Go.RowKit Go.Shelf

theorem below2 (w : World) (a b : Obj) : Below w.heap.size w ((w.alloc a).alloc b) := ((Below.refl _ _).alloc (Nat.le_refl _) _).alloc (by simp) _
theorem below3 (w : World) (a b c : Obj) : Below w.heap.size w (((w.alloc a).alloc b).alloc c) := (below2 w a b).alloc (by simp; omega) _
theorem belowN {B : Nat} {a w : World} (h : Below B a w) (n : Nat) : Below B a (w.drewN n) := ⟨h.os, h.tape, h.output, h.size, h.block⟩
theorem list25 (cs : List Value) (h : cs.length = 25) : ∃ c0 c1 c2 c3 c4 c5 c6 c7 c8 c9 c10 c11 c12 c13 c14 c15 c16 c17 c18 c19 c20 c21 c22 c23 c24 : Value, cs = [c0, c1, c2, c3, c4, c5, c6, c7, c8, c9, c10, c11, c12, c13, c14, c15, c16, c17, c18, c19, c20, c21, c22, c23, c24] :=
  match cs, h with
  | [c0, c1, c2, c3, c4, c5, c6, c7, c8, c9, c10, c11, c12, c13, c14, c15, c16, c17, c18, c19, c20, c21, c22, c23, c24], _ => ⟨c0, c1, c2, c3, c4, c5, c6, c7, c8, c9, c10, c11, c12, c13, c14, c15, c16, c17, c18, c19, c20, c21, c22, c23, c24, rfl⟩

theorem placeOk_in {rs : List Rt} {k : Nat} {x : Rt} (h : rs[k]? = some x) (i : Int) : placeOk rs k i = (decide (i = -1) || (decide (0 ≤ i) && decide (i < x.ifs.length))) := by
  unfold placeOk
  rw [if_pos (by omega), show (k : Int).toNat = k by simp, h]
theorem placeOk_out {rs : List Rt} {r : Int} (h : r < 0 ∨ (rs.length : Int) ≤ r) (i : Int) : placeOk rs r i = false := by
  unfold placeOk
  by_cases h0 : 0 ≤ r
  · rw [if_pos h0, List.getElem?_eq_none (by omega)]
  · rw [if_neg h0]

set_option maxRecDepth 100000 in
set_option maxHeartbeats 1000000 in
theorem exists_out (ao : Option Addr) (n cap : Nat) (r i : Int) (w : World) (h : r < 0 ∨ (n : Int) ≤ r) :
    Calls Tryz.prog 36 #[.agg #[.slice ao n cap], .agg #[.int .i64 r, .int .i64 i]] w fun e w' => e = .returned (.bool false) ∧ Below w.heap.size w w' := by
  by_cases h0 : r < 0
  · clear h
    go_enter Tryz.func36, Tryz.ntmps36
    go_wp2
    go_ret
    exact ⟨rfl, below2 _ _ _⟩
  · have h1 : (n : Int) ≤ r := by omega
    clear h
    go_enter Tryz.func36, Tryz.ntmps36
    go_wp2
    go_ret
    exact ⟨rfl, below2 _ _ _⟩

set_option maxRecDepth 100000 in
set_option maxHeartbeats 1000000 in
theorem exists_lo (n cap k b o : Nat) (i : Int) (w : World) (hk : k < n) (hi : i < -1) :
    Calls Tryz.prog 36 #[.agg #[.slice (some ⟨b, o, none⟩) n cap], .agg #[.int .i64 k, .int .i64 i]] w fun e w' => e = .returned (.bool false) ∧ Below w.heap.size w w' := by
  have hk0 : (0 : Int) ≤ (k : Int) := Int.natCast_nonneg _
  have hk1 : (k : Int) < (n : Int) := by omega
  have hd : decide ((-1 : Int) ≤ i) = false := decide_eq_false (by omega)
  go_enter Tryz.func36, Tryz.ntmps36
  go_wp2
  go_quiet (fail)
  go_wp2
  go_ret
  exact ⟨rfl, belowN (below2 _ _ _) _⟩
set_option maxRecDepth 100000 in
set_option maxHeartbeats 1000000 in
theorem exists_hi (n cap k b o m cap' : Nat) (ao : Option Addr) (i : Int) (w : World) (hk : k < n) (hi : -1 ≤ i) (hb : b < w.heap.size) (hc : w.cell? ⟨b, o + k * 25 + 2, none⟩ = some (.slice ao m cap')) :
    Calls Tryz.prog 36 #[.agg #[.slice (some ⟨b, o, none⟩) n cap], .agg #[.int .i64 k, .int .i64 i]] w fun e w' => e = .returned (.bool (decide (i < (m : Int)))) ∧ Below w.heap.size w w' := by
  have hk0 : (0 : Int) ≤ (k : Int) := Int.natCast_nonneg _
  have hk1 : (k : Int) < (n : Int) := by omega
  have hd : decide ((-1 : Int) ≤ i) = true := decide_eq_true (by omega)
  go_enter Tryz.func36, Tryz.ntmps36
  go_wp2
  go_quiet (fail)
  go_wp2
  go_ret
  exact ⟨rfl, belowN (below2 _ _ _) _⟩

theorem exists_calls (B : Nat) (rs : List Rt) (nv : Value) (r i : Int) (w : World) (HN : Hid (NetAt B w nv rs)) (hB : B ≤ w.heap.size) :
    Calls Tryz.prog 36 #[.agg #[nv], .agg #[.int .i64 r, .int .i64 i]] w fun e w' => e = .returned (.bool (placeOk rs r i)) ∧ Below w.heap.size w w' := by
  obtain ⟨ao, cap, rfl, hn⟩ := HN.out
  by_cases h : r < 0 ∨ (rs.length : Int) ≤ r
  · rw [placeOk_out h]
    exact exists_out ao rs.length cap r i w h
  · obtain ⟨k, rfl⟩ := Int.eq_ofNat_of_zero_le (show 0 ≤ r by omega)
    have hk : k < rs.length := by omega
    obtain ⟨b, o, rfl, hb, cs, hcl, _, hr, _, ao', cap', hc2, _⟩ := hn k rs[k] (List.getElem?_eq_getElem hk)
    rw [placeOk_in (List.getElem?_eq_getElem hk)]
    by_cases hi : i < -1
    · rw [show (decide (i = -1) || (decide (0 ≤ i) && decide (i < (rs[k].ifs.length : Int)))) = false by simp; omega]
      exact exists_lo rs.length cap k b o i w hk hi
    · rw [show (decide (i = -1) || (decide (0 ≤ i) && decide (i < (rs[k].ifs.length : Int)))) = decide (i < (rs[k].ifs.length : Int)) by
        rw [Bool.eq_iff_iff]; simp; omega]
      exact exists_hi rs.length cap k b o rs[k].ifs.length cap' ao' i w hk (by omega) (by omega) (hr 2 _ hc2)

/- place: the name alone -/
theorem str_of (x : ByteArray) : (⟨x.data.toList.toArray⟩ : ByteArray) = x := by cases x; simp
set_option maxRecDepth 100000 in
set_option maxHeartbeats 2000000 in
theorem place_name (n cap k b o m cap' : Nat) (ao : Option Addr) (nm : ByteArray) (c1 c3 c4 c5 c6 c7 c8 c9 c10 c11 c12 c13 c14 c15 c16 c17 c18 c19 c20 c21 c22 c23 c24 : Value) (w : World) (hk : k < n) (hb : b < w.heap.size)
    (HR : Hid (w.rangeAt b (o + k * 25) [.string nm, c1, .slice ao m cap', c3, c4, c5, c6, c7, c8, c9, c10, c11, c12, c13, c14, c15, c16, c17, c18, c19, c20, c21, c22, c23, c24])) (H1 : Hid (∀ v ∈ [.string nm, c1, .slice ao m cap', c3, c4, c5, c6, c7, c8, c9, c10, c11, c12, c13, c14, c15, c16, c17, c18, c19, c20, c21, c22, c23, c24], v.oneCell' = true)) :
    Calls Tryz.prog 38 #[.agg #[.slice (some ⟨b, o, none⟩) n cap], .agg #[.int .i64 k, .int .i64 (-1)]] w fun e w' => e = .returned (.string nm) ∧ Below w.heap.size w w' := by
  have hk0 : (0 : Int) ≤ (k : Int) := Int.natCast_nonneg _
  have hk1 : (k : Int) < (n : Int) := by omega
  have HA := Lib.hid (all_oneCell_toArray H1.out)
  have HR2 := Lib.hid (rangeAt_below HR.out hb (below2 w (.cells #[.slice (some ⟨b, o, none⟩) n cap] 24) (.cells #[.int .i64 k, .int .i64 (-1)] 46)))
  clear H1 HR
  go_enter Tryz.func38, Tryz.ntmps38
  go_wp2_with (first
    | (with_reducible refine wpList_load_mid rfl 81 (.tmp 10) rfl b (o + k * 25) rfl _ _ HR2.out Tryz.underlying81 rfl (by kernel_rfl) ?_)
    | (refine wpList_store_new rfl 81 (.tmp 5) (.tmp 11) rfl _ _ _ rfl (w.heap.size + 1 + 1) (by simp) rfl rfl (by kernel_rfl) rfl HA.out ?_))
  go_ret
  exact ⟨rfl, below3 _ _ _ _⟩

set_option maxRecDepth 100000 in
set_option maxHeartbeats 2000000 in
theorem place_full (n cap k b o m cap' b1 o1 j : Nat) (nm y : ByteArray) (c1 c3 c4 c5 c6 c7 c8 c9 c10 c11 c12 c13 c14 c15 c16 c17 c18 c19 c20 c21 c22 c23 c24 : Value) (w : World) (hk : k < n) (hb : b < w.heap.size) (hj : j < m) (hb1 : b1 < w.heap.size)
    (HR : Hid (w.rangeAt b (o + k * 25) [.string nm, c1, .slice (some ⟨b1, o1, none⟩) m cap', c3, c4, c5, c6, c7, c8, c9, c10, c11, c12, c13, c14, c15, c16, c17, c18, c19, c20, c21, c22, c23, c24])) (H1 : Hid (∀ v ∈ [.string nm, c1, .slice (some ⟨b1, o1, none⟩) m cap', c3, c4, c5, c6, c7, c8, c9, c10, c11, c12, c13, c14, c15, c16, c17, c18, c19, c20, c21, c22, c23, c24], v.oneCell' = true)) (hc : w.cell? ⟨b1, o1 + j * 12, none⟩ = some (.string y)) (hnm : nm.size ≤ 50) (hy : y.size ≤ 50) :
    Calls Tryz.prog 38 #[.agg #[.slice (some ⟨b, o, none⟩) n cap], .agg #[.int .i64 k, .int .i64 j]] w fun e w' => e = .returned (.string (nm ++ ⟨#[58]⟩ ++ y)) ∧ Below w.heap.size w w' := by
  have hk0 : (0 : Int) ≤ (k : Int) := Int.natCast_nonneg _
  have hk1 : (k : Int) < (n : Int) := by omega
  have hj0 : (0 : Int) ≤ (j : Int) := Int.natCast_nonneg _
  have hj1 : (j : Int) < (m : Int) := by omega
  have hjm : ((j : Int) == -1) = false := beq_eq_false_iff_ne.2 (by omega)
  have HA := Lib.hid (all_oneCell_toArray H1.out)
  have HR2 := Lib.hid (rangeAt_below HR.out hb (below2 w (.cells #[.slice (some ⟨b, o, none⟩) n cap] 24) (.cells #[.int .i64 k, .int .i64 j] 46)))
  clear H1 HR
  have z1 : (nm ++ (⟨#[58]⟩ : ByteArray)).size = nm.size + 1 := by rw [ByteArray.size_append]; rfl
  have ha1 : ∀ w : World, (Op.stringOp .add nm ⟨#[58]⟩).run Tryz.prog w = .ok (.string (nm ++ ⟨#[58]⟩)) w := fun w => run_string_add_sum (P := Tryz.prog) (w := w) nm ⟨#[58]⟩ (by rw [show (ByteArray.mk #[58]).size = 1 from rfl]; omega)
  have ha2 : ∀ w : World, (Op.stringOp .add (nm ++ ⟨#[58]⟩) y).run Tryz.prog w = .ok (.string (nm ++ ⟨#[58]⟩ ++ y)) w := fun w => run_string_add_sum (P := Tryz.prog) (w := w) _ y (by omega)
  clear z1
  have e1 : b1 < w.heap.size + 1 := by omega
  have e2 : b1 < w.heap.size + 1 + 1 := by omega
  go_enter Tryz.func38, Tryz.ntmps38
  go_wp2_with (first
    | (with_reducible refine wpList_load_mid rfl 81 (.tmp 10) rfl b (o + k * 25) rfl _ _ HR2.out Tryz.underlying81 rfl (by kernel_rfl) ?_)
    | (refine wpList_store_new rfl 81 (.tmp 5) (.tmp 11) rfl _ _ _ rfl (w.heap.size + 1 + 1) (by simp) rfl rfl (by kernel_rfl) rfl HA.out ?_))
  go_quiet (fail)
  go_wp2
  go_ret
  exact ⟨rfl, belowN (below3 _ _ _ _) _⟩

theorem placeOk_cases {rs : List Rt} {r i : Int} (h : placeOk rs r i = true) : ∃ (k : Nat) (x : Rt), r = k ∧ rs[k]? = some x ∧ (i = -1 ∨ ∃ (j : Nat) (y : ByteArray), i = j ∧ x.ifs[j]? = some y) := by
  by_cases h0 : r < 0 ∨ (rs.length : Int) ≤ r
  · rw [placeOk_out h0] at h; cases h
  · obtain ⟨k, rfl⟩ := Int.eq_ofNat_of_zero_le (show 0 ≤ r by omega)
    have hk : k < rs.length := by omega
    rw [placeOk_in (List.getElem?_eq_getElem hk)] at h
    refine ⟨k, rs[k], rfl, List.getElem?_eq_getElem hk, ?_⟩
    simp only [Bool.or_eq_true, Bool.and_eq_true, decide_eq_true_eq] at h
    rcases h with h | ⟨h1, h2⟩
    · exact .inl h
    · obtain ⟨j, rfl⟩ := Int.eq_ofNat_of_zero_le h1
      exact .inr ⟨j, rs[k].ifs[j]'(by omega), rfl, List.getElem?_eq_getElem _⟩
theorem placeT_name {rs : List Rt} {k : Nat} {x : Rt} (h : rs[k]? = some x) : placeT rs k (-1) = x.name.data.toList := by
  unfold placeT
  rw [show (k : Int).toNat = k by simp, h]
  simp
theorem placeT_full {rs : List Rt} {k j : Nat} {x : Rt} {y : ByteArray} (h : rs[k]? = some x) (hy : x.ifs[j]? = some y) : placeT rs k j = x.name.data.toList ++ [58] ++ y.data.toList := by
  unfold placeT
  rw [show (k : Int).toNat = k by simp, h]
  simp only [show (j : Int).toNat = j by simp, hy]
  rw [if_neg (by omega)]
  rfl
theorem str_two (x y : ByteArray) : (⟨(x.data.toList ++ [58] ++ y.data.toList).toArray⟩ : ByteArray) = x ++ ⟨#[58]⟩ ++ y := by
  apply ByteArray.ext
  simp

theorem place_calls (B : Nat) (rs : List Rt) (nv : Value) (r i : Int) (w : World) (HN : Hid (NetAt B w nv rs)) (hB : B ≤ w.heap.size) (HO : Hid (NetOk rs)) (HP : Hid (placeOk rs r i = true)) :
    Calls Tryz.prog 38 #[.agg #[nv], .agg #[.int .i64 r, .int .i64 i]] w fun e w' => e = .returned (.string ⟨(placeT rs r i).toArray⟩) ∧ Below w.heap.size w w' := by
  obtain ⟨ao, cap, rfl, hn⟩ := HN.out
  obtain ⟨k, x, rfl, hx, hi⟩ := placeOk_cases HP.out
  obtain ⟨hk1, hk2, hk3⟩ := HO.out.2 x (List.mem_of_getElem? hx)
  have hk : k < rs.length := (List.getElem?_eq_some_iff.1 hx).1
  obtain ⟨b, o, rfl, hb, cs, hcl, hone, hr, hc0, ao', cap', hc2, hif⟩ := hn k x hx
  obtain ⟨c0, c1, c2, c3, c4, c5, c6, c7, c8, c9, c10, c11, c12, c13, c14, c15, c16, c17, c18, c19, c20, c21, c22, c23, c24, rfl⟩ := list25 cs hcl
  obtain rfl : c0 = .string x.name := by simpa using hc0
  obtain rfl : c2 = .slice ao' x.ifs.length cap' := by simpa using hc2
  rcases hi with rfl | ⟨j, y, rfl, hy⟩
  · rw [placeT_name hx, str_of]
    exact place_name rs.length cap k b o x.ifs.length cap' ao' x.name _ _ _ _ _ _ _ _ _ _ _ _ _ _ _ _ _ _ _ _ _ _ _ w hk (by omega) (Lib.hid hr) (Lib.hid hone)
  · obtain ⟨b1, o1, rfl, hb1, hc⟩ := hif j y hy
    rw [placeT_full hx hy, str_two]
    exact place_full rs.length cap k b o x.ifs.length cap' b1 o1 j x.name y _ _ _ _ _ _ _ _ _ _ _ _ _ _ _ _ _ _ _ _ _ _ _ w hk (by omega) (List.getElem?_eq_some_iff.1 hy).1 (by omega) (Lib.hid hr) (Lib.hid hone) hc hk1 (hk3 y (List.mem_of_getElem? hy))

end Go.Proofs.YtdmfdclkpdliaaaGreatDoor
