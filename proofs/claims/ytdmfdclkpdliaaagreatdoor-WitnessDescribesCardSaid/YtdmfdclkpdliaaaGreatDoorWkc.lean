/- netverifylaw38.place: how the law writes a place of a network, and when it cannot. -/
import Derived.Test.YtdmfdclkpdliaaaGreatDoorWkb
namespace Go.Proofs.YtdmfdclkpdliaaaGreatDoor
open Go Go.RowKit Go.Shelf

set_option maxRecDepth 100000 in
set_option maxHeartbeats 1000000 in
theorem lplace_out (ao : Option Addr) (n cap : Nat) (r i : Int) (w : World) (h : r < 0 ∨ (n : Int) ≤ r) :
    Calls Tryz.prog 42 #[.agg #[.slice ao n cap], .agg #[.int .i64 r, .int .i64 i]] w fun e w' => e = .returned (.tuple #[.string ⟨#[]⟩, .bool false]) ∧ Below w.heap.size w w' := by
  by_cases h0 : r < 0
  · clear h
    go_enter Tryz.func42, Tryz.ntmps42
    go_wp2
    go_ret2
    exact ⟨rfl, below2 _ _ _⟩
  · have h1 : (n : Int) ≤ r := by omega
    clear h
    go_enter Tryz.func42, Tryz.ntmps42
    go_wp2
    go_ret2
    exact ⟨rfl, below2 _ _ _⟩
set_option maxRecDepth 100000 in
set_option maxHeartbeats 2000000 in
theorem lplace_name (n cap k b o m cap' : Nat) (ao : Option Addr) (nm : ByteArray) (c1 c3 c4 c5 c6 c7 c8 c9 c10 c11 c12 c13 c14 c15 c16 c17 c18 c19 c20 c21 c22 c23 c24 : Value) (w : World) (hk : k < n) (hb : b < w.heap.size) 
    (HR : Hid (w.rangeAt b (o + k * 25) [.string nm, c1, .slice ao m cap', c3, c4, c5, c6, c7, c8, c9, c10, c11, c12, c13, c14, c15, c16, c17, c18, c19, c20, c21, c22, c23, c24])) (H1 : Hid (∀ v ∈ [.string nm, c1, .slice ao m cap', c3, c4, c5, c6, c7, c8, c9, c10, c11, c12, c13, c14, c15, c16, c17, c18, c19, c20, c21, c22, c23, c24], v.oneCell' = true)) :
    Calls Tryz.prog 42 #[.agg #[.slice (some ⟨b, o, none⟩) n cap], .agg #[.int .i64 k, .int .i64 (-1)]] w fun e w' => e = .returned (.tuple #[.string nm, .bool true]) ∧ Below w.heap.size w w' := by
  have hk0 : (0 : Int) ≤ (k : Int) := Int.natCast_nonneg _
  have hk1 : (k : Int) < (n : Int) := by omega
  have HA := Lib.hid (all_oneCell_toArray H1.out)
  have HR2 := Lib.hid (rangeAt_below HR.out hb (below2 w (.cells #[.slice (some ⟨b, o, none⟩) n cap] 24) (.cells #[.int .i64 k, .int .i64 (-1)] 46)))
  clear H1 HR
  go_enter Tryz.func42, Tryz.ntmps42
  go_wp2_with (first
    | (with_reducible refine wpList_load_mid rfl 81 (.tmp 22) rfl b (o + k * 25) rfl _ _ HR2.out Tryz.underlying81 rfl (by kernel_rfl) ?_)
    | (refine wpList_store_new rfl 81 (.tmp 6) (.tmp 23) rfl _ _ _ rfl (w.heap.size + 1 + 1) (by simp) rfl rfl (by kernel_rfl) rfl HA.out ?_))
  go_ret2
  exact ⟨rfl, below3 _ _ _ _⟩
set_option maxRecDepth 100000 in
set_option maxHeartbeats 2000000 in
theorem lplace_lo (n cap k b o m cap' : Nat) (ao : Option Addr) (i : Int) (nm : ByteArray) (c1 c3 c4 c5 c6 c7 c8 c9 c10 c11 c12 c13 c14 c15 c16 c17 c18 c19 c20 c21 c22 c23 c24 : Value) (w : World) (hk : k < n) (hb : b < w.heap.size) (hi : i < -1)
    (HR : Hid (w.rangeAt b (o + k * 25) [.string nm, c1, .slice ao m cap', c3, c4, c5, c6, c7, c8, c9, c10, c11, c12, c13, c14, c15, c16, c17, c18, c19, c20, c21, c22, c23, c24])) (H1 : Hid (∀ v ∈ [.string nm, c1, .slice ao m cap', c3, c4, c5, c6, c7, c8, c9, c10, c11, c12, c13, c14, c15, c16, c17, c18, c19, c20, c21, c22, c23, c24], v.oneCell' = true)) :
    Calls Tryz.prog 42 #[.agg #[.slice (some ⟨b, o, none⟩) n cap], .agg #[.int .i64 k, .int .i64 i]] w fun e w' => e = .returned (.tuple #[.string ⟨#[]⟩, .bool false]) ∧ Below w.heap.size w w' := by
  have hk0 : (0 : Int) ≤ (k : Int) := Int.natCast_nonneg _
  have hk1 : (k : Int) < (n : Int) := by omega
  have hd : (i == -1) = false := beq_eq_false_iff_ne.2 (by omega)
  have hi0 : i < 0 := by omega
  have HA := Lib.hid (all_oneCell_toArray H1.out)
  have HR2 := Lib.hid (rangeAt_below HR.out hb (below2 w (.cells #[.slice (some ⟨b, o, none⟩) n cap] 24) (.cells #[.int .i64 k, .int .i64 i] 46)))
  clear H1 HR
  go_enter Tryz.func42, Tryz.ntmps42
  go_wp2_with (first
    | (with_reducible refine wpList_load_mid rfl 81 (.tmp 22) rfl b (o + k * 25) rfl _ _ HR2.out Tryz.underlying81 rfl (by kernel_rfl) ?_)
    | (refine wpList_store_new rfl 81 (.tmp 6) (.tmp 23) rfl _ _ _ rfl (w.heap.size + 1 + 1) (by simp) rfl rfl (by kernel_rfl) rfl HA.out ?_))
  go_ret2
  exact ⟨rfl, below3 _ _ _ _⟩
set_option maxRecDepth 100000 in
set_option maxHeartbeats 2000000 in
theorem lplace_hi (n cap k b o m cap' : Nat) (ao : Option Addr) (i : Int) (nm : ByteArray) (c1 c3 c4 c5 c6 c7 c8 c9 c10 c11 c12 c13 c14 c15 c16 c17 c18 c19 c20 c21 c22 c23 c24 : Value) (w : World) (hk : k < n) (hb : b < w.heap.size) (hi : 0 ≤ i) (hm : (m : Int) ≤ i)
    (HR : Hid (w.rangeAt b (o + k * 25) [.string nm, c1, .slice ao m cap', c3, c4, c5, c6, c7, c8, c9, c10, c11, c12, c13, c14, c15, c16, c17, c18, c19, c20, c21, c22, c23, c24])) (H1 : Hid (∀ v ∈ [.string nm, c1, .slice ao m cap', c3, c4, c5, c6, c7, c8, c9, c10, c11, c12, c13, c14, c15, c16, c17, c18, c19, c20, c21, c22, c23, c24], v.oneCell' = true)) :
    Calls Tryz.prog 42 #[.agg #[.slice (some ⟨b, o, none⟩) n cap], .agg #[.int .i64 k, .int .i64 i]] w fun e w' => e = .returned (.tuple #[.string ⟨#[]⟩, .bool false]) ∧ Below w.heap.size w w' := by
  have hk0 : (0 : Int) ≤ (k : Int) := Int.natCast_nonneg _
  have hk1 : (k : Int) < (n : Int) := by omega
  have hd : (i == -1) = false := beq_eq_false_iff_ne.2 (by omega)
  have HA := Lib.hid (all_oneCell_toArray H1.out)
  have HR2 := Lib.hid (rangeAt_below HR.out hb (below2 w (.cells #[.slice (some ⟨b, o, none⟩) n cap] 24) (.cells #[.int .i64 k, .int .i64 i] 46)))
  clear H1 HR
  go_enter Tryz.func42, Tryz.ntmps42
  go_wp2_with (first
    | (with_reducible refine wpList_load_mid rfl 81 (.tmp 22) rfl b (o + k * 25) rfl _ _ HR2.out Tryz.underlying81 rfl (by kernel_rfl) ?_)
    | (refine wpList_store_new rfl 81 (.tmp 6) (.tmp 23) rfl _ _ _ rfl (w.heap.size + 1 + 1) (by simp) rfl rfl (by kernel_rfl) rfl HA.out ?_))
  go_ret2
  exact ⟨rfl, below3 _ _ _ _⟩
set_option maxRecDepth 100000 in
set_option maxHeartbeats 2000000 in
theorem lplace_full (n cap k b o m cap' : Nat) (b1 o1 j : Nat) (y : ByteArray) (nm : ByteArray) (c1 c3 c4 c5 c6 c7 c8 c9 c10 c11 c12 c13 c14 c15 c16 c17 c18 c19 c20 c21 c22 c23 c24 : Value) (w : World) (hk : k < n) (hb : b < w.heap.size) (hj : j < m) (hb1 : b1 < w.heap.size) (hc : w.cell? ⟨b1, o1 + j * 12, none⟩ = some (.string y)) (hnm : nm.size ≤ 50) (hy : y.size ≤ 50)
    (HR : Hid (w.rangeAt b (o + k * 25) [.string nm, c1, .slice (some ⟨b1, o1, none⟩) m cap', c3, c4, c5, c6, c7, c8, c9, c10, c11, c12, c13, c14, c15, c16, c17, c18, c19, c20, c21, c22, c23, c24])) (H1 : Hid (∀ v ∈ [.string nm, c1, .slice (some ⟨b1, o1, none⟩) m cap', c3, c4, c5, c6, c7, c8, c9, c10, c11, c12, c13, c14, c15, c16, c17, c18, c19, c20, c21, c22, c23, c24], v.oneCell' = true)) :
    Calls Tryz.prog 42 #[.agg #[.slice (some ⟨b, o, none⟩) n cap], .agg #[.int .i64 k, .int .i64 j]] w fun e w' => e = .returned (.tuple #[.string (nm ++ ⟨#[58]⟩ ++ y), .bool true]) ∧ Below w.heap.size w w' := by
  have hk0 : (0 : Int) ≤ (k : Int) := Int.natCast_nonneg _
  have hk1 : (k : Int) < (n : Int) := by omega
  have hj0 : (0 : Int) ≤ (j : Int) := Int.natCast_nonneg _
  have hj1 : (j : Int) < (m : Int) := by omega
  have hjm : ((j : Int) == -1) = false := beq_eq_false_iff_ne.2 (by omega)
  have z1 : (nm ++ (⟨#[58]⟩ : ByteArray)).size = nm.size + 1 := by rw [ByteArray.size_append]; rfl
  have ha1 : ∀ w : World, (Op.stringOp .add nm ⟨#[58]⟩).run Tryz.prog w = .ok (.string (nm ++ ⟨#[58]⟩)) w := fun w => run_string_add_sum (P := Tryz.prog) (w := w) nm ⟨#[58]⟩ (by rw [show (ByteArray.mk #[58]).size = 1 from rfl]; omega)
  have ha2 : ∀ w : World, (Op.stringOp .add (nm ++ ⟨#[58]⟩) y).run Tryz.prog w = .ok (.string (nm ++ ⟨#[58]⟩ ++ y)) w := fun w => run_string_add_sum (P := Tryz.prog) (w := w) _ y (by omega)
  clear z1
  have e1 : b1 < w.heap.size + 1 := by omega
  have e2 : b1 < w.heap.size + 1 + 1 := by omega
  have HA := Lib.hid (all_oneCell_toArray H1.out)
  have HR2 := Lib.hid (rangeAt_below HR.out hb (below2 w (.cells #[.slice (some ⟨b, o, none⟩) n cap] 24) (.cells #[.int .i64 k, .int .i64 j] 46)))
  clear H1 HR
  go_enter Tryz.func42, Tryz.ntmps42
  go_wp2_with (first
    | (with_reducible refine wpList_load_mid rfl 81 (.tmp 22) rfl b (o + k * 25) rfl _ _ HR2.out Tryz.underlying81 rfl (by kernel_rfl) ?_)
    | (refine wpList_store_new rfl 81 (.tmp 6) (.tmp 23) rfl _ _ _ rfl (w.heap.size + 1 + 1) (by simp) rfl rfl (by kernel_rfl) rfl HA.out ?_))
  go_quiet (fail)
  go_wp2
  go_ret2
  exact ⟨rfl, belowN (below3 _ _ _ _) _⟩

theorem lplace_calls (B : Nat) (rs : List Rt) (nv : Value) (r i : Int) (w : World) (HN : Hid (NetAt B w nv rs)) (hB : B ≤ w.heap.size) (HO : Hid (NetOk rs)) :
    Calls Tryz.prog 42 #[.agg #[nv], .agg #[.int .i64 r, .int .i64 i]] w fun e w' => e = .returned (.tuple #[.string ⟨(if placeOk rs r i = true then placeT rs r i else []).toArray⟩, .bool (placeOk rs r i)]) ∧ Below w.heap.size w w' := by
  by_cases HP : placeOk rs r i = true
  · rw [if_pos HP, HP]
    obtain ⟨ao, cap, rfl, hn⟩ := HN.out
    obtain ⟨k, x, rfl, hx, hi⟩ := placeOk_cases HP
    obtain ⟨hk1, hk2, hk3⟩ := HO.out.2 x (List.mem_of_getElem? hx)
    have hk : k < rs.length := (List.getElem?_eq_some_iff.1 hx).1
    obtain ⟨b, o, rfl, hb, cs, hcl, hone, hr, hc0, ao', cap', hc2, hif⟩ := hn k x hx
    obtain ⟨c0, c1, c2, c3, c4, c5, c6, c7, c8, c9, c10, c11, c12, c13, c14, c15, c16, c17, c18, c19, c20, c21, c22, c23, c24, rfl⟩ := list25 cs hcl
    obtain rfl : c0 = .string x.name := by simpa using hc0
    obtain rfl : c2 = .slice ao' x.ifs.length cap' := by simpa using hc2
    rcases hi with rfl | ⟨j, y, rfl, hy⟩
    · rw [placeT_name hx, str_of]
      exact lplace_name rs.length cap k b o x.ifs.length cap' ao' x.name _ _ _ _ _ _ _ _ _ _ _ _ _ _ _ _ _ _ _ _ _ _ _ w hk (by omega) (Lib.hid hr) (Lib.hid hone)
    · obtain ⟨b1, o1, rfl, hb1, hc⟩ := hif j y hy
      rw [placeT_full hx hy, str_two]
      exact lplace_full rs.length cap k b o x.ifs.length cap' b1 o1 j y x.name _ _ _ _ _ _ _ _ _ _ _ _ _ _ _ _ _ _ _ _ _ _ _ w hk (by omega) (List.getElem?_eq_some_iff.1 hy).1 (by omega) hc hk1 (hk3 y (List.mem_of_getElem? hy)) (Lib.hid hr) (Lib.hid hone)
  · have HP : placeOk rs r i = false := by simpa using HP
    rw [if_neg (by rw [HP]; exact Bool.false_ne_true), HP]
    obtain ⟨ao, cap, rfl, hn⟩ := HN.out
    by_cases h : r < 0 ∨ (rs.length : Int) ≤ r
    · exact lplace_out ao rs.length cap r i w h
    · obtain ⟨k, rfl⟩ := Int.eq_ofNat_of_zero_le (show 0 ≤ r by omega)
      have hk : k < rs.length := by omega
      obtain ⟨b, o, rfl, hb, cs, hcl, hone, hr, hc0, ao', cap', hc2, _⟩ := hn k rs[k] (List.getElem?_eq_getElem hk)
      obtain ⟨c0, c1, c2, c3, c4, c5, c6, c7, c8, c9, c10, c11, c12, c13, c14, c15, c16, c17, c18, c19, c20, c21, c22, c23, c24, rfl⟩ := list25 cs hcl
      obtain rfl : c0 = .string rs[k].name := by simpa using hc0
      obtain rfl : c2 = .slice ao' rs[k].ifs.length cap' := by simpa using hc2
      rw [placeOk_in (List.getElem?_eq_getElem hk)] at HP
      simp only [Bool.or_eq_false_iff, Bool.and_eq_false_iff, decide_eq_false_iff_not] at HP
      by_cases hi : i < -1
      · exact lplace_lo rs.length cap k b o rs[k].ifs.length cap' ao' i rs[k].name _ _ _ _ _ _ _ _ _ _ _ _ _ _ _ _ _ _ _ _ _ _ _ w hk (by omega) hi (Lib.hid hr) (Lib.hid hone)
      · exact lplace_hi rs.length cap k b o rs[k].ifs.length cap' ao' i rs[k].name _ _ _ _ _ _ _ _ _ _ _ _ _ _ _ _ _ _ _ _ _ _ _ w hk (by omega) (by omega) (by omega) (Lib.hid hr) (Lib.hid hone)

end Go.Proofs.YtdmfdclkpdliaaaGreatDoor
