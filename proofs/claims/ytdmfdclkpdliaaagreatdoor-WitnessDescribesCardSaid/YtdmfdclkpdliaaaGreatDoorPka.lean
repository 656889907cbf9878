/- witness.packet: a packet's text. It turns nothing old. -/
import Derived.Test.YtdmfdclkpdliaaaGreatDoorFmt
import Derived.Test.YtdmfdclkpdliaaaGreatDoorWka
import Derived.Deep.RegionHeld3
import Derived.Lib.ItoaLen
import Derived.Deep.DeepCutAuto
namespace Go.Proofs.YtdmfdclkpdliaaaGreatDoor
open Go Go.RowKit Go.Shelf

/- two texts, one behind the other: a name that the walk does not look into -/
def cat (a b : List UInt8) : List UInt8 := a ++ b
theorem keepCall {B : Nat} {w W w' : World} {v0 v1 v2 v3 v4 : Value} (hb : Below W.heap.size W w') (h0 : W.cell? ⟨B, 0, none⟩ = some v0) (h1 : W.cell? ⟨B, 1, none⟩ = some v1) (h2 : W.cell? ⟨B, 2, none⟩ = some v2) (h3 : W.cell? ⟨B, 3, none⟩ = some v3) (h4 : W.cell? ⟨B, 4, none⟩ = some v4)
    (HB : Hid (Below B w W)) (hB : B < W.heap.size) : w'.cell? ⟨B, 0, none⟩ = some v0 ∧ w'.cell? ⟨B, 1, none⟩ = some v1 ∧ w'.cell? ⟨B, 2, none⟩ = some v2 ∧ w'.cell? ⟨B, 3, none⟩ = some v3 ∧ w'.cell? ⟨B, 4, none⟩ = some v4 ∧ Hid (Below B w w') ∧ B < w'.heap.size :=
  ⟨(hb.cell (p := ⟨B, 0, none⟩) hB).trans h0, (hb.cell (p := ⟨B, 1, none⟩) hB).trans h1, (hb.cell (p := ⟨B, 2, none⟩) hB).trans h2, (hb.cell (p := ⟨B, 3, none⟩) hB).trans h3, (hb.cell (p := ⟨B, 4, none⟩) hB).trans h4, Lib.hid (HB.out.trans (hb.mono (Nat.le_of_lt hB))), Nat.lt_of_lt_of_le hB hb.size⟩

set_option maxRecDepth 100000 in
set_option maxHeartbeats 8000000 in
theorem packet_calls (p : Pk) (HP : Hid p.Ok) (w : World) (HT : Hid (Tabs w)) :
    Calls Tryz.prog 39 #[.agg #[.int .u32 p.src, .int .u32 p.dst, .int .i64 p.proto, .int .i64 p.sport, .int .i64 p.dport]] w fun e w' => e = .returned (.string ⟨(pkT p).toArray⟩) ∧ Below w.heap.size w w' := by
  obtain ⟨src, dst, proto, sport, dport⟩ := p
  have hsrc := HP.out.src
  have hdst := HP.out.dst
  have H3 := Lib.hid HP.out.proto
  have H4 := Lib.hid HP.out.sport
  have H5 := Lib.hid HP.out.dport
  simp only at hsrc hdst
  have L1 := Lib.hid (fmtA_le src)
  have L2 := Lib.hid (fmtA_le dst)
  have L3 := Lib.hid (Lib.itoa_length_le proto H3.out.1 H3.out.2)
  have L4 := Lib.hid (Lib.itoa_length_le sport H4.out.1 H4.out.2)
  have L5 := Lib.hid (Lib.itoa_length_le dport H5.out.1 H5.out.2)
  have B0 := Lib.hid ((Below.refl w.heap.size w).alloc (Nat.le_refl _) (.cells #[.int .u32 src, .int .u32 dst, .int .i64 proto, .int .i64 sport, .int .i64 dport] 36))
  clear HP
  go_enter Tryz.func39, Tryz.ntmps39
  go_wp2_with fail
  go_region_held3 (fun w' => w'.cell? ⟨w.heap.size, 0, none⟩ = some (.int .u32 src) ∧ w'.cell? ⟨w.heap.size, 1, none⟩ = some (.int .u32 dst) ∧ w'.cell? ⟨w.heap.size, 2, none⟩ = some (.int .i64 proto) ∧ w'.cell? ⟨w.heap.size, 3, none⟩ = some (.int .i64 sport) ∧ w'.cell? ⟨w.heap.size, 4, none⟩ = some (.int .i64 dport) ∧ Hid (Below w.heap.size w w') ∧ w.heap.size < w'.heap.size)
    (first
      | (go_split_ands; exact keepCall hb (by assumption) (by assumption) (by assumption) (by assumption) (by assumption) (by assumption) (by assumption))
      | (go_split_ands; exact keepCall ((Below.refl _ _).alloc (Nat.le_refl _) _) (by assumption) (by assumption) (by assumption) (by assumption) (by assumption) (by assumption) (by assumption))
      | (go_split_ands; refine ⟨?_, ?_, ?_, ?_, ?_, Lib.hid B0.out.drew, ?_⟩ <;> go_keep)
      | go_keep)
    (first
      | (go_at_call 73; go_split_ands; refine (format_calls _ (by assumption) _ (Lib.hid (HT.out.below rfl (Hid.out (by assumption))))).mono ?_; rintro e w' ⟨rfl, hb⟩)
      | (go_at_call 35; go_split_ands; refine (itoa_calls _ (Hid.out (by assumption)) _ (Lib.hid (HT.out.below rfl (Hid.out (by assumption))))).mono ?_; rintro e w' ⟨rfl, hb⟩)
      | (go_at_call 37; go_split_ands; refine (line5 _ _ _ _ _ _ 5 _ (by omega) (heap_alloc_new _ _) (by have := L1.out; omega) (by have := L2.out; omega) (by have := L3.out; omega) (by have := L4.out; omega) (by have := L5.out; omega)).mono ?_; rintro e w' ⟨rfl, hb⟩))
  go_wp2
  go_ret
  go_split_ands
  exact ⟨by simp [pkT], Hid.out (by assumption)⟩

theorem cat_le {a b : List UInt8} {m n : Nat} (h1 : a.length ≤ m) (h2 : b.length ≤ n) : (cat a b).length ≤ m + n := by
  unfold cat
  rw [List.length_append]
  omega
theorem add_str {a b : List UInt8} {m n : Nat} (h1 : a.length ≤ m) (h2 : b.length ≤ n) (h : m + n ≤ 1000000) (w : World) : (Op.stringOp .add ⟨a.toArray⟩ ⟨b.toArray⟩).run Tryz.prog w = .ok (.string ⟨(cat a b).toArray⟩) w := by
  rw [run_string_add_sum (P := Tryz.prog) (w := w) ⟨a.toArray⟩ ⟨b.toArray⟩ (by have := h1; have := h2; simp [ByteArray.size]; omega)]
  congr 2
theorem decimal_i64 (n : Int) (h : I64 n) (w : World) : Calls Tryz.prog 41 #[.int .i64 n] w fun e w' => e = .returned (.string ⟨(Lib.itoa n).toArray⟩) ∧ Below w.heap.size w w' := decimal_calls n h.1 h.2 w

set_option maxRecDepth 100000 in
set_option maxHeartbeats 8000000 in
theorem lpacket_calls (p : Pk) (HP : Hid p.Ok) (w : World) (HT : Hid (Tabs w)) :
    Calls Tryz.prog 43 #[.agg #[.int .u32 p.src, .int .u32 p.dst, .int .i64 p.proto, .int .i64 p.sport, .int .i64 p.dport]] w fun e w' => e = .returned (.string ⟨(pkT p).toArray⟩) ∧ Below w.heap.size w w' := by
  obtain ⟨src, dst, proto, sport, dport⟩ := p
  have hsrc := HP.out.src
  have hdst := HP.out.dst
  have H3 := Lib.hid HP.out.proto
  have H4 := Lib.hid HP.out.sport
  have H5 := Lib.hid HP.out.dport
  simp only at hsrc hdst
  have L1 := Lib.hid (fmtA_le src)
  have L2 := Lib.hid (fmtA_le dst)
  have L3 := Lib.hid (Lib.itoa_length_le proto H3.out.1 H3.out.2)
  have L4 := Lib.hid (Lib.itoa_length_le sport H4.out.1 H4.out.2)
  have L5 := Lib.hid (Lib.itoa_length_le dport H5.out.1 H5.out.2)
  have B0 := Lib.hid ((Below.refl w.heap.size w).alloc (Nat.le_refl _) (.cells #[.int .u32 src, .int .u32 dst, .int .i64 proto, .int .i64 sport, .int .i64 dport] 36))
  have l0 := Lib.hid (show ([32] : List UInt8).length ≤ 1 from Nat.le_refl _)
  have m1 := Lib.hid (cat_le L1.out l0.out)
  have m2 := Lib.hid (cat_le m1.out L2.out)
  have m3 := Lib.hid (cat_le m2.out l0.out)
  have m4 := Lib.hid (cat_le m3.out L3.out)
  have m5 := Lib.hid (cat_le m4.out l0.out)
  have m6 := Lib.hid (cat_le m5.out L4.out)
  have m7 := Lib.hid (cat_le m6.out l0.out)
  have a1 := add_str L1.out l0.out (by omega)
  have a2 := add_str m1.out L2.out (by omega)
  have a3 := add_str m2.out l0.out (by omega)
  have a4 := add_str m3.out L3.out (by omega)
  have a5 := add_str m4.out l0.out (by omega)
  have a6 := add_str m5.out L4.out (by omega)
  have a7 := add_str m6.out l0.out (by omega)
  have a8 := add_str m7.out L5.out (by omega)
  clear HP
  go_enter Tryz.func43, Tryz.ntmps43
  go_wp2_with fail
  go_region_held3 (fun w' => w'.cell? ⟨w.heap.size, 0, none⟩ = some (.int .u32 src) ∧ w'.cell? ⟨w.heap.size, 1, none⟩ = some (.int .u32 dst) ∧ w'.cell? ⟨w.heap.size, 2, none⟩ = some (.int .i64 proto) ∧ w'.cell? ⟨w.heap.size, 3, none⟩ = some (.int .i64 sport) ∧ w'.cell? ⟨w.heap.size, 4, none⟩ = some (.int .i64 dport) ∧ Hid (Below w.heap.size w w') ∧ w.heap.size < w'.heap.size)
    (first
      | (go_split_ands; exact keepCall hb (by assumption) (by assumption) (by assumption) (by assumption) (by assumption) (by assumption) (by assumption))
      | (go_split_ands; exact keepCall ((Below.refl _ _).alloc (Nat.le_refl _) _) (by assumption) (by assumption) (by assumption) (by assumption) (by assumption) (by assumption) (by assumption))
      | (go_split_ands; refine ⟨?_, ?_, ?_, ?_, ?_, Lib.hid B0.out.drew, ?_⟩ <;> go_keep)
      | go_keep)
    (first
      | (go_at_call 73; go_split_ands; refine (format_calls _ (by assumption) _ (Lib.hid (HT.out.below rfl (Hid.out (by assumption))))).mono ?_; rintro e w' ⟨rfl, hb⟩)
      | (go_at_call 41; go_split_ands; refine (decimal_i64 _ (Hid.out (by assumption)) _).mono ?_; rintro e w' ⟨rfl, hb⟩))
  go_wp2
  go_ret
  go_split_ands
  exact ⟨by simp [pkT, cat], Hid.out (by assumption)⟩

end Go.Proofs.YtdmfdclkpdliaaaGreatDoor
