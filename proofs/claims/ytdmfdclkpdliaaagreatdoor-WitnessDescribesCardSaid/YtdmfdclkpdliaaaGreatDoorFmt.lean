/- addr.Format writes an address's four octets with dots between them; strconv.Itoa as the shelf has it. They turn nothing old. -/
import Derived.Test.YtdmfdclkpdliaaaGreatDoorNet
import Derived.Test.YtdmfdclkpdliaaaGreatDoorShf
import Derived.Test.YtdmfdclkpdliaaaGreatDoorDec
import Derived.WalkKit
import Derived.WalkSpells
import Derived.WalkLawsBesides
import Derived.BigCall
import Derived.BigGuard
import Derived.OwnWalk
import Derived.Laws.BitsAllLaws
import Derived.Deep.AppendLies
namespace Go.Proofs.YtdmfdclkpdliaaaGreatDoor
open Go Go.RowKit Go.Shelf

theorem below_grow {w w' : World} (h : ∃ k os, w' = Sort.grow (w.drewN k) os) : Below w.heap.size w w' := by
  obtain ⟨k, os, rfl⟩ := h
  refine ⟨rfl, rfl, rfl, ?_, fun j hj => ?_⟩
  · simp [Sort.grow]
  · simp [Sort.grow, Array.getElem?_append, hj]
theorem itoa_calls (n : Int) (h : I64 n) (w : World) (HT : Hid (Tabs w)) : Calls Tryz.prog 35 #[.int .i64 n] w fun e w' => e = .returned (.string ⟨(Lib.itoa n).toArray⟩) ∧ Below w.heap.size w w' :=
  (Tryz.strconv_Itoa n h.1 h.2 w HT.out).mono fun _ _ ⟨he, hw⟩ => ⟨he, below_grow hw⟩

theorem append_calls (B n u : Nat) (hu : u < 256) (sv : Value) (xs : List Value) (w : World) (hown : w.ownsRow B 5 1 sv n xs) (hBw : B ≤ w.heap.size) (hlim : n + 20 ≤ 140737488355328) (HT : Hid (Tabs w)) :
    Calls Tryz.prog 111 #[sv, .int .u64 u, .int .i64 10] w fun e w' => ∃ v', e = .returned v' ∧ w'.ownsRow B 5 1 v' (n + (Lib.decDigits u).length) (xs ++ Lib.byteCells (Lib.decDigits u)) ∧ Below B w w' := by
  have HA := Lib.hid (Tryz.internal_strconv_AppendUint_10 B n u (by omega) sv xs w hown hBw hlim HT.out)
  clear HT hown
  go_enter Tryz.func111, Tryz.ntmps111
  go_wp2_with (go_at_call 181; refine HA.out.mono ?_; rintro e w' ⟨v', rfl, hown', hb, _⟩)
  go_ret
  exact ⟨v', rfl, hown', hb⟩

theorem Tryz.info5 : (Tryz.prog.info? 5).map (fun i => (i.zero, i.size, i.bytes)) = some (some (.int .u8 0), 1, 1) := by kernel_rfl
theorem foldl_push : ∀ (l : List UInt8) (acc : ByteArray), List.foldl (fun b a => ByteArray.push b a) acc l = ⟨acc.data ++ l.toArray⟩
  | [], acc => by cases acc; simp
  | x :: l, acc => by
    rw [List.foldl_cons, foldl_push l]
    cases acc
    simp [ByteArray.push]
theorem conv_own (B : Nat) (v : Value) (l : List UInt8) (w : World) (h : w.ownsRow B 5 1 v l.length (Lib.byteCells l)) : (Go.convert 175 9 v).run Tryz.prog w = .ok (.string ⟨l.toArray⟩) w := by
  rcases h.2 with ⟨rfl, h0⟩ | ⟨g, cap, cur, rfl, _, hg, hc, _, hs, ht⟩
  · obtain rfl : l = [] := List.eq_nil_of_length_eq_zero h0
    simp [Go.convert, run_underlying Tryz.underlying175, run_underlying Tryz.underlying9, run_underlying Tryz.underlying5, Conv.bytesToString]
    rfl
  · have h := run_loadCells_list (P := Tryz.prog) w ⟨g, 0, none⟩ (Lib.byteCells l) (fun j v hv => by
      rw [Addr.add_mid, Nat.zero_add, cell_of_row w g j cur 5 (0, 0) hg, ← Array.getElem?_toList]
      rw [← ht, Nat.mul_one, List.getElem?_take] at hv
      split at hv
      · exact hv
      · cases hv)
    rw [Lib.byteCells_length] at h
    simp [Go.convert, run_underlying Tryz.underlying175, run_underlying Tryz.underlying9, run_underlying Tryz.underlying5, Conv.bytesToString, h]
    simp [Lib.byteCells]
    rw [foldl_push]
    simp
theorem and255 (y : Nat) (hy : y < 4294967296) : IntKind.u64.wrap (bits .and .u32 (y : Int) 255) = ((y % 256 : Nat) : Int) := by
  rw [show (255 : Int) = ((255 : Nat) : Int) from rfl, u32_and_nat y 255 hy (by omega), IntWalk.u64_in _ (by have := Nat.and_le_left (n := y) (m := 255); omega), show (255 : Nat) = 2 ^ 8 - 1 from rfl, Nat.and_two_pow_sub_one_eq_mod]
theorem oct_of (x : Nat) (hx : x < 4294967296) (k : Nat) (d : Int) (hd : ((2 ^ k : Nat) : Int) = d) : IntKind.u64.wrap (bits .and .u32 ((x : Int) / d) 255) = ((oct x k : Nat) : Int) := by
  rw [← hd, ← Int.natCast_ediv, and255 _ (Nat.lt_of_le_of_lt (Nat.div_le_self _ _) hx)]
  rfl
theorem oct_zero (x : Nat) (hx : x < 4294967296) : IntKind.u64.wrap (bits .and .u32 (x : Int) 255) = ((oct x 0 : Nat) : Int) := by
  rw [and255 _ hx]
  simp [oct]

theorem own_octs {B x k : Nat} {v : Value} {w : World} (hk : k ≠ 0) (h : w.ownsRow B 5 1 v ((octs x k).length + 1 + (Lib.decDigits (oct x (24 - 8 * k))).length) (Lib.byteCells (octs x k) ++ [.int .u8 46] ++ Lib.byteCells (Lib.decDigits (oct x (24 - 8 * k))))) :
    w.ownsRow B 5 1 v (octs x (k + 1)).length (Lib.byteCells (octs x (k + 1))) := by
  rw [show (octs x (k + 1)).length = (octs x k).length + 1 + (Lib.decDigits (oct x (24 - 8 * k))).length by simp [octs, hk]; omega,
    show Lib.byteCells (octs x (k + 1)) = Lib.byteCells (octs x k) ++ [.int .u8 46] ++ Lib.byteCells (Lib.decDigits (oct x (24 - 8 * k))) by simp [octs, hk, Lib.byteCells]]
  exact h

set_option maxRecDepth 100000 in
set_option maxHeartbeats 4000000 in
theorem format_calls (x : Nat) (hx : x < 4294967296) (w : World) (HT : Hid (Tabs w)) :
    Calls Tryz.prog 73 #[.int .u32 x] w fun e w' => e = .returned (.string ⟨(fmtA x).toArray⟩) ∧ Below w.heap.size w w' := by
  have hx0 : (0 : Int) ≤ (x : Int) := Int.natCast_nonneg _
  have hmk : ∀ w : World, (Instr.makeSlice 175 (.int .i64 0) (.int .i64 15)).run Tryz.prog w = .ok (.slice (some ⟨w.heap.size, 0, none⟩) 0 15) (w.alloc (.cells #[.int .u8 0, .int .u8 0, .int .u8 0, .int .u8 0, .int .u8 0, .int .u8 0, .int .u8 0, .int .u8 0, .int .u8 0, .int .u8 0, .int .u8 0, .int .u8 0, .int .u8 0, .int .u8 0, .int .u8 0] 5)) := fun _ => by kernel_rfl
  obtain ⟨i0, hi, hz0, hz1, hz2⟩ := info_parts Tryz.info5
  go_enter Tryz.func73, Tryz.ntmps73
  go_wp2
  clear hmk
  go_loopw [3, 4] (fun v i wr => ∃ k : Nat, k ≤ 4 ∧ i = .int .i64 (24 - 8 * (k : Int)) ∧ wr.ownsRow w.heap.size 5 1 v (octs x k).length (Lib.byteCells (octs x k)) ∧ Hid (Below w.heap.size w wr)) (fun _ i _ => (intOf i + 8).toNat)
  case atStart => exact ⟨0, by omega, rfl, ⟨by simp [octs, Lib.byteCells], .inr ⟨w.heap.size, 15, _, rfl, Nat.le_refl _, heap_alloc_new _ _, by simp [octs], by decide, rfl, by simp [octs, Lib.byteCells]⟩⟩, Lib.hid ((Below.refl _ _).alloc (Nat.le_refl _) _)⟩
  case round =>
    obtain ⟨k, hk, rfl, hown, HB⟩ := hrel
    have hB := HB.out.size
    obtain rfl | rfl | rfl | rfl | rfl : k = 0 ∨ k = 1 ∨ k = 2 ∨ k = 3 ∨ k = 4 := by omega
    · rw [show (24 - 8 * ((0 : Nat) : Int)) = 24 from rfl]
      go_wp2_with fail
      rw [oct_of x hx 24 16777216 rfl]
      refine (append_calls w.heap.size _ (oct x 24) (Nat.mod_lt _ (by omega)) _ _ wr hown hB (by simp [octs]) (Lib.hid (HT.out.below rfl HB.out))).mono ?_
      rintro e w1 ⟨v1, rfl, hown1, hb1⟩
      have HB1 := Lib.hid (HB.out.trans (hb1.mono (Nat.le_refl _)))
      clear hb1 hown
      go_wp2
      go_roundw
      case rel => exact ⟨1, by omega, rfl, by simpa [octs, Lib.byteCells] using hown1, HB1⟩
      case measure => simp [intOf]
    · rw [show (24 - 8 * ((1 : Nat) : Int)) = 16 from rfl]
      have hl := octs_le x 1
      go_wp2_with (at_builtin; refine wpList_append_own _ rfl _ _ 175 rfl w.heap.size 5 i0 (.int .u8 0) 1 1 Tryz.underlying175 hi hz0 hz1 hz2 rfl (by decide) _ _ _ rfl (hown.alloc _) ⟨wr.heap.size, 0, none⟩ 1 1 [.int .u8 46] rfl rfl (World.news_of_block (cs := #[.int .u8 46]) (heap_alloc_new wr _)) (by simp [Value.oneCell']) (by unfold maxLen; omega) (by omega) (by simp; omega) ?_; intro v0 w0 hown0 hgrow _)
      have HB0 := Lib.hid ((HB.out.alloc hB _).grown hgrow (by simp; omega) (fun k hk => (hown.lt k hk).1))
      clear hgrow hown
      have hB0 := HB0.out.size
      go_wp2_with fail
      rw [oct_of x hx 16 65536 rfl]
      refine (append_calls w.heap.size _ (oct x 16) (Nat.mod_lt _ (by omega)) _ _ w0 hown0 hB0 (by omega) (Lib.hid (HT.out.below rfl HB0.out))).mono ?_
      rintro e w1 ⟨v1, rfl, hown1, hb1⟩
      have HB1 := Lib.hid (HB0.out.trans hb1)
      clear hb1 hown0
      go_wp2
      go_roundw
      case rel => exact ⟨2, by omega, rfl, own_octs (k := 1) (by omega) hown1, HB1⟩
      case measure => simp [intOf]
    · rw [show (24 - 8 * ((2 : Nat) : Int)) = 8 from rfl]
      have hl := octs_le x 2
      go_wp2_with (at_builtin; refine wpList_append_own _ rfl _ _ 175 rfl w.heap.size 5 i0 (.int .u8 0) 1 1 Tryz.underlying175 hi hz0 hz1 hz2 rfl (by decide) _ _ _ rfl (hown.alloc _) ⟨wr.heap.size, 0, none⟩ 1 1 [.int .u8 46] rfl rfl (World.news_of_block (cs := #[.int .u8 46]) (heap_alloc_new wr _)) (by simp [Value.oneCell']) (by unfold maxLen; omega) (by omega) (by simp; omega) ?_; intro v0 w0 hown0 hgrow _)
      have HB0 := Lib.hid ((HB.out.alloc hB _).grown hgrow (by simp; omega) (fun k hk => (hown.lt k hk).1))
      clear hgrow hown
      have hB0 := HB0.out.size
      go_wp2_with fail
      rw [oct_of x hx 8 256 rfl]
      refine (append_calls w.heap.size _ (oct x 8) (Nat.mod_lt _ (by omega)) _ _ w0 hown0 hB0 (by omega) (Lib.hid (HT.out.below rfl HB0.out))).mono ?_
      rintro e w1 ⟨v1, rfl, hown1, hb1⟩
      have HB1 := Lib.hid (HB0.out.trans hb1)
      clear hb1 hown0
      go_wp2
      go_roundw
      case rel => exact ⟨3, by omega, rfl, own_octs (k := 2) (by omega) hown1, HB1⟩
      case measure => simp [intOf]
    · rw [show (24 - 8 * ((3 : Nat) : Int)) = 0 from rfl]
      have hl := octs_le x 3
      go_wp2_with (at_builtin; refine wpList_append_own _ rfl _ _ 175 rfl w.heap.size 5 i0 (.int .u8 0) 1 1 Tryz.underlying175 hi hz0 hz1 hz2 rfl (by decide) _ _ _ rfl (hown.alloc _) ⟨wr.heap.size, 0, none⟩ 1 1 [.int .u8 46] rfl rfl (World.news_of_block (cs := #[.int .u8 46]) (heap_alloc_new wr _)) (by simp [Value.oneCell']) (by unfold maxLen; omega) (by omega) (by simp; omega) ?_; intro v0 w0 hown0 hgrow _)
      have HB0 := Lib.hid ((HB.out.alloc hB _).grown hgrow (by simp; omega) (fun k hk => (hown.lt k hk).1))
      clear hgrow hown
      have hB0 := HB0.out.size
      go_wp2_with fail
      rw [oct_zero x hx]
      refine (append_calls w.heap.size _ (oct x 0) (Nat.mod_lt _ (by omega)) _ _ w0 hown0 hB0 (by omega) (Lib.hid (HT.out.below rfl HB0.out))).mono ?_
      rintro e w1 ⟨v1, rfl, hown1, hb1⟩
      have HB1 := Lib.hid (HB0.out.trans hb1)
      clear hb1 hown0
      go_wp2
      go_roundw
      case rel => exact ⟨4, by omega, rfl, own_octs (k := 3) (by omega) hown1, HB1⟩
      case measure => simp [intOf]
    · rw [show (24 - 8 * ((4 : Nat) : Int)) = -8 from rfl]
      have hcv := conv_own _ _ _ _ hown
      clear hown
      go_wp2
      go_ret
      exact ⟨rfl, HB.out⟩

end Go.Proofs.YtdmfdclkpdliaaaGreatDoor
