/- netverifylaw38.decimal writes a number as strconv.Itoa does. -/
import Derived.Test.YtdmfdclkpdliaaaGreatDoorBld
import Derived.WalkKit
import Derived.WalkSpells
import Derived.WalkLawsBesides
import Derived.BigCall
import Derived.BigGuard
import Derived.Lib.ItoaNum
namespace Go.Proofs.YtdmfdclkpdliaaaGreatDoor
open Go Go.RowKit Go.Shelf

theorem conv_one (x : Int) (w : World) : (Go.convert 175 9 (.slice (some ⟨w.heap.size, 0, none⟩) 1 1)).run Tryz.prog (w.alloc (.cells #[.int .u8 x] 5)) = .ok (.string ⟨#[UInt8.ofNat x.toNat]⟩) (w.alloc (.cells #[.int .u8 x] 5)) := by
  have h := run_loadCells_list (P := Tryz.prog) (w.alloc (.cells #[.int .u8 x] 5)) ⟨w.heap.size, 0, none⟩ [.int .u8 x] (fun j v hv => by
    cases j with
    | zero => simp at hv; subst hv; rw [show (⟨w.heap.size, 0, none⟩ : Addr).add 0 = ⟨w.heap.size, 0, none⟩ from rfl]; simp only [World.cell?, heap_alloc_new]; rfl
    | succ j => simp at hv)
  simp only [List.length_singleton] at h
  simp [Go.convert, run_underlying Tryz.underlying175, run_underlying Tryz.underlying9, run_underlying Tryz.underlying5, Conv.bytesToString, h]
  rfl

theorem dec_rest (m : Nat) : Lib.decDigits m = (if m / 10 = 0 then [] else Lib.decDigits (m / 10)) ++ [UInt8.ofNat (48 + m % 10)] := by
  rw [Lib.decDigits]
  split
  · rename_i h
    rw [if_pos (by omega), Nat.mod_eq_of_lt h]; rfl
  · rename_i h
    rw [if_neg (by omega)]
theorem nDigits_le : ∀ (k u : Nat), u < 10 ^ (k + 1) → Lib.nDigits u ≤ k + 1
  | 0, u, h => by rw [Lib.nDigits_small (by simpa using h)]; omega
  | k + 1, u, h => by
    by_cases hu : u < 10
    · rw [Lib.nDigits_small hu]; omega
    · rw [Lib.nDigits_big hu]
      have := nDigits_le k (u / 10) (by rw [Nat.div_lt_iff_lt_mul (by omega)]; rw [Nat.pow_succ] at h; exact h)
      omega
theorem bytes_cons (b : UInt8) (l : List UInt8) : ByteArray.mk #[b] ++ ByteArray.mk l.toArray = ByteArray.mk (b :: l).toArray := by
  apply ByteArray.ext
  simp
theorem keepDec {p : Prop} (h : p) : Hid p := h
theorem byte_dec (m : Nat) : UInt8.ofNat ((48 : Int) + ((m : Int) % 10)).toNat = UInt8.ofNat (48 + m % 10) := by
  congr 1

set_option maxRecDepth 100000 in
set_option maxHeartbeats 2000000 in
theorem decimal_pos (n : Nat) (w : World) (hn : n < 9223372036854775808) :
    Calls Tryz.prog 41 #[.int .i64 n] w fun e w' => e = .returned (.string ⟨(Lib.decDigits n).toArray⟩) ∧ Below w.heap.size w w' := by
  have hconv := conv_one
  have hlen : (Lib.decDigits n).length ≤ 19 := by
    rw [Lib.decDigits_length]
    exact nDigits_le 18 n (by omega)
  have HL := keepDec hlen
  clear hlen
  go_enter Tryz.func41, Tryz.ntmps41
  go_wp2
  go_loopw [0, 3] (fun i t wr => ∃ (m : Nat) (l : List UInt8), m ≤ n ∧ i = .int .i64 m ∧ t = .string ⟨l.toArray⟩ ∧ Hid ((if m = 0 then [] else Lib.decDigits m) ++ l = Lib.decDigits n) ∧ Hid (Below w.heap.size w wr)) (fun i _ _ => (intOf i).toNat)
  case atStart => exact ⟨n / 10, [UInt8.ofNat (48 + n % 10)], Nat.div_le_self _ _, by first | rfl | simp, by first | rfl | simp, keepDec (dec_rest n).symm, keepDec ((Below.refl _ _).alloc (Nat.le_refl _) _)⟩
  case round =>
    obtain ⟨m, l, hm, rfl, rfl, HD, HB⟩ := hrel
    by_cases hm0 : m = 0
    · subst hm0
      have hD := HD.out
      rw [if_pos rfl, List.nil_append] at hD
      subst hD
      go_wp2
      go_ret
      exact ⟨rfl, HB.out⟩
    · have hl : l.length ≤ 19 := by
        have h1 := HL.out
        rw [← HD.out, List.length_append] at h1
        omega
      go_wp2
      refine ⟨⟨m / 10, UInt8.ofNat (48 + m % 10) :: l, by omega, by first | rfl | simp, by first | rfl | simp [bytes_cons], keepDec ?_, keepDec (HB.out.alloc HB.out.size _)⟩, by simp [intOf]; omega⟩
      have h := HD.out
      rw [if_neg hm0, dec_rest m, List.append_assoc] at h
      exact h

set_option maxRecDepth 100000 in
set_option maxHeartbeats 2000000 in
theorem decimal_least (w : World) : Calls Tryz.prog 41 #[.int .i64 (-9223372036854775808)] w fun e w' => e = .returned (.string ⟨(Lib.itoa (-9223372036854775808)).toArray⟩) ∧ Below w.heap.size w w' := by
  have hs : (ByteArray.mk (Lib.itoa (-9223372036854775808)).toArray) = ⟨#[45, 57, 50, 50, 51, 51, 55, 50, 48, 51, 54, 56, 53, 52, 55, 55, 53, 56, 48, 56]⟩ := by
    rw [show (-9223372036854775808 : Int) = -((9223372036854775808 : Nat) : Int) from rfl]
    unfold Lib.itoa
    rw [if_pos (by omega)]
    simp [Lib.decDigits]
  rw [hs]
  go_enter Tryz.func41, Tryz.ntmps41
  go_wp2
  go_ret
  exact ⟨rfl, Below.refl _ _⟩
set_option maxRecDepth 100000 in
set_option maxHeartbeats 2000000 in
theorem decimal_neg (n : Nat) (w : World) (h0 : 0 < n) (hn : n < 9223372036854775808) :
    Calls Tryz.prog 41 #[.int .i64 (-(n : Int))] w fun e w' => e = .returned (.string ⟨(45 :: Lib.decDigits n).toArray⟩) ∧ Below w.heap.size w w' := by
  have hlen : (Lib.decDigits n).length ≤ 19 := by
    rw [Lib.decDigits_length]
    exact nDigits_le 18 n (by omega)
  go_enter Tryz.func41, Tryz.ntmps41
  go_wp2_with (go_at_call 41; refine (decimal_pos n _ hn).mono ?_; rintro e w' ⟨rfl, hb⟩)
  go_ret
  exact ⟨by simp [bytes_cons], hb⟩

theorem decimal_calls (n : Int) (h0 : -9223372036854775808 ≤ n) (h1 : n ≤ 9223372036854775807) (w : World) :
    Calls Tryz.prog 41 #[.int .i64 n] w fun e w' => e = .returned (.string ⟨(Lib.itoa n).toArray⟩) ∧ Below w.heap.size w w' := by
  by_cases hn : n < 0
  · by_cases hl : n = -9223372036854775808
    · subst hl; exact decimal_least w
    · have h := decimal_neg n.natAbs w (by omega) (by omega)
      have e : -((n.natAbs : Nat) : Int) = n := by omega
      rw [e] at h
      unfold Lib.itoa
      rw [if_pos hn]
      exact h
  · have h := decimal_pos n.toNat w (by omega)
    have e : ((n.toNat : Nat) : Int) = n := by omega
    rw [e] at h
    unfold Lib.itoa
    rw [if_neg hn]
    exact h

end Go.Proofs.YtdmfdclkpdliaaaGreatDoor
