/- strings.Join at this program: the elements with the separator between them, below 2^47 bytes; nothing old is turned. -/
import Derived.Test.YtdmfdclkpdliaaaGreatDoorBld
import Derived.WalkKit
import Derived.WalkSpells
import Derived.WalkLawsBesides
import Derived.Lib.Join
import Derived.BigCall
import Derived.BigGuard
namespace Go.Proofs.YtdmfdclkpdliaaaGreatDoor
open Go Go.RowKit Go.Shelf

theorem join_empty (a : Option Addr) (c : Nat) (sep : ByteArray) (w : World) :
    Calls Tryz.prog 72 #[.slice a 0 c, .string sep] w fun e w' => e = .returned (.string ⟨#[]⟩) ∧ w' = w := by
  go_enter Tryz.func72, Tryz.ntmps72
  go_wp2
  go_ret
  exact ⟨rfl, rfl⟩
theorem join_single (bk o c : Nat) (x sep : ByteArray) (w : World) (hc : w.cell? ⟨bk, o, none⟩ = some (.string x)) :
    Calls Tryz.prog 72 #[.slice (some ⟨bk, o, none⟩) 1 c, .string sep] w fun e w' => e = .returned (.string x) ∧ w' = w := by
  go_enter Tryz.func72, Tryz.ntmps72
  go_wp2
  go_ret
  exact ⟨rfl, rfl⟩

/- a fact that the walk is not to look into -/
theorem keepFact {p : Prop} (h : p) : Hid p := h

/- the lengths that Go's text reckons with -/
structure Sizes (n m M L : Nat) : Prop where
  two : 2 ≤ n
  big : n ≤ 140737488355328
  room : M + L ≤ 140737488355328
  div : ¬ ((9223372036854775807 : Int) / ((n : Int) - 1) ≤ (m : Int))
  mul : wrap64 ((m : Int) * ((n : Int) - 1)) = (M : Int)
  zero : m = 0 → M = 0
theorem sizes_of {n m L : Nat} (h2 : 2 ≤ n) (hN : n ≤ 140737488355328) (h : m * (n - 1) + L ≤ 140737488355328) : Sizes n m (m * (n - 1)) L := by
  have hc : ((n : Int) - 1) = ((n - 1 : Nat) : Int) := by omega
  have hmm : m * (n - 1) ≤ 140737488355328 := by omega
  have hp : 0 < n - 1 := by omega
  have hlt : m < 9223372036854775807 / (n - 1) := by
    have : m + 1 ≤ 9223372036854775807 / (n - 1) := by
      rw [Nat.le_div_iff_mul_le hp, Nat.add_mul]
      omega
    omega
  refine ⟨h2, hN, h, ?_, ?_, fun h0 => by rw [h0, Nat.zero_mul]⟩
  · have e : (9223372036854775807 : Int) / ((n - 1 : Nat) : Int) = ((9223372036854775807 / (n - 1) : Nat) : Int) := IntWalk.up_div (x := 9223372036854775807) rfl rfl
    rw [hc, e]
    generalize 9223372036854775807 / (n - 1) = q at hlt
    omega
  · have e : (m : Int) * ((n - 1 : Nat) : Int) = ((m * (n - 1) : Nat) : Int) := IntWalk.up_mul rfl rfl
    rw [hc, e]
    exact IntWalk.wrap64_in _ ⟨by omega, by omega⟩

set_option maxHeartbeats 4000000 in
set_option maxRecDepth 100000 in
theorem join_more (bk o c M : Nat) (xs : List ByteArray) (x0 : ByteArray) (r : List ByteArray) (sep : ByteArray) (w : World) (HX : Hid (xs = x0 :: r))
    (HC : Hid (∀ (j : Nat) x, xs[j]? = some x → w.cell? ⟨bk, o + j, none⟩ = some (.string x)))
    (hbk : bk < w.heap.size) (hcap : xs.length ≤ c) (hS : Sizes xs.length sep.size M (Lib.lens (xs.map (·.data.toList))))
    (HL : Hid (∀ k, (x0.data.toList ++ Lib.joinTail sep.data.toList ((r.map (·.data.toList)).take k)).length ≤ 140737488355328)) :
    Calls Tryz.prog 72 #[.slice (some ⟨bk, o, none⟩) xs.length c, .string sep] w fun e w' => e = .returned (.string ⟨(x0.data.toList ++ Lib.joinTail sep.data.toList (r.map (·.data.toList))).toArray⟩) ∧ Below w.heap.size w w' := by
  obtain ⟨h2, hN, hroom, hdv, hprod, hM0⟩ := hS
  have hne0 : ((xs.length : Int) == 0) = false := beq_eq_false_iff_ne.2 (by omega)
  have hne1 : ((xs.length : Int) == 1) = false := beq_eq_false_iff_ne.2 (by omega)
  go_enter Tryz.func72, Tryz.ntmps72
  go_wp2_with fail
  all_goals (
    go_loop [5, 41] (fun n i => ∃ k : Nat, k ≤ xs.length ∧ i = .int .i64 k ∧ n = .int .i64 ((M + Lib.lens ((xs.map (·.data.toList)).take k) : Nat) : Int)) (fun _ i => xs.length - (intOf i).toNat)
    case atStart => exact ⟨0, Nat.zero_le _, rfl, by first | (simp [Lib.lens]; done) | (have := hM0 (by omega); simp [Lib.lens, this])⟩
    case round =>
      obtain ⟨k, hk, rfl, rfl⟩ := hrel
      by_cases hkn : k < xs.length
      · obtain ⟨x, hx⟩ : ∃ x, xs[k]? = some x := ⟨xs[k], List.getElem?_eq_getElem hkn⟩
        have hc := HC.out k x hx
        have hstep := Lib.lens_take_succ (xs.map (·.data.toList)) k x.data.toList (by simp [hx])
        have hbound : Lib.lens ((xs.map (·.data.toList)).take (k + 1)) ≤ Lib.lens (xs.map (·.data.toList)) := Lib.lens_take_le _ _
        rw [← Lib.size_eq] at hstep
        generalize hA1 : Lib.lens ((xs.map (·.data.toList)).take (k + 1)) = A1 at hstep hbound
        generalize Lib.lens ((xs.map (·.data.toList)).take k) = A0 at hstep
        have HA1 := keepFact hA1
        clear hA1
        go_wp2
        exact ⟨⟨k + 1, by omega, by go_num, by rw [HA1.out]; refine congrArg _ ?_; omega⟩, by simp [intOf]; omega⟩
      · have hke : k = xs.length := by omega
        subst hke
        have hall : (xs.map (·.data.toList)).take xs.length = xs.map (·.data.toList) := List.take_of_length_le (by simp)
        rw [hall]
        generalize hT : Lib.lens (xs.map (·.data.toList)) = T at hroom
        have HT := keepFact hT
        clear hT hall
        go_wp2_with fail
        have hMT : ((M : Int) + (T : Int)) = ((M + T : Nat) : Int) := by omega
        rw [hMT]
        refine (Tryz.Builder_Grow_fresh w.heap.size w.heap.size (M + T) _ (Nat.le_refl _) (heap_alloc_new w _) (by simp) (by omega)).mono ?_
        rintro e w1 ⟨rfl, g1, hb1⟩
        have hb1' : Below w.heap.size w w1 := ((Below.refl w.heap.size w).alloc (Nat.le_refl _) _).trans hb1
        have hc0 : w1.cell? ⟨bk, o, none⟩ = some (.string x0) := by
          rw [hb1'.cell (p := ⟨bk, o, none⟩) hbk]
          exact HC.out 0 x0 (by rw [HX.out]; rfl)
        have G1 := keepFact (Or.inr g1 : Lib.IsBuilder 224 5 w.heap.size w.heap.size [] w1)
        have B1 := keepFact hb1'
        have n1 : w.heap.size ≤ w1.heap.size := hb1'.size
        clear g1 hb1 hb1' hMT
        go_wp2_with fail
        refine (Tryz.Builder_WriteString w.heap.size w.heap.size [] x0 w1 G1.out (by have := HL.out 0; simp [Lib.joinTail] at this ⊢; omega) n1).mono ?_
        rintro e w2 ⟨rfl, g2, hb2⟩
        have hfirst : ([] : List Value) ++ Lib.strCells x0 = Lib.byteCells (x0.data.toList ++ Lib.joinTail sep.data.toList ((r.map (·.data.toList)).take 0)) := by
          simp [Lib.joinTail, Lib.strCells_eq]
        rw [hfirst] at g2
        have G2 := keepFact (Or.inr g2 : Lib.IsBuilder 224 5 w.heap.size w.heap.size _ w2)
        have B2 := keepFact (B1.out.trans hb2)
        clear g2 hb2 hfirst
        have hrl : r.length = xs.length - 1 := by rw [HX.out]; simp
        go_wp2_with fail
        go_loopw [65] (fun i wr => ∃ k : Nat, k ≤ r.length ∧ i = .int .i64 k ∧ Hid (Lib.IsBuilder 224 5 w.heap.size w.heap.size (Lib.byteCells (x0.data.toList ++ Lib.joinTail sep.data.toList ((r.map (·.data.toList)).take k))) wr) ∧ Hid (Below w.heap.size w wr)) (fun i _ => r.length - (intOf i).toNat)
        case atStart => exact ⟨0, Nat.zero_le _, rfl, G2, B2⟩
        case round =>
          obtain ⟨k, hkr0, rfl, HB, HW⟩ := hrel
          by_cases hkr : k < r.length
          · obtain ⟨y, hy⟩ : ∃ y, r[k]? = some y := ⟨r[k], List.getElem?_eq_getElem hkr⟩
            have hcy : wr.cell? ⟨bk, o + 1 + k, none⟩ = some (.string y) := by
              rw [HW.out.cell (p := ⟨bk, o + 1 + k, none⟩) hbk, show o + 1 + k = o + (k + 1) by omega]
              exact HC.out (k + 1) y (by rw [HX.out]; simpa using hy)
            have nw : w.heap.size ≤ wr.heap.size := HW.out.size
            have htail := Lib.joinTail_take_succ sep.data.toList (r.map (·.data.toList)) k y.data.toList (by simp [hy])
            have hnext : Lib.byteCells (x0.data.toList ++ Lib.joinTail sep.data.toList ((r.map (·.data.toList)).take k)) ++ Lib.strCells sep ++ Lib.strCells y = Lib.byteCells (x0.data.toList ++ Lib.joinTail sep.data.toList ((r.map (·.data.toList)).take (k + 1))) := by
              rw [htail, Lib.strCells_eq, Lib.strCells_eq, ← Lib.byteCells_append, ← Lib.byteCells_append, List.append_assoc, List.append_assoc, List.append_assoc]
            have hl1 := HL.out (k + 1)
            rw [htail] at hl1
            simp only [List.length_append, ← Lib.size_eq] at hl1
            have hl0 : (Lib.byteCells (x0.data.toList ++ Lib.joinTail sep.data.toList ((r.map (·.data.toList)).take k))).length = x0.size + (Lib.joinTail sep.data.toList ((r.map (·.data.toList)).take k)).length := by
              rw [Lib.byteCells_length, List.length_append, ← Lib.size_eq]
            generalize (Lib.joinTail sep.data.toList ((r.map (·.data.toList)).take k)).length = J at hl0 hl1
            have HN := keepFact hnext
            clear hnext hy htail
            go_wp2_with fail
            refine (Tryz.Builder_WriteString w.heap.size w.heap.size _ sep wr HB.out (by rw [hl0]; omega) nw).mono ?_
            rintro e w3 ⟨rfl, g3, hb3⟩
            have n3 : w.heap.size ≤ w3.heap.size := Nat.le_trans nw hb3.size
            have G3 := keepFact g3
            have B3 := keepFact hb3
            clear g3 hb3
            go_wp2_with fail
            refine (Tryz.Builder_WriteString w.heap.size w.heap.size _ y w3 (Or.inr G3.out) (by rw [List.length_append, hl0, Lib.strCells_length]; omega) n3).mono ?_
            rintro e w4 ⟨rfl, g4, hb4⟩
            rw [HN.out] at g4
            have G4 := keepFact (Or.inr g4 : Lib.IsBuilder 224 5 w.heap.size w.heap.size _ w4)
            have B4 := keepFact ((HW.out.trans B3.out).trans hb4)
            clear g4 hb4
            go_wp2
            exact ⟨⟨k + 1, by omega, by go_num, G4, B4⟩, by simp [intOf]; omega⟩
          · have hke : k = r.length := by omega
            subst hke
            have hfull : (r.map (·.data.toList)).take r.length = r.map (·.data.toList) := List.take_of_length_le (by simp)
            have hB' := HB.out
            rw [hfull] at hB'
            have nw : w.heap.size ≤ wr.heap.size := HW.out.size
            go_wp2_with fail
            refine (Tryz.Builder_String_any w.heap.size w.heap.size _ wr hB' nw).mono ?_
            rintro e w5 ⟨rfl, hb5⟩
            have B5 := keepFact (HW.out.trans hb5)
            clear hb5 hB'
            go_wp2
            go_ret
            exact ⟨rfl, B5.out⟩)

theorem join_calls (bk o c : Nat) (xs : List ByteArray) (sep : ByteArray) (w : World) (hcells : ∀ (j : Nat) x, xs[j]? = some x → w.cell? ⟨bk, o + j, none⟩ = some (.string x)) (hbk : bk < w.heap.size) (hN : xs.length ≤ 140737488355328) (hcap : xs.length ≤ c)
    (hlen : (Lib.join (xs.map (·.data.toList)) sep.data.toList).length ≤ 140737488355328) :
    Calls Tryz.prog 72 #[.slice (some ⟨bk, o, none⟩) xs.length c, .string sep] w fun e w' => e = .returned (.string ⟨(Lib.join (xs.map (·.data.toList)) sep.data.toList).toArray⟩) ∧ Below w.heap.size w w' := by
  cases xs with
  | nil => exact (join_empty _ c sep w).mono fun e w' ⟨he, hw⟩ => ⟨he, hw ▸ Below.refl _ _⟩
  | cons x0 r =>
    cases r with
    | nil =>
      refine (join_single bk o c x0 sep w (hcells 0 x0 rfl)).mono fun e w' ⟨he, hw⟩ => ⟨?_, hw ▸ Below.refl _ _⟩
      rw [he, List.map_cons, List.map_nil, Lib.join_one]
    | cons y r =>
      have hw : Lib.join ((x0 :: y :: r).map (·.data.toList)) sep.data.toList = x0.data.toList ++ Lib.joinTail sep.data.toList ((y :: r).map (·.data.toList)) := by
        rw [List.map_cons, Lib.join_cons]
      have hl := Lib.join_length x0.data.toList ((y :: r).map (·.data.toList)) sep.data.toList
      rw [← List.map_cons (f := fun x : ByteArray => x.data.toList)] at hl
      have hS := sizes_of (n := (x0 :: y :: r).length) (m := sep.size) (L := Lib.lens ((x0 :: y :: r).map (·.data.toList))) (by simp) hN (by
        rw [hl, List.length_map] at hlen
        rw [Lib.size_eq]
        simpa using hlen)
      rw [hw] at hlen ⊢
      refine join_more bk o c _ (x0 :: y :: r) x0 (y :: r) sep w (keepFact rfl) (keepFact hcells) hbk hcap hS (keepFact fun k => ?_)
      have h2 := Lib.joinTail_take_le sep.data.toList ((y :: r).map (·.data.toList)) k
      rw [List.length_append] at hlen ⊢
      omega

end Go.Proofs.YtdmfdclkpdliaaaGreatDoor
