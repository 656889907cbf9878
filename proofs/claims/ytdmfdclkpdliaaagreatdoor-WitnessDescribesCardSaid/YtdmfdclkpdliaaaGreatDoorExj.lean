/- The abstract machine's calls are the model's calls, for a program that follows mixed orders, given tables and primitives that are right. -/
import Derived.Test.YtdmfdclkpdliaaaGreatDoorExi
import Derived.Test.YtdmfdclkpdliaaaGreatDoorExf
namespace Go.Proofs.YtdmfdclkpdliaaaGreatDoor
namespace Am
open Go

/- how many are not yet done -/
def undone (S : Nat → Bool) : Nat → Nat
  | 0 => 0
  | n + 1 => undone S n + (if S n then 0 else 1)
theorem undone_le (S : Nat → Bool) : ∀ n, undone S n ≤ n
  | 0 => Nat.le_refl _
  | n + 1 => by
    have := undone_le S n
    simp only [undone]
    split <;> omega
theorem undone_same {S S' : Nat → Bool} : ∀ {n : Nat}, (∀ j, j < n → S' j = S j) → undone S' n = undone S n
  | 0, _ => rfl
  | n + 1, h => by
    have e := undone_same (S := S) (S' := S') (n := n) (fun j hj => h j (by omega))
    simp only [undone, e, h n (by omega)]
theorem undone_step {S : Nat → Bool} {i : Nat} (hS : S i = false) : ∀ {n : Nat}, i < n → undone (fun j => decide (j = i) || S j) n + 1 = undone S n
  | 0, h => by omega
  | n + 1, h => by
    simp only [undone]
    by_cases hn : n = i
    · subst hn
      have := undone_same (S := S) (S' := fun j => decide (j = n) || S j) (n := n) (fun j hj => by
        have : j ≠ n := by omega
        simp [this])
      rw [this]
      simp [hS]
    · have := undone_step hS (n := n) (by omega)
      simp only [hn, decide_false, Bool.false_or]
      omega
theorem undone_zero {S : Nat → Bool} : ∀ {n : Nat}, undone S n = 0 → ∀ j, j < n → S j = true
  | 0, _, j, h => by omega
  | n + 1, h, j, hj => by
    simp only [undone] at h
    by_cases hn : j = n
    · subst hn
      cases hs : S j with
      | true => rfl
      | false => rw [hs] at h; simp at h
    · exact undone_zero (n := n) (by omega) j (by omega)

section
variable {P : Program} {T : Tab} {C : FuncId → Fun} {esc : List Tmp} {ops : Array Oper} {st : Nat → St} {fx : Nat → Fx} {φ0 φ : Phi} {w0 w : World} {a : Act}

theorem all_done (L : Line T C esc ops st fx) {listed : Array Bool} (hs : listed.size = ops.size) (h : Region.ready .any ops listed = []) : ∀ i, i < ops.size → listed.getD i false = true := by
  intro i
  induction i using Nat.strongRecOn with
  | _ i ih =>
    intro hi
    cases hq : listed.getD i false with
    | true => rfl
    | false =>
      exfalso
      have hmem : i ∈ Region.ready .any ops listed := by
        unfold Region.ready
        rw [List.mem_filter]
        refine ⟨List.mem_range.2 hi, ?_⟩
        have h1 : listed.getD i true = false := by
          rw [Array.getD_eq_getD_getElem?] at hq ⊢
          rw [Array.getElem?_eq_getElem (by omega)] at hq ⊢
          exact hq
        rw [h1, Array.getElem?_eq_getElem hi]
        simp only [Bool.not_false, Bool.true_and, Option.map_some, Option.getD_some, Array.all_eq_true_iff_forall_mem]
        intro e he
        cases hb : Region.binds .any e with
        | false => rfl
        | true =>
          have hlt := L.on i _ (Array.getElem?_eq_getElem hi) e (Array.mem_toList_iff.2 he) hb
          rw [ih e.on hlt (by omega)]; rfl
      rw [h] at hmem; cases hmem

theorem any_sound (tok : TabOk P T) (ck : CalleeOk P C) (L : Line T C esc ops st fx) {Q : Exit → Act → World → Prop}
    (hQ : ∀ φ' w' a', Mem φ' (st ops.size) w' → Regs φ' (st ops.size) a' → Mv φ0 (st 0) w0 φ' (st ops.size) w' → Q .normal a' w') :
    ∀ (fuel : Nat) (listed : Array Bool) (φ : Phi) (a : Act) (w : World), listed.size = ops.size → undone (fun j => listed.getD j false) ops.size ≤ fuel → Inv ops st fx φ0 w0 (fun j => listed.getD j false) φ a w → wpAny P .any ops Q fuel listed a w := by
  have fin : ∀ (listed : Array Bool) (φ : Phi) (a : Act) (w : World), Inv ops st fx φ0 w0 (fun j => listed.getD j false) φ a w → (∀ i, i < ops.size → listed.getD i false = true) → Q .normal a w := by
    intro listed φ a w I h
    obtain ⟨h1, h2, h3⟩ := I.finish L h
    exact hQ φ w a h1 h2 h3
  intro fuel
  induction fuel with
  | zero =>
    intro listed φ a w hs hu I
    have hall := undone_zero (Nat.le_zero.1 hu)
    refine ⟨?_, fin listed φ a w I hall⟩
    unfold Region.ready
    rw [List.filter_eq_nil_iff]
    intro i hi
    have hi := List.mem_range.1 hi
    have h1 : listed.getD i true = true := by
      have := hall i hi
      rw [Array.getD_eq_getD_getElem?] at this ⊢
      rw [Array.getElem?_eq_getElem (by omega)] at this ⊢
      exact this
    rw [h1]; simp
  | succ fuel ih =>
    intro listed φ a w hs hu I
    refine ⟨fun h => fin listed φ a w I (all_done L hs h), fun i hmem => ?_⟩
    unfold Region.ready at hmem
    rw [List.mem_filter] at hmem
    obtain ⟨hi, hr⟩ := hmem
    have hi := List.mem_range.1 hi
    simp only [Bool.and_eq_true, Bool.not_eq_true'] at hr
    obtain ⟨hr1, hr2⟩ := hr
    have hSi : listed.getD i false = false := by
      rw [Array.getD_eq_getD_getElem?] at hr1 ⊢
      rw [Array.getElem?_eq_getElem (by omega)] at hr1 ⊢
      exact hr1
    have hoi : ops[i]? = some ops[i] := Array.getElem?_eq_getElem hi
    have hb : ∀ j, (fx i).bm.testBit j = true → listed.getD j false = true := by
      intro j hj
      obtain ⟨e, he, hbe, h⟩ := L.bits i _ hoi j hj
      rw [hoi] at hr2
      simp only [Option.map_some, Option.getD_some, Array.all_eq_true_iff_forall_mem] at hr2
      have := hr2 e (Array.mem_toList_iff.1 he)
      rw [hbe] at this
      have hon : listed.getD e.on false = true := by simpa using this
      rcases h with rfl | h
      · exact hon
      · exact I.closed e.on hon j h
    refine op_step (P := P) tok ck L I hoi hSi hb (fun φ' a' w' I' => ?_)
    have hfun : (fun j => decide (j = i) || listed.getD j false) = fun j => (listed.setIfInBounds i true).getD j false := by
      funext j
      rw [Array.getD_eq_getD_getElem?, Array.getD_eq_getD_getElem?]
      by_cases hj : j = i
      · subst hj
        rw [Array.getElem?_setIfInBounds_self_of_lt (by omega)]
        simp
      · rw [Array.getElem?_setIfInBounds_ne (fun e => hj e.symm)]
        simp [hj]
    rw [hfun] at I'
    refine ih _ φ' a' w' (by simpa using hs) ?_ I'
    rw [← hfun]
    have := undone_step (S := fun j => listed.getD j false) hSi hi
    omega
end

theorem drawOk {P : Program} {T : Tab} (tok : TabOk P T) {C : FuncId → Fun} (ck : CalleeOk P C) (hm : P.follows .mixedOrders = true) : DrawOk P T C := by
  intro esc id ops s s' h
  obtain ⟨st, fx, h0, h1, L⟩ := drawn_line h
  subst h0; subst h1
  refine ⟨(L.upTo (Nat.zero_le _) (Nat.le_refl _)).1, ?_⟩
  intro φ w a Q m r hf hK
  refine wp_region_any hm ?_
  have m1 : Mem φ (st 0) { w with drawn := w.drawn + 1 } := m.heaped rfl
  have mv1 : Mv φ (st 0) w φ (st 0) { w with drawn := w.drawn + 1 } := Mv.same rfl rfl rfl rfl rfl rfl rfl rfl
  have hfun : (fun j => (Array.replicate ops.size false).getD j false) = fun _ => false := by
    funext j
    rw [Array.getD_eq_getD_getElem?, Array.getElem?_replicate]
    split <;> rfl
  refine any_sound (P := P) tok ck L (φ0 := φ) (w0 := { w with drawn := w.drawn + 1 }) (fun φ' w' a' q1 q2 q3 => hK φ' w' a' q1 q2 (mv1.trans q3)) ops.size _ φ a _ (by simp) ?_ ?_
  · rw [hfun]; exact undone_le _ _
  · rw [hfun]; exact Inv.start L m1 r hf

/- tables and primitives -/
structure FnOk (P : Program) (T : Tab) : Prop where
  ti : TabOk P T
  fn : ∀ f fn esc, T.fn f = some (fn, esc) → P.funcs[f]? = some fn ∧ (fn.name == "runtime.NumGoroutine") = false
  prim : ∀ f g, T.prim f = some g → CalleeOk P (fun f' => if f' = f then g else fun _ _ _ => none)

theorem call_sound {P : Program} {T : Tab} (F : FnOk P T) (hm : P.follows .mixedOrders = true) (k : Nat) : ∀ d, CalleeOk P (call T k d) := by
  intro d
  induction d with
  | zero => intro f args s r h; simp [call] at h
  | succ d ih =>
    intro f args s r h
    change (match T.prim f with
      | some g => g args s.n s.h
      | none => match T.fn f with
        | some (fn, esc) => body T (call T k d) k fn esc args s.n s.h
        | none => none) = some r at h
    split at h
    · rename_i g hg
      exact F.prim f g hg f args s r (by simpa using h)
    · split at h
      · rename_i fn esc hfn
        obtain ⟨h1, h2⟩ := F.fn f fn esc hfn
        obtain ⟨b1, b2, b3⟩ := body_sound (P := P) F.ti ih (drawOk F.ti ih hm) h1 h
        exact ⟨⟨fn, h1, h2, b2⟩, b1, b3⟩
      · cases h

end Am
end Go.Proofs.YtdmfdclkpdliaaaGreatDoor
