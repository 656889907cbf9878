/- The abstract machine's code is what the model's code does. No condition. -/
import Derived.Test.YtdmfdclkpdliaaaGreatDoorOpx
import Derived.Orders
namespace Go.Proofs.YtdmfdclkpdliaaaGreatDoor
namespace Am
open Go

structure Regs (φ : Phi) (s : St) (a : Act) : Prop where
  get : ∀ t u, s.regs.get t = some u → VR φ u (a.eval (.tmp t))
  size : a.tmps.size = s.nt
  defers : a.defers = []

section
variable {P : Program} {w : World} {T : Tab} {φ φ' : Phi} {s s' : St} {a : Act}
theorem Act.put_defers (a : Act) (d : Option Tmp) (v : Value) : (a.put d v).defers = a.defers := by cases d <;> rfl
theorem Act.put_size (a : Act) (d : Option Tmp) (v : Value) : (a.put d v).tmps.size = a.tmps.size := by cases d <;> simp [Act.put]
theorem Act.put_eval (a : Act) {d : Option Tmp} {v : Value} {t : Tmp} : d ≠ some t → (a.put d v).eval (.tmp t) = a.eval (.tmp t) := by
  intro h
  cases d with
  | none => rfl
  | some d =>
    have hne : d ≠ t := fun e => h (by rw [e])
    simp only [Act.put, Act.eval, Array.getD_eq_getD_getElem?]
    rw [Array.getElem?_setIfInBounds_ne hne]
theorem Act.put_self (a : Act) {d : Tmp} {v : Value} (h : d < a.tmps.size) : (a.put (some d) v).eval (.tmp d) = v := by
  simp only [Act.put, Act.eval, Array.getD_eq_getD_getElem?]
  rw [Array.getElem?_setIfInBounds_self_of_lt h]
  rfl
theorem Regs.after (r : Regs φ s a) (h : φ.le φ') {v : AV} {v' : Value} (hv : VR φ' v v') {d : Option Tmp} (hd : fits s d = true) (s' : St) : Regs φ' (s.after s' d v) (a.put d v') := {
  get := fun t u e => by
    cases d with
    | none => exact (r.get t u e).mono h
    | some d =>
      have hlt : d < a.tmps.size := by rw [r.size]; simpa [fits] using hd
      rcases Tr.get_put e with ⟨h1, h2⟩ | ⟨h1, h2⟩
      · subst h1; cases h2
        rw [Act.put_self a hlt]; exact hv
      · rw [Act.put_eval a (fun e => h1 (by cases e; rfl))]; exact (r.get t u h2).mono h
  size := by rw [Act.put_size, r.size]; rfl
  defers := by rw [Act.put_defers, r.defers] }
theorem Regs.putR (r : Regs φ s a) {v : AV} {v' : Value} (hv : VR φ v v') {d : Option Tmp} (hd : fits s d = true) : Regs φ (s.putR d v) (a.put d v') := by
  have := r.after (Phi.le_refl φ) hv hd s
  cases d with
  | none => exact ⟨this.get, this.size, this.defers⟩
  | some d => exact ⟨this.get, this.size, this.defers⟩
theorem Mem.regs (m : Mem φ s w) (h : s'.h = s.h) (n : s'.n = s.n) (l : s'.locs = s.locs) : Mem φ s' w := by
  obtain ⟨r, lo, n0, l0, h0, nt⟩ := s
  obtain ⟨r', lo', n', l', h', nt'⟩ := s'
  simp only at h n l
  subst h; subst n; subst l
  exact ⟨m.heap, m.locs, m.uniq, m.inj⟩
theorem Mem.putR (m : Mem φ s w) (d : Option Tmp) (v : AV) : Mem φ (s.putR d v) w := by
  cases d <;> exact m.regs rfl rfl rfl
theorem Mv.putR (d : Option Tmp) (v : AV) : Mv φ s w φ (s.putR d v) w := by
  cases d <;> exact Mv.same rfl rfl rfl rfl rfl rfl rfl rfl
theorem Mv.after {w' : World} (m : Mv φ s w φ' s' w') (d : Option Tmp) (v : AV) : Mv φ s w φ' (s.after s' d v) w' :=
  ⟨m.ext, m.new, m.n, m.lo, m.os, m.tape, m.output, m.size, m.fr, m.ownH, m.ownL⟩

theorem want_of {ops : Array Oper} {o : Oper} (r : ∀ t u, t ∈ guardTmp ops.toList o → s.regs.get t = some u → VR φ u (a.eval (.tmp t))) {b : Bool} (h : want ops.toList o s.regs = some b) : Region.wanted o (yielded ops a.tmps) = b := by
  unfold want at h
  unfold Region.wanted
  split at h
  · rename_i hg
    cases h; rw [hg]
  · rename_i j b' hg
    rw [hg]
    show (yielded ops a.tmps j == some b') = b
    split at h
    · rename_i d _ _ _ _ _ hj
      have hin : d ∈ guardTmp ops.toList o := by
        unfold guardTmp
        rw [hg]
        dsimp only
        rw [hj]
        exact List.mem_singleton.2 rfl
      rw [Array.getElem?_toList] at hj
      have hy : yielded ops a.tmps j = match a.tmps[d]? with | some (.bool b) => some b | _ => none := by
        unfold yielded
        rw [hj]; rfl
      have hE : ∀ u, VR φ u (a.eval (.tmp d)) → u ≠ AV.undef → a.tmps[d]? = some (a.eval (.tmp d)) := by
        intro u hv hu
        cases hq : a.tmps[d]? with
        | some v => simp [Act.eval, Array.getD_eq_getD_getElem?, hq]
        | none =>
          have : a.eval (.tmp d) = undef := by simp [Act.eval, Array.getD_eq_getD_getElem?, hq]
          rw [this] at hv
          exfalso
          unfold undef at hv
          cases u <;> first | (cases hv; done) | skip
          rename_i cs
          generalize hcs : (Value.tuple #[]) = tv at hv
          cases hv with
          | tup hc =>
            rename_i cs'
            have : cs' = [] := by simpa using hcs.symm
            subst this
            cases hc
            exact hu rfl
      split at h
      · rename_i c hc
        cases h
        have hv := r _ _ hin hc
        have h1 := hE _ hv (by unfold AV.undef; intro e; cases e)
        generalize a.eval (.tmp d) = x at hv h1
        cases hv
        rw [hy, h1]
        dsimp only
        cases c <;> cases b' <;> rfl
      · rename_i u hnb hu
        cases h
        have hv := r _ _ hin hu
        rw [hy]
        cases hq : a.tmps[d]? with
        | none => rfl
        | some x =>
          have : a.eval (.tmp d) = x := by simp [Act.eval, Array.getD_eq_getD_getElem?, hq]
          rw [this] at hv
          cases hv <;> first | rfl | exact absurd rfl (hnb _)
      · cases h
    · cases h

theorem want_run {ops : Array Oper} {o : Oper} (r : Regs φ s a) {b : Bool} (h : want ops.toList o s.regs = some b) : Region.wanted o (yielded ops a.tmps) = b := want_of (fun t u _ h => r.get t u h) h

theorem oneOp_sound (tok : TabOk P T) {C : FuncId → Fun} (ck : CalleeOk P C) {esc : List Tmp} {ops : Array Oper} {i : Nat} {o : Oper} (hi : ops[i]? = some o) {s' : St} (h : oneOp T C esc ops.toList o s = some s') (m : Mem φ s w) (r : Regs φ s a) (hf : ∀ b, s.n ≤ b → b < s'.n → φ b = none)
    {K : Act → World → Prop} {Q : Exit → Act → World → Prop} (hK : ∀ φ' w' a', Mem φ' s' w' → Regs φ' s' a' → Mv φ s w φ' s' w' → K a' w') : wpOp P ops Q i K a w := by
  unfold oneOp at h
  unfold wpOp
  rw [hi]
  dsimp only
  split at h
  · rename_i hw
    rw [want_run r hw, if_pos rfl]
    split at h
    · rename_i v s1 hd
      split at h
      · rename_i hc
        simp only [Bool.and_eq_true] at hc
        cases h
        refine .inl (doOp_sound (P := P) tok ck hd m hf (fun x u hu => val_run r.get hu) K Q ?_)
        intro v' w' φ' hv hm hmv
        exact hK φ' w' _ (hm.regs rfl rfl rfl) (r.after hmv.ext hv hc.1 s1) (hmv.after _ _)
      · cases h
    · cases h
  · rename_i hw
    rw [want_run r hw, if_neg (by simp)]
    split at h
    · rename_i hc
      cases h
      exact hK φ w _ (m.putR _ _) (r.putR (.tup .nil) hc) (Mv.putR _ _)
    · cases h
  · cases h
theorem oneOp_mono {C : FuncId → Fun} {esc : List Tmp} {ops : List Oper} {o : Oper} {s' : St} (h : oneOp T C esc ops o s = some s') : s.n ≤ s'.n := by
  unfold oneOp at h
  split at h
  · split at h
    · split at h
      · rename_i hc
        simp only [Bool.and_eq_true] at hc
        cases h
        exact Nat.le_of_ble_eq_true hc.2
      · cases h
    · cases h
  · split at h
    · cases h
      cases o.dst <;> exact Nat.le_refl _
    · cases h
  · cases h
theorem inOrder_mono {C : FuncId → Fun} {esc : List Tmp} {ops : List Oper} : ∀ {l : List Oper} {s s' : St}, inOrder T C esc ops l s = some s' → s.n ≤ s'.n
  | [], s, s', h => by simp [inOrder] at h; subst h; exact Nat.le_refl _
  | o :: l, s, s', h => by
    simp only [inOrder] at h
    split at h
    · rename_i s1 h1
      exact Nat.le_trans (oneOp_mono h1) (inOrder_mono h)
    · cases h
end

theorem inOrder_sound {P : Program} {T : Tab} (tok : TabOk P T) {C : FuncId → Fun} (ck : CalleeOk P C) {esc : List Tmp} {ops : Array Oper} {Q : Exit → Act → World → Prop} {s' : St} : ∀ {l : List Oper} {i : Nat} {s : St} {φ : Phi} {w : World} {a : Act}, ops.toList.drop i = l → inOrder T C esc ops.toList l s = some s' → Mem φ s w → Regs φ s a → (∀ b, s.n ≤ b → b < s'.n → φ b = none) →
    (∀ φ' w' a', Mem φ' s' w' → Regs φ' s' a' → Mv φ s w φ' s' w' → Q .normal a' w') → wpOps P ops Q (List.range' i l.length) a w
  | [], i, s, φ, w, a, _, h, m, r, hf, hK => by
    simp [inOrder] at h; subst h
    exact hK φ w a m r (Mv.refl _ _ _)
  | o :: l, i, s, φ, w, a, hd, h, m, r, hf, hK => by
    simp only [inOrder] at h
    split at h
    · rename_i s1 h1
      have hi : ops[i]? = some o := by
        rw [← Array.getElem?_toList]
        have := congrArg (·[0]?) hd
        simpa using this
      have hd' : ops.toList.drop (i + 1) = l := by
        rw [← List.drop_drop, hd]; rfl
      rw [List.length_cons, List.range'_succ, wpOps_cons]
      have m1 := inOrder_mono h
      refine oneOp_sound (P := P) tok ck hi h1 m r (fun b h2 h3 => hf b h2 (by omega)) ?_
      intro φ1 w1 a1 hm hr hmv
      have m0 := oneOp_mono h1
      refine inOrder_sound tok ck hd' h hm hr (fun b h2 h3 => ?_) (fun φ' w' a' q1 q2 q3 => hK φ' w' a' q1 q2 (hmv.trans q3))
      rw [hmv.new b (by omega)]
      exact hf b (by omega) h3
    · cases h

/- what a region whose order is open has to keep -/
def DrawOk (P : Program) (T : Tab) (C : FuncId → Fun) : Prop :=
  ∀ (esc : List Tmp) (id : Nat) (ops : Array Oper) (s s' : St), drawn T C esc ops.toList s = some s' → s.n ≤ s'.n ∧ ∀ (φ : Phi) (w : World) (a : Act) (Q : Exit → Act → World → Prop), Mem φ s w → Regs φ s a → (∀ b, s.n ≤ b → b < s'.n → φ b = none) →
    (∀ φ' w' a', Mem φ' s' w' → Regs φ' s' a' → Mv φ s w φ' s' w' → Q .normal a' w') → (Code.region id ops true).wp P Q a w

def Ex.to : Ex → Exit
  | .normal => .normal
  | .exit id => .exit id
  | .ret => .ret

theorem iter_mono {B : St → Option (Ex × St)} (hB : ∀ s s' e, B s = some (e, s') → s.n ≤ s'.n) {e : Ex} {s' : St} : ∀ (j : Nat) (s : St), iter B j s = some (e, s') → s.n ≤ s'.n := by
  intro j
  induction j with
  | zero => intro s h; simp [iter] at h
  | succ j ih =>
    intro s h
    change (match B s with
      | some (.normal, s') => iter B j s'
      | r => r) = _ at h
    split at h
    · rename_i s1 h1
      exact Nat.le_trans (hB _ _ _ h1) (ih _ h)
    · exact hB _ _ _ h
theorem exec_mono {P : Program} {T : Tab} {C : FuncId → Fun} (dk : DrawOk P T C) {esc : List Tmp} {k : Nat} : ∀ (c : Code) {s s' : St} {e : Ex}, exec T C esc k c s = some (e, s') → s.n ≤ s'.n
  | .skip, s, s', e, h => by simp [exec] at h; rw [h.2]; exact Nat.le_refl _
  | .region id ops draw, s, s', e, h => by
    simp only [exec] at h
    split at h
    · rename_i s1 h1
      cases h
      split at h1
      · exact (dk esc id ops s s' h1).1
      · exact inOrder_mono h1
    · cases h
  | .seq x y, s, s', e, h => by
    simp only [exec] at h
    split at h
    · rename_i s1 h1
      exact Nat.le_trans (exec_mono dk x h1) (exec_mono dk y h)
    · exact exec_mono dk x h
  | .cond c x y, s, s', e, h => by
    simp only [exec] at h
    split at h
    · exact exec_mono dk x h
    · exact exec_mono dk y h
    · cases h
  | .block id c, s, s', e, h => by
    simp only [exec] at h
    split at h
    · rename_i j s1 h1
      split at h <;> cases h <;> exact exec_mono dk c h1
    · exact exec_mono dk c h
  | .loop c, s, s', e, h => by
    simp only [exec] at h
    exact iter_mono (fun s s' e h => exec_mono dk c h) k s h
  | .exit id, s, s', e, h => by simp [exec] at h; rw [h.2]; exact Nat.le_refl _
  | .ret, s, s', e, h => by simp [exec] at h; rw [h.2]; exact Nat.le_refl _
  | .label _, s, s', e, h => by simp [exec] at h; rw [h.2]; exact Nat.le_refl _
  | .rangeFunc .., s, s', e, h => by simp [exec] at h
  | .scope _, s, s', e, h => by simp [exec] at h
  | .goto _, s, s', e, h => by simp [exec] at h
  | .refuse _, s, s', e, h => by simp [exec] at h

theorem exec_sound {P : Program} {T : Tab} (tok : TabOk P T) {C : FuncId → Fun} (ck : CalleeOk P C) (dk : DrawOk P T C) {esc : List Tmp} {k : Nat} : ∀ (c : Code) {s s' : St} {e : Ex} {φ : Phi} {w : World} {a : Act} {Q : Exit → Act → World → Prop},
    exec T C esc k c s = some (e, s') → Mem φ s w → Regs φ s a → (∀ b, s.n ≤ b → b < s'.n → φ b = none) → (∀ φ' w' a', Mem φ' s' w' → Regs φ' s' a' → Mv φ s w φ' s' w' → Q e.to a' w') → c.wp P Q a w
  | .skip, s, s', e, φ, w, a, Q, h, m, r, hf, hK => by
    simp [exec] at h
    obtain ⟨rfl, rfl⟩ := h
    exact wp_skip (hK φ w a m r (Mv.refl _ _ _))
  | .region id ops draw, s, s', e, φ, w, a, Q, h, m, r, hf, hK => by
    simp only [exec] at h
    split at h
    · rename_i s1 h1
      cases h
      split at h1
      · rename_i hd
        subst hd
        exact (dk esc id ops s s' h1).2 φ w a Q m r hf hK
      · rename_i hd
        have hd : draw = false := by simpa using hd
        subst hd
        refine wp_region ?_
        have := inOrder_sound (P := P) tok ck (l := ops.toList) (i := 0) (ops := ops) (Q := Q) rfl h1 m r hf hK
        rw [List.range_eq_range']
        simpa using this
    · cases h
  | .seq x y, s, s', e, φ, w, a, Q, h, m, r, hf, hK => by
    simp only [exec] at h
    refine wp_seq ?_
    split at h
    · rename_i s1 h1
      have m2 := exec_mono dk y h
      have m1 := exec_mono dk x h1
      refine exec_sound tok ck dk x h1 m r (fun b h2 h3 => hf b h2 (by omega)) ?_
      intro φ1 w1 a1 q1 q2 q3
      refine exec_sound tok ck dk y h q1 q2 (fun b h2 h3 => ?_) (fun φ' w' a' p1 p2 p3 => hK φ' w' a' p1 p2 (q3.trans p3))
      rw [q3.new b (by omega)]
      exact hf b (by omega) h3
    · rename_i hn
      refine exec_sound tok ck dk x h m r hf ?_
      intro φ1 w1 a1 q1 q2 q3
      cases e with
      | normal => exact absurd h (hn _)
      | exit id => exact hK φ1 w1 a1 q1 q2 q3
      | ret => exact hK φ1 w1 a1 q1 q2 q3
  | .cond c x y, s, s', e, φ, w, a, Q, h, m, r, hf, hK => by
    simp only [exec] at h
    split at h
    · rename_i hc
      have hv := val_run r.get hc
      generalize hx : a.eval c = cv at hv
      cases hv
      exact wp_cond_true hx (exec_sound tok ck dk x h m r hf hK)
    · rename_i hc
      have hv := val_run r.get hc
      generalize hx : a.eval c = cv at hv
      cases hv
      exact wp_cond_false hx (exec_sound tok ck dk y h m r hf hK)
    · cases h
  | .block id c, s, s', e, φ, w, a, Q, h, m, r, hf, hK => by
    simp only [exec] at h
    refine wp_block ?_
    split at h
    · rename_i j s1 h1
      split at h
      · rename_i hj
        have hj := Nat.eq_of_beq_eq_true hj
        subst hj
        cases h
        refine exec_sound tok ck dk c h1 m r hf ?_
        intro φ1 w1 a1 q1 q2 q3
        simp only [Ex.to, Exit.inBlock, if_pos]
        exact hK φ1 w1 a1 q1 q2 q3
      · rename_i hj
        have hj : j ≠ id := fun e => hj (by subst e; simp)
        cases h
        refine exec_sound tok ck dk c h1 m r hf ?_
        intro φ1 w1 a1 q1 q2 q3
        simp only [Ex.to, Exit.inBlock, if_neg hj]
        exact hK φ1 w1 a1 q1 q2 q3
    · rename_i hn
      refine exec_sound tok ck dk c h m r hf ?_
      intro φ1 w1 a1 q1 q2 q3
      cases e with
      | normal => exact hK φ1 w1 a1 q1 q2 q3
      | exit j => exact absurd h (hn _ _)
      | ret => exact hK φ1 w1 a1 q1 q2 q3
  | .loop c, s, s', e, φ, w, a, Q, h, m, r, hf, hK => by
    simp only [exec] at h
    intro b0 k0 cs
    have key : ∀ j (s : St) (φ : Phi) (w : World) (a : Act), iter (exec T C esc k c) j s = some (e, s') → Mem φ s w → Regs φ s a → (∀ b, s.n ≤ b → b < s'.n → φ b = none) → (∀ φ' w' a', Mem φ' s' w' → Regs φ' s' a' → Mv φ s w φ' s' w' → Q e.to a' w') →
        ∃ e a' w', Q e a' w' ∧ Arrives P (lone (b0.at a (.code c :: .inLoop c :: k0)) cs w) b0 k0 cs e a' w' := by
      intro j
      induction j with
      | zero => intro s φ w a h; simp [iter] at h
      | succ j ih =>
        intro s φ w a h m r hf hK
        change (match exec T C esc k c s with
          | some (.normal, s') => iter (exec T C esc k c) j s'
          | r => r) = _ at h
        split at h
        · rename_i s1 h1
          have m1 := exec_mono dk c h1
          have m2 := iter_mono (fun s s' e h => exec_mono dk c h) j s1 h
          have := exec_sound tok ck dk c (Q := fun e a' w' => e = .normal ∧ ∃ φ1, Mem φ1 s1 w' ∧ Regs φ1 s1 a' ∧ Mv φ s w φ1 s1 w') h1 m r (fun b h2 h3 => hf b h2 (by omega)) (fun φ1 w1 a1 q1 q2 q3 => ⟨rfl, φ1, q1, q2, q3⟩)
          obtain ⟨e1, a1, w1, ⟨rfl, φ1, q1, q2, q3⟩, harr⟩ := this b0 (.inLoop c :: k0) cs
          obtain ⟨e2, a2, w2, hq2, harr2⟩ := ih s1 φ1 w1 a1 h q1 q2 (fun b h2 h3 => by rw [q3.new b (by omega)]; exact hf b (by omega) h3) (fun φ' w' a' p1 p2 p3 => hK φ' w' a' p1 p2 (q3.trans p3))
          exact ⟨e2, a2, w2, hq2, .of_steps (Steps.trans harr (.one step_inLoop)) harr2⟩
        · rename_i hn
          have := exec_sound tok ck dk c (Q := fun e a w => e ≠ .normal ∧ Q e a w) h m r hf (by
            intro φ1 w1 a1 q1 q2 q3
            refine ⟨?_, hK φ1 w1 a1 q1 q2 q3⟩
            cases e with
            | normal => exact absurd h (hn _)
            | exit j => simp [Ex.to]
            | ret => simp [Ex.to])
          obtain ⟨e1, a1, w1, ⟨hne, hq⟩, harr⟩ := this b0 (.inLoop c :: k0) cs
          cases e1 with
          | normal => exact absurd rfl hne
          | exit id => exact ⟨_, a1, w1, hq, .pass (x := .inLoop c) rfl (fun _ _ => .inl (by simp)) harr⟩
          | goto l => exact ⟨_, a1, w1, hq, .pass (x := .inLoop c) rfl (fun _ _ => .inl (by simp)) harr⟩
          | ret => exact ⟨_, a1, w1, hq, .pass (x := .inLoop c) rfl (fun _ _ => .inl (by simp)) harr⟩
          | panic ch => exact ⟨_, a1, w1, hq, .pass (x := .inLoop c) rfl (fun _ _ => .inl (by simp)) harr⟩
          | outgrown => exact ⟨_, a1, w1, hq, .pass (x := .inLoop c) rfl (fun _ _ => .inl (by simp)) harr⟩
    obtain ⟨e1, a1, w1, hq, harr⟩ := key k s φ w a h m r hf hK
    exact ⟨e1, a1, w1, hq, .of_steps (.one step_loop) harr⟩
  | .exit id, s, s', e, φ, w, a, Q, h, m, r, hf, hK => by
    simp [exec] at h
    obtain ⟨rfl, rfl⟩ := h
    exact wp_exit (hK φ w a m r (Mv.refl _ _ _))
  | .ret, s, s', e, φ, w, a, Q, h, m, r, hf, hK => by
    simp [exec] at h
    obtain ⟨rfl, rfl⟩ := h
    exact wp_ret (hK φ w a m r (Mv.refl _ _ _))
  | .label _, s, s', e, φ, w, a, Q, h, m, r, hf, hK => by
    simp [exec] at h
    obtain ⟨rfl, rfl⟩ := h
    exact wp_label (hK φ w a m r (Mv.refl _ _ _))
  | .rangeFunc .., s, s', e, φ, w, a, Q, h, m, r, hf, hK => by simp [exec] at h
  | .scope _, s, s', e, φ, w, a, Q, h, m, r, hf, hK => by simp [exec] at h
  | .goto _, s, s', e, φ, w, a, Q, h, m, r, hf, hK => by simp [exec] at h
  | .refuse _, s, s', e, φ, w, a, Q, h, m, r, hf, hK => by simp [exec] at h

end Am
end Go.Proofs.YtdmfdclkpdliaaaGreatDoor
