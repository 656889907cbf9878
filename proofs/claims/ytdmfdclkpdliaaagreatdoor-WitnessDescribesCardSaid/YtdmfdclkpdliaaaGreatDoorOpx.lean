/- Each operation of the abstract machine is what the model does: part ten: all operations together. No condition. -/
import Derived.Test.YtdmfdclkpdliaaaGreatDoorOpw
import Derived.Calls
namespace Go.Proofs.YtdmfdclkpdliaaaGreatDoor
namespace Am
open Go

/- what a callee answers, it answers in the model -/
def CalleeOk (P : Program) (C : FuncId → Fun) : Prop :=
  ∀ (f : FuncId) (args : List AV) (s : St) (r : Res), C f args s.n s.h = some r →
    (∃ fn, P.funcs[f]? = some fn ∧ (fn.name == "runtime.NumGoroutine") = false ∧ fn.body.isNone = false) ∧ s.n ≤ r.n ∧
    ∀ (φ : Phi) (w : World) (vs : Array Value), Mem φ s w → (∀ b, s.n ≤ b → b < r.n → φ b = none) → VRs φ args vs.toList →
      Calls P f vs w fun e w' => match e with
        | .returned v => ∃ φ', VR φ' r.v v ∧ Mem φ' { s with n := r.n, lo := min s.lo r.lo, h := r.h } w' ∧ Mv φ s w φ' { s with n := r.n, lo := min s.lo r.lo, h := r.h } w'
        | _ => False

section
variable {P : Program} {w : World} {T : Tab} {φ : Phi} {s : St} {a : Act}
theorem val_run {r : Tr AV} (hr : ∀ t u, r.get t = some u → VR φ u (a.eval (.tmp t))) {x : Operand} {u : AV} (h : r.val x = some u) : VR φ u (a.eval x) := by
  cases x with
  | tmp t => exact hr t u h
  | const v => exact AV.ofV_sound h
  | func f => simp only [Tr.val] at h; cases h; exact .func .nil .nil
  | global g => simp [Tr.val] at h
theorem vals_run {r : Tr AV} (hr : ∀ x u, r.val x = some u → VR φ u (a.eval x)) : ∀ {l : List Operand} {vs : List AV}, vals r l = some vs → VRs φ vs (l.map a.eval)
  | [], vs, h => by simp [vals] at h; subst h; exact .nil
  | x :: l, vs, h => by
    simp only [vals] at h
    split at h
    · cases h
    · rename_i v hv
      split at h
      · cases h
      · rename_i vs' hvs
        cases h
        exact .cons (hr x v hv) (vals_run hr hvs)
theorem pairVals_run {r : Tr AV} (hr : ∀ x u, r.val x = some u → VR φ u (a.eval x)) : ∀ {l : List (Nat × Operand)} {vs : List (Nat × AV)}, pairVals r l = some vs → PRs φ vs (l.map fun p => (p.1, a.eval p.2))
  | [], vs, h => by simp [pairVals] at h; subst h; trivial
  | (i, x) :: l, vs, h => by
    simp only [pairVals] at h
    split at h
    · cases h
    · rename_i v hv
      split at h
      · cases h
      · rename_i vs' hvs
        cases h
        exact ⟨rfl, hr x v hv, pairVals_run hr hvs⟩
theorem optVal_run {r : Tr AV} (hr : ∀ x u, r.val x = some u → VR φ u (a.eval x)) {x : Option Operand} {v : Option AV} (h : optVal r x = some v) : OR φ v (x.map a.eval) := by
  cases x with
  | none => simp [optVal] at h; subst h; trivial
  | some x =>
    simp only [optVal] at h
    split at h
    · cases h
    · rename_i u hu
      cases h
      exact hr x u hu

/- an operation has been done -/
def Did (P : Program) (o : Oper) (a : Act) (φ : Phi) (s : St) (w : World) (v : AV) (s' : St) : Prop :=
  ∀ K Q, (∀ v' w' φ', VR φ' v v' → Mem φ' s' w' → Mv φ s w φ' s' w' → K (a.put o.dst v') w') → o.wp P a w K Q
theorem Did.value {o : Oper} {v : AV} {s' : St} {v' : Value} {w' : World} {φ' : Phi} (hr : (execOp a.eval o).run P w = .ok (.value v') w') (hv : VR φ' v v') (m : Mem φ' s' w') (mv : Mv φ s w φ' s' w') : Did P o a φ s w v s' :=
  fun K Q hK => by
    unfold Oper.wp
    rw [hr]
    exact hK v' w' φ' hv m mv
theorem Did.same {o : Oper} {v : AV} {v' : Value} (m : Mem φ s w) (hr : (execOp a.eval o).run P w = .ok (.value v') w) (hv : VR φ v v') : Did P o a φ s w v s := .value hr hv m (Mv.refl _ _ _)
theorem Did.skip {o : Oper} {s' : St} {w' : World} {φ' : Phi} (hr : (execOp a.eval o).run P w = .ok .skip w') (m : Mem φ' s' w') (mv : Mv φ s w φ' s' w') : Did P o a φ s w AV.undef s' :=
  fun K Q hK => by
    unfold Oper.wp
    rw [hr]
    exact hK undef w' φ' (.tup .nil) m mv
theorem val_some {x : Option AV} {v : AV} {s s' : St} (h : val s x = some (v, s')) : x = some v ∧ s' = s := by
  cases x with
  | none => simp [val] at h
  | some u => simp [val] at h; exact ⟨by rw [h.1], h.2.symm⟩
theorem unit_some {x : Option St} {v : AV} {s' : St} (h : unit x = some (v, s')) : x = some s' ∧ v = AV.undef := by
  cases x with
  | none => simp [unit] at h
  | some u => simp [unit] at h; exact ⟨by rw [h.2], h.1.symm⟩

theorem builtin_sound (tok : TabOk P T) (m : Mem φ s w) {b : Builtin} {ts : Array TypeId} {args : List AV} {v : AV} {s' : St} (h : builtin T b ts.toList s args = some (v, s')) (hf : s.n < s'.n → φ s.n = none) {args' : Array Value} (ha : VRs φ args args'.toList) (ty : TypeId) (cs : Array Bool) :
    ∃ v' w' φ', (Go.builtin b ts ty cs args').run P w = .ok (.value v') w' ∧ VR φ' v v' ∧ Mem φ' s' w' ∧ Mv φ s w φ' s' w' := by
  obtain ⟨args'⟩ := args'
  obtain ⟨ts⟩ := ts
  simp only at h ha
  unfold builtin at h
  split at h
  · rename_i t tl x
    cases ha with
    | cons hx hs =>
      cases hs
      split at h
      · rename_i n hn
        cases h
        have := len_run (P := P) tok m hn hx ⟨t :: tl⟩ (by simp) ty
        exact ⟨_, w, φ, by simp only [Go.builtin, Sem.run_bind, this, Result.andThen_ok, Sem.run_pure], .int _ _, m, Mv.refl _ _ _⟩
      · cases h
  · rename_i t tl x
    cases ha with
    | cons hx hs =>
      cases hs
      split at h
      · rename_i e _ _ _ _ _ hi
        have hu := (tok.ti _ _ hi).slice rfl
        split at h
        · rename_i b o len cap ex sz
          split at h
          · rename_i hex
            cases h
            cases hx with
            | slice hφ h1 h2 h3 h4 =>
              have := h3 (Nat.eq_of_beq_eq_true hex)
              subst this
              exact ⟨_, w, φ, by simp [Go.builtin, Builtin.cap_, run_underlying hu, goInt], .int _ _, m, Mv.refl _ _ _⟩
          · cases h
        · cases h
          cases hx
          exact ⟨_, w, φ, by simp [Go.builtin, Builtin.cap_, run_underlying hu, goInt], .int _ _, m, Mv.refl _ _ _⟩
        · cases h
      · cases h
  · rename_i t u tl d x
    cases ha with
    | cons hd hs =>
      cases hs with
      | cons hx hs =>
        cases hs
        obtain ⟨v', w', φ', r1, r2, r3, r4⟩ := append_run (P := P) tok m h hf hd hx (ts := ⟨t :: u :: tl⟩) (by simp) (by simp) ty
        exact ⟨v', w', φ', by simp only [Go.builtin, Sem.run_bind, r1, Result.andThen_ok, Sem.run_pure], r2, r3, r4⟩
  · rename_i t tl d x
    cases ha with
    | cons hd hs =>
      cases hs with
      | cons hx hs =>
        cases hs
        obtain ⟨v', w', r1, r2, r3, r4⟩ := copy_run (P := P) tok m h hd hx ⟨t :: tl⟩ (by simp) ty
        exact ⟨v', w', φ, by simp only [Go.builtin, Sem.run_bind, r1, Result.andThen_ok, Sem.run_pure], r2, r3, r4⟩
  · rename_i x r
    cases ha with
    | cons hx hs =>
      split at h
      · rename_i v hv
        cases h
        obtain ⟨u, r1, r2⟩ := minMax_run (P := P) (w := w) hv hx hs
        simp only [Bool.false_eq_true, if_false] at r1
        exact ⟨u, w, φ, by simp only [Go.builtin, Builtin.min_, Sem.run_bind, r1, Result.andThen_ok, Sem.run_pure], r2, m, Mv.refl _ _ _⟩
      · cases h
  · rename_i x r
    cases ha with
    | cons hx hs =>
      split at h
      · rename_i v hv
        cases h
        obtain ⟨u, r1, r2⟩ := minMax_run (P := P) (w := w) hv hx hs
        simp only [if_true] at r1
        exact ⟨u, w, φ, by simp only [Go.builtin, Builtin.max_, Sem.run_bind, r1, Result.andThen_ok, Sem.run_pure], r2, m, Mv.refl _ _ _⟩
      · cases h
  · cases h

theorem doOp_sound (tok : TabOk P T) {C : FuncId → Fun} (ck : CalleeOk P C) {esc : List Tmp} {o : Oper} {v : AV} {s' : St} (h : doOp T C esc o s = some (v, s')) (m : Mem φ s w) (hf : ∀ b, s.n ≤ b → b < s'.n → φ b = none)
    (hρ : ∀ x u, s.regs.val x = some u → VR φ u (a.eval x)) : Did P o a φ s w v s' := by
  have hfr : s.n < s'.n → φ s.n = none := fun h => hf _ (Nat.le_refl _) h
  unfold doOp at h
  dsimp only at h
  split at h
  · rename_i x hop
    obtain ⟨hq, rfl⟩ := val_some h
    exact .same m (by simp [execOp, hop]) (hρ _ _ hq)
  · rename_i x hop
    obtain ⟨hq, rfl⟩ := val_some h
    exact .same m (by simp [execOp, hop]) (hρ _ _ hq)
  · rename_i c x y hop
    split at h
    · rename_i t ht
      obtain ⟨hq, rfl⟩ := val_some h
      have hb := hρ _ _ ht
      generalize hc : a.eval c = cv at hb
      cases hb
      cases t with
      | true => exact .same m (v' := a.eval x) (by simp [execOp, hop, hc, asBool]) (hρ _ _ hq)
      | false => exact .same m (v' := a.eval y) (by simp [execOp, hop, hc, asBool]) (hρ _ _ hq)
    · cases h
  · rename_i e hop
    split at h
    · rename_i i hi
      simp only [Option.some.injEq] at h
      obtain ⟨z, z1, z2, z3, z4⟩ := (tok.ti _ _ hi).run_zero w
      have hn : φ s.n = none := by
        apply hfr
        have : s' = (s.boxed esc o.dst i.zero e).2 := by rw [h]
        rw [this]
        unfold St.boxed St.new
        split
        · split <;> exact Nat.lt_succ_self _
        · exact Nat.lt_succ_self _
      obtain ⟨φ', w', r1, r2, r3, r4⟩ := boxed_run (P := P) m hn (us := z.cells) (z2 φ) z3 esc o.dst e
      rw [h] at r2 r3 r4
      exact .value (by simp only [execOp, hop, Instr.alloc, newVar, Sem.run_bind, z1, Result.andThen_ok, r1, Sem.run_pure]) r2 r3 r4
    · cases h
  · rename_i e x hop
    split at h
    · rename_i u hu
      split at h
      · rename_i h1
        simp only [Option.some.injEq] at h
        have hn : φ s.n = none := by
          apply hfr
          have : s' = (s.boxed esc o.dst u.cells e).2 := by rw [h]
          rw [this]
          unfold St.boxed St.new
          split
          · split <;> exact Nat.lt_succ_self _
          · exact Nat.lt_succ_self _
        obtain ⟨φ', w', r1, r2, r3, r4⟩ := boxed_run (P := P) m hn (us := (a.eval x).cells) (hρ _ _ hu).cells h1 esc o.dst e
        rw [h] at r2 r3 r4
        exact .value (by simp only [execOp, hop, Instr.box, newVar, Sem.run_bind, Result.andThen_ok, r1, Sem.run_pure]) r2 r3 r4
      · cases h
    · cases h
  · rename_i t ps hop
    split at h
    · rename_i i vs hi hvs
      have hl : PRs φ vs (ps.map fun p => (p.1, a.eval p.2)).toList := by
        rw [Array.toList_map]; exact pairVals_run hρ hvs
      split at h
      · rename_i fs htd
        split at h
        · rename_i hall
          split at h
          · rename_i cs hcs
            cases h
            obtain ⟨u, r1, r2⟩ := build_struct_run (P := P) (w := w) tok hi htd hall hl hcs
            exact .same m (by simp only [execOp, hop, Sem.run_bind, r1, Result.andThen_ok, Sem.run_pure]) r2
          · cases h
        · cases h
      · rename_i n e htd
        split at h
        · cases h
        · rename_i ei he
          split at h
          · rename_i cs hcs
            cases h
            obtain ⟨u, r1, r2⟩ := build_array_run (P := P) (w := w) tok hi htd he hl hcs
            exact .same m (by simp only [execOp, hop, Sem.run_bind, r1, Result.andThen_ok, Sem.run_pure]) r2
          · cases h
      · cases h
    · cases h
  · rename_i t n ps hop
    split at h
    · rename_i e _ _ _ _ _ vs hi hvs
      have hl : PRs φ vs (ps.map fun p => (p.1, a.eval p.2)).toList := by
        rw [Array.toList_map]; exact pairVals_run hρ hvs
      split at h
      · cases h
      · rename_i ei he
        split at h
        · rename_i hc
          simp only [Bool.and_eq_true] at hc
          split at h
          · rename_i cs hcs
            cases h
            obtain ⟨φ', u, w', r1, r2, r3, r4⟩ := buildSlice_run (P := P) tok m (hfr (Nat.lt_succ_self _)) hi rfl he (Nat.le_of_ble_eq_true hc.1) hl hcs
            exact .value (by simp only [execOp, hop, Sem.run_bind, r1, Result.andThen_ok, Sem.run_pure]) r2 r3 r4
          · cases h
        · cases h
    · cases h
  · rename_i t x hop
    split at h
    · rename_i i av hi hav
      split at h
      · rename_i cs of hcs
        split at h
        · rename_i vs hvs
          obtain ⟨hq, rfl⟩ := val_some h
          obtain ⟨u, r1, r2⟩ := load_run (P := P) tok hi m hcs (hρ _ _ hav) hvs hq
          exact .same m (by simp only [execOp, hop, Sem.run_bind, r1, Result.andThen_ok, Sem.run_pure]) r2
        · cases h
      · cases h
    · cases h
  · rename_i t x y hop
    split at h
    · rename_i i av u hi hav hu
      split at h
      · rename_i hc
        simp only [Bool.and_eq_true] at hc
        obtain ⟨hq, rfl⟩ := unit_some h
        obtain ⟨w', r1, r2, r3⟩ := store_run (P := P) tok hi m (hρ _ _ hav) (hρ _ _ hu) (Nat.eq_of_beq_eq_true hc.1) hc.2 hq
        exact .skip (by simp only [execOp, hop, Sem.run_bind, r1, Result.andThen_ok, Sem.run_pure]) r2 r3
      · cases h
    · cases h
  · rename_i x hop
    split at h
    · rename_i b of hb
      cases h
      have hv := hρ _ _ hb
      generalize hc : a.eval x = cv at hv
      cases hv with
      | ptr hφ => exact .same m (by simp [execOp, hop, hc]) (.ptr hφ)
    · rename_i t g of hb
      cases h
      have hv := hρ _ _ hb
      generalize hc : a.eval x = cv at hv
      cases hv with
      | loc hφ => exact .same m (by simp [execOp, hop, hc]) (.loc hφ)
    · cases h
  · rename_i op t x y _ hop
    split at h
    · rename_i u1 u2 h1 h2
      obtain ⟨hq, rfl⟩ := val_some h
      obtain ⟨u, r1, r2, r3⟩ := binop_run (P := P) (w := w) tok x y hq (hρ _ _ h1) (hρ _ _ h2)
      exact .same m (by simp only [execOp, hop, Sem.run_bind, r1, r2, Result.andThen_ok, Sem.run_pure]) r3
    · cases h
  · rename_i op _ x hop
    split at h
    · rename_i u1 h1
      obtain ⟨hq, rfl⟩ := val_some h
      obtain ⟨u, r2, r3⟩ := unop_run (P := P) (w := w) hq (hρ _ _ h1)
      exact .same m (by simp only [execOp, hop, Sem.run_bind, r2, Result.andThen_ok, Sem.run_pure]) r3
    · cases h
  · rename_i e d x hop
    split at h
    · rename_i u1 h1
      obtain ⟨hq, rfl⟩ := val_some h
      obtain ⟨u, r2, r3⟩ := convert_run (P := P) tok m hq (hρ _ _ h1)
      exact .same m (by simp only [execOp, hop, Sem.run_bind, r2, Result.andThen_ok, Sem.run_pure]) r3
    · cases h
  · rename_i f first cap hop
    split at h
    · rename_i u1 u2 h1 h2
      cases h
      have v1 := vals_run hρ h1
      have v2 := vals_run hρ h2
      exact .same m (v' := .func (.func f) (first.map a.eval) (cap.map a.eval)) (by simp only [execOp, hop, Instr.makeFunc, Sem.run_bind, Result.andThen_ok, Sem.run_pure]) (by
        have := VR.func (f := f) v1 v2
        rw [← Array.toList_map, ← Array.toList_map] at this
        exact this)
    · cases h
  · rename_i t hop
    cases h
    obtain ⟨φ', u, w', r1, r2, r3, r4⟩ := makeMap_run (P := P) m (hfr (Nat.lt_succ_self _)) t
    exact .value (by simp only [execOp, hop, Option.map_none, Sem.run_bind, r1, Result.andThen_ok, Sem.run_pure]) r2 r3 r4
  · rename_i t l c hop
    split at h
    · rename_i e _ _ _ _ _ l' c' hi h1 h2
      split at h
      · rename_i ei ln cn he hl hc
        have hl := toNat?_some hl
        have hc := toNat?_some hc
        subst hl; subst hc
        split at h
        · rename_i hb
          simp only [Bool.and_eq_true] at hb
          cases h
          obtain ⟨φ', u, w', r1, r2, r3, r4⟩ := makeSlice_run (P := P) tok m (hfr (Nat.lt_succ_self _)) hi rfl he (Nat.le_of_ble_eq_true hb.1.1) (Nat.le_of_ble_eq_true hb.1.2) (by simpa using hb.2)
          have v1 := hρ _ _ h1
          have v2 := hρ _ _ h2
          generalize hc1 : a.eval l = c1 at v1
          generalize hc2 : a.eval c = c2 at v2
          cases v1; cases v2
          exact .value (by simp only [execOp, hop, hc1, hc2, Sem.run_bind]; erw [r1]; rfl) r2 r3 r4
        · cases h
      · cases h
    · cases h
  · rename_i t x lo hi mx hop
    split at h
    · rename_i u l hh mm h1 h2 h3 h4
      obtain ⟨hq, rfl⟩ := val_some h
      obtain ⟨u', r1, r2⟩ := slice_run (P := P) tok m hq (hρ _ _ h1) (optVal_run hρ h2) (optVal_run hρ h3) (optVal_run hρ h4)
      exact .same m (by simp only [execOp, hop, Sem.run_bind, r1, Result.andThen_ok, Sem.run_pure]) r2
    · cases h
  · rename_i t x f hop
    split at h
    · rename_i fs _ _ _ _ _ u hi h1
      split at h
      · rename_i off ft bl hfs
        split at h
        · rename_i fi hfi
          split at h
          · rename_i h0
            obtain ⟨hq, rfl⟩ := val_some h
            obtain ⟨u', r1, r2⟩ := fieldAddr_run (P := P) (w := w) tok hi rfl hfs hfi (by simpa using h0) hq (hρ _ _ h1)
            exact .same m (by simp only [execOp, hop, Sem.run_bind, r1, Result.andThen_ok, Sem.run_pure]) r2
          · cases h
        · cases h
      · cases h
    · cases h
  · rename_i t x f hop
    split at h
    · rename_i fs _ _ _ _ _ cs hi h1
      split at h
      · rename_i off ft bl hfs
        split at h
        · rename_i fi hfi
          obtain ⟨hq, rfl⟩ := val_some h
          obtain ⟨u', r1, r2⟩ := field_run (P := P) (w := w) tok hi rfl hfs hfi hq (hρ _ _ h1)
          exact .same m (by simp only [execOp, hop, Sem.run_bind, r1, Result.andThen_ok, Sem.run_pure]) r2
        · cases h
      · cases h
    · cases h
  · rename_i t x ix hop
    split at h
    · rename_i ti av k n hi h1 h2
      split at h
      · cases h
      · rename_i i hn
        have hn := toNat?_some hn
        subst hn
        have v2 := hρ _ _ h2
        generalize hc2 : a.eval ix = c2 at v2
        cases v2
        split at h
        · rename_i e b of len _ _ sz htd
          split at h
          · rename_i ei he
            split at h
            · rename_i hc
              simp only [Bool.and_eq_true] at hc
              cases h
              obtain ⟨u', r1, r2⟩ := indexAddr_slice_run (P := P) (w := w) tok hi htd he (n := i) (by simpa using hc.1) (Nat.eq_of_beq_eq_true hc.2) (k := k) (hρ _ _ h1)
              exact .same m (by simp only [execOp, hop, hc2, Sem.run_bind]; erw [r1]; rfl) r2
            · cases h
          · cases h
        · rename_i len e _ htd
          split at h
          · rename_i ei he
            split at h
            · rename_i hc
              obtain ⟨hq, rfl⟩ := val_some h
              obtain ⟨u', r1, r2⟩ := indexAddr_array_run (P := P) (w := w) tok hi htd he (n := i) (by simpa using hc) (k := k) hq (hρ _ _ h1)
              exact .same m (by simp only [execOp, hop, hc2, Sem.run_bind]; erw [r1]; rfl) r2
            · cases h
          · cases h
        · cases h
    · cases h
  · rename_i t x ix hop
    split at h
    · rename_i ti av k n hi h1 h2
      split at h
      · cases h
      · rename_i i hn
        have hn := toNat?_some hn
        subst hn
        have v2 := hρ _ _ h2
        generalize hc2 : a.eval ix = c2 at v2
        cases v2
        split at h
        · rename_i l htd
          split at h
          · rename_i c hc
            cases h
            obtain ⟨u', r1, r2⟩ := index_string_run (P := P) (w := w) tok hi htd hc (k := k) (hρ _ _ h1)
            exact .same m (by simp only [execOp, hop, hc2, Sem.run_bind]; erw [r1]; rfl) r2
          · cases h
        · rename_i len e cs htd
          split at h
          · rename_i ei he
            split at h
            · rename_i hc
              obtain ⟨hq, rfl⟩ := val_some h
              obtain ⟨u', r1, r2⟩ := index_array_run (P := P) (w := w) tok hi htd he (n := i) (by simpa using hc) (k := k) hq (hρ _ _ h1)
              exact .same m (by simp only [execOp, hop, hc2, Sem.run_bind]; erw [r1]; rfl) r2
            · cases h
          · cases h
        · cases h
    · cases h
  · rename_i t mo k ok hop
    split at h
    · rename_i mv kv h1 h2
      obtain ⟨hq, rfl⟩ := val_some h
      obtain ⟨u', r1, r2⟩ := lookup_run (P := P) tok m hq (hρ _ _ h1) (hρ _ _ h2)
      exact .same m (by simp only [execOp, hop, Sem.run_bind, r1, Result.andThen_ok, Sem.run_pure]) r2
    · cases h
  · rename_i t mo k x hop
    split at h
    · rename_i mv kv u h1 h2 h3
      obtain ⟨hq, rfl⟩ := unit_some h
      obtain ⟨w', r1, r2, r3⟩ := mapPut_run (P := P) tok m hq (hρ _ _ h1) (hρ _ _ h2) (hρ _ _ h3)
      exact .skip (by simp only [execOp, hop, Sem.run_bind, r1, Result.andThen_ok, Sem.run_pure]) r2 r3
    · cases h
  · rename_i t mo k x hop
    split at h
    · rename_i mv kv u h1 h2 h3
      obtain ⟨hq, rfl⟩ := unit_some h
      obtain ⟨w', r1, r2, r3⟩ := mapPut_run (P := P) tok m hq (hρ _ _ h1) (hρ _ _ h2) (hρ _ _ h3)
      exact .skip (by simp only [execOp, hop, Sem.run_bind, r1, Result.andThen_ok, Sem.run_pure]) r2 r3
    · cases h
  · rename_i t ix hop
    split at h
    · rename_i vs hvs
      obtain ⟨hq, rfl⟩ := val_some h
      have hv := hρ _ _ hvs
      generalize hc : a.eval t = cv at hv
      cases hv with
      | tup hcs =>
        obtain ⟨u, u1, u2⟩ := hcs.get hq
        exact .same m (by simp [execOp, hop, hc, Instr.extract, u1]) u2
    · cases h
  · rename_i f args ts hop
    split at h
    · rename_i g first cap vs h1 h2
      unfold St.took at h
      split at h
      · rename_i r hr
        cases h
        obtain ⟨⟨fn, f1, f2, f3⟩, hle, hcall⟩ := ck _ _ _ _ hr
        have hv := hρ _ _ h1
        have v2 := vals_run hρ h2
        generalize hc : a.eval f = cv at hv
        cases hv with
        | func ha hb =>
          rename_i fs cs
          intro K Q hK
          have hrun : (execOp a.eval o).run P w = .ok (.enter g (fs.toArray ++ args.map a.eval ++ cs.toArray)) w := by
            have f2' : fn.name ≠ "runtime.NumGoroutine" := by simpa using f2
            have f3' : fn.body ≠ none := by
              intro hh
              rw [hh] at f3
              cases f3
            simp [execOp, hop, resolve, hc, Deferred.ofValue, invoke, callFunc, f1, f2', f3']
          unfold Oper.wp
          rw [hrun, Oper.upon_enter]
          refine Calls.mono (hcall φ w _ m hf ?_) ?_
          · simpa using (ha.append v2).append hb
          · intro e w' he
            cases e with
            | returned v =>
              obtain ⟨φ', q1, q2, q3⟩ := he
              exact hK v w' φ' q1 q2 q3
            | panicked chain => exact he.elim
            | outgrown => exact he.elim
      · cases h
    · cases h
  · rename_i b args ts hop
    split at h
    · rename_i vs h1
      have v1 := vals_run hρ h1
      obtain ⟨u, w', φ', r1, r2, r3, r4⟩ := builtin_sound (P := P) tok m h hfr (args' := args.map a.eval) (by rw [Array.toList_map]; exact v1) o.type (args.map fun | .const _ => true | _ => false)
      exact .value (by simp [execOp, hop, resolve, invoke]; exact r1) r2 r3 r4
    · cases h
  · cases h
end

end Am
end Go.Proofs.YtdmfdclkpdliaaaGreatDoor
