/- Operations that write no memory leave the world as it is. No condition. -/
import Derived.Test.YtdmfdclkpdliaaaGreatDoorOpx
namespace Go.Proofs.YtdmfdclkpdliaaaGreatDoor
namespace Am
open Go

section
variable {P : Program} {w : World} {T : Tab} {φ : Phi} {s : St} {a : Act}
def Did0 (P : Program) (o : Oper) (a : Act) (φ : Phi) (w : World) (v : AV) : Prop :=
  ∀ K Q, (∀ v', VR φ v v' → K (a.put o.dst v') w) → o.wp P a w K Q
theorem Did0.same {o : Oper} {v : AV} {v' : Value} (hr : (execOp a.eval o).run P w = .ok (.value v') w) (hv : VR φ v v') : Did0 P o a φ w v :=
  fun K Q hK => by
    unfold Oper.wp
    rw [hr]
    exact hK v' hv
theorem builtin_pure (tok : TabOk P T) (m : Mem φ s w) {b : Builtin} {ts : Array TypeId} {args : List AV} {v : AV} {s' : St} (h : builtin T b ts.toList s args = some (v, s')) (hb : b ≠ .append ∧ b ≠ .copy) {args' : Array Value} (ha : VRs φ args args'.toList) (ty : TypeId) (cs : Array Bool) :
    s' = s ∧ ∃ v', (Go.builtin b ts ty cs args').run P w = .ok (.value v') w ∧ VR φ v v' := by
  obtain ⟨args'⟩ := args'
  obtain ⟨ts⟩ := ts
  simp only at h ha
  unfold builtin at h
  split at h
  · rename_i t tl x
    cases ha with
    | cons hx hs =>
      cases hs
      split at h
      · rename_i n hn
        cases h
        have := len_run (P := P) tok m hn hx ⟨t :: tl⟩ (by simp) ty
        exact ⟨rfl, _, by simp only [Go.builtin, Sem.run_bind, this, Result.andThen_ok, Sem.run_pure], .int _ _⟩
      · cases h
  · rename_i t tl x
    cases ha with
    | cons hx hs =>
      cases hs
      split at h
      · rename_i e _ _ _ _ _ hi
        have hu := (tok.ti _ _ hi).slice rfl
        split at h
        · rename_i b o len cap ex sz
          split at h
          · rename_i hex
            cases h
            cases hx with
            | slice hφ h1 h2 h3 h4 =>
              have := h3 (Nat.eq_of_beq_eq_true hex)
              subst this
              exact ⟨rfl, _, by simp [Go.builtin, Builtin.cap_, run_underlying hu, goInt], .int _ _⟩
          · cases h
        · cases h
          cases hx
          exact ⟨rfl, _, by simp [Go.builtin, Builtin.cap_, run_underlying hu, goInt], .int _ _⟩
        · cases h
      · cases h
  · exact absurd rfl hb.1
  · exact absurd rfl hb.2
  · rename_i x r
    cases ha with
    | cons hx hs =>
      split at h
      · rename_i v hv
        cases h
        obtain ⟨u, r1, r2⟩ := minMax_run (P := P) (w := w) hv hx hs
        simp only [Bool.false_eq_true, if_false] at r1
        exact ⟨rfl, u, by simp only [Go.builtin, Builtin.min_, Sem.run_bind, r1, Result.andThen_ok, Sem.run_pure], r2⟩
      · cases h
  · rename_i x r
    cases ha with
    | cons hx hs =>
      split at h
      · rename_i v hv
        cases h
        obtain ⟨u, r1, r2⟩ := minMax_run (P := P) (w := w) hv hx hs
        simp only [if_true] at r1
        exact ⟨rfl, u, by simp only [Go.builtin, Builtin.max_, Sem.run_bind, r1, Result.andThen_ok, Sem.run_pure], r2⟩
      · cases h
  · cases h

theorem doOp_pure (tok : TabOk P T) {C : FuncId → Fun} {esc : List Tmp} {o : Oper} {v : AV} {s' : St} (h : doOp T C esc o s = some (v, s')) (m : Mem φ s w) {r : Tr AV} {c : Touch} (ht : touches esc r o = some c) (hw : c.hw = false) (hl : c.lw = [])
    (hρ : ∀ x u, s.regs.val x = some u → VR φ u (a.eval x)) : s' = s ∧ Did0 P o a φ w v := by
  unfold doOp at h
  dsimp only at h
  split at h
  · rename_i x hop
    obtain ⟨hq, rfl⟩ := val_some h
    exact ⟨rfl, .same (by simp [execOp, hop]) (hρ _ _ hq)⟩
  · rename_i x hop
    obtain ⟨hq, rfl⟩ := val_some h
    exact ⟨rfl, .same (by simp [execOp, hop]) (hρ _ _ hq)⟩
  · rename_i c x y hop
    split at h
    · rename_i t ht
      obtain ⟨hq, rfl⟩ := val_some h
      have hb := hρ _ _ ht
      generalize hc : a.eval c = cv at hb
      cases hb
      cases t with
      | true => exact ⟨rfl, .same (v' := a.eval x) (by simp [execOp, hop, hc, asBool]) (hρ _ _ hq)⟩
      | false => exact ⟨rfl, .same (v' := a.eval y) (by simp [execOp, hop, hc, asBool]) (hρ _ _ hq)⟩
    · cases h
  · rename_i e hop
    simp only [touches, hop] at ht
    split at ht
    · split at ht
      · cases ht; cases hw
      · cases ht; cases hl
    · cases ht
  · rename_i e x hop
    simp only [touches, hop] at ht
    split at ht
    · split at ht
      · cases ht; cases hw
      · cases ht; cases hl
    · cases ht
  · rename_i t ps hop
    split at h
    · rename_i i vs hi hvs
      have hl : PRs φ vs (ps.map fun p => (p.1, a.eval p.2)).toList := by
        rw [Array.toList_map]; exact pairVals_run hρ hvs
      split at h
      · rename_i fs htd
        split at h
        · rename_i hall
          split at h
          · rename_i cs hcs
            cases h
            obtain ⟨u, r1, r2⟩ := build_struct_run (P := P) (w := w) tok hi htd hall hl hcs
            exact ⟨rfl, .same (by simp only [execOp, hop, Sem.run_bind, r1, Result.andThen_ok, Sem.run_pure]) r2⟩
          · cases h
        · cases h
      · rename_i n e htd
        split at h
        · cases h
        · rename_i ei he
          split at h
          · rename_i cs hcs
            cases h
            obtain ⟨u, r1, r2⟩ := build_array_run (P := P) (w := w) tok hi htd he hl hcs
            exact ⟨rfl, .same (by simp only [execOp, hop, Sem.run_bind, r1, Result.andThen_ok, Sem.run_pure]) r2⟩
          · cases h
      · cases h
    · cases h
  · rename_i t n ps hop
    simp only [touches, hop] at ht
    cases ht; cases hw
  · rename_i t x hop
    split at h
    · rename_i i av hi hav
      split at h
      · rename_i cs of hcs
        split at h
        · rename_i vs hvs
          obtain ⟨hq, rfl⟩ := val_some h
          obtain ⟨u, r1, r2⟩ := load_run (P := P) tok hi m hcs (hρ _ _ hav) hvs hq
          exact ⟨rfl, .same (by simp only [execOp, hop, Sem.run_bind, r1, Result.andThen_ok, Sem.run_pure]) r2⟩
        · cases h
      · cases h
    · cases h
  · rename_i t x y hop
    simp only [touches, hop] at ht
    split at ht
    · cases ht; cases hl
    · cases ht; cases hw
    · cases ht
  · rename_i x hop
    split at h
    · rename_i b of hb
      cases h
      have hv := hρ _ _ hb
      generalize hc : a.eval x = cv at hv
      cases hv with
      | ptr hφ => exact ⟨rfl, .same (by simp [execOp, hop, hc]) (.ptr hφ)⟩
    · rename_i t g of hb
      cases h
      have hv := hρ _ _ hb
      generalize hc : a.eval x = cv at hv
      cases hv with
      | loc hφ => exact ⟨rfl, .same (by simp [execOp, hop, hc]) (.loc hφ)⟩
    · cases h
  · rename_i op t x y _ hop
    split at h
    · rename_i u1 u2 h1 h2
      obtain ⟨hq, rfl⟩ := val_some h
      obtain ⟨u, r1, r2, r3⟩ := binop_run (P := P) (w := w) tok x y hq (hρ _ _ h1) (hρ _ _ h2)
      exact ⟨rfl, .same (by simp only [execOp, hop, Sem.run_bind, r1, r2, Result.andThen_ok, Sem.run_pure]) r3⟩
    · cases h
  · rename_i op _ x hop
    split at h
    · rename_i u1 h1
      obtain ⟨hq, rfl⟩ := val_some h
      obtain ⟨u, r2, r3⟩ := unop_run (P := P) (w := w) hq (hρ _ _ h1)
      exact ⟨rfl, .same (by simp only [execOp, hop, Sem.run_bind, r2, Result.andThen_ok, Sem.run_pure]) r3⟩
    · cases h
  · rename_i e d x hop
    split at h
    · rename_i u1 h1
      obtain ⟨hq, rfl⟩ := val_some h
      obtain ⟨u, r2, r3⟩ := convert_run (P := P) tok m hq (hρ _ _ h1)
      exact ⟨rfl, .same (by simp only [execOp, hop, Sem.run_bind, r2, Result.andThen_ok, Sem.run_pure]) r3⟩
    · cases h
  · rename_i f first cap hop
    split at h
    · rename_i u1 u2 h1 h2
      cases h
      have v1 := vals_run hρ h1
      have v2 := vals_run hρ h2
      exact ⟨rfl, .same (v' := .func (.func f) (first.map a.eval) (cap.map a.eval)) (by simp only [execOp, hop, Instr.makeFunc, Sem.run_bind, Result.andThen_ok, Sem.run_pure]) (by
        have := VR.func (f := f) v1 v2
        rw [← Array.toList_map, ← Array.toList_map] at this
        exact this)⟩
    · cases h
  · rename_i t hop
    simp only [touches, hop] at ht
    cases ht; cases hw
  · rename_i t l c hop
    simp only [touches, hop] at ht
    cases ht; cases hw
  · rename_i t x lo hi mx hop
    split at h
    · rename_i u l hh mm h1 h2 h3 h4
      obtain ⟨hq, rfl⟩ := val_some h
      obtain ⟨u', r1, r2⟩ := slice_run (P := P) tok m hq (hρ _ _ h1) (optVal_run hρ h2) (optVal_run hρ h3) (optVal_run hρ h4)
      exact ⟨rfl, .same (by simp only [execOp, hop, Sem.run_bind, r1, Result.andThen_ok, Sem.run_pure]) r2⟩
    · cases h
  · rename_i t x f hop
    split at h
    · rename_i fs _ _ _ _ _ u hi h1
      split at h
      · rename_i off ft bl hfs
        split at h
        · rename_i fi hfi
          split at h
          · rename_i h0
            obtain ⟨hq, rfl⟩ := val_some h
            obtain ⟨u', r1, r2⟩ := fieldAddr_run (P := P) (w := w) tok hi rfl hfs hfi (by simpa using h0) hq (hρ _ _ h1)
            exact ⟨rfl, .same (by simp only [execOp, hop, Sem.run_bind, r1, Result.andThen_ok, Sem.run_pure]) r2⟩
          · cases h
        · cases h
      · cases h
    · cases h
  · rename_i t x f hop
    split at h
    · rename_i fs _ _ _ _ _ cs hi h1
      split at h
      · rename_i off ft bl hfs
        split at h
        · rename_i fi hfi
          obtain ⟨hq, rfl⟩ := val_some h
          obtain ⟨u', r1, r2⟩ := field_run (P := P) (w := w) tok hi rfl hfs hfi hq (hρ _ _ h1)
          exact ⟨rfl, .same (by simp only [execOp, hop, Sem.run_bind, r1, Result.andThen_ok, Sem.run_pure]) r2⟩
        · cases h
      · cases h
    · cases h
  · rename_i t x ix hop
    split at h
    · rename_i ti av k n hi h1 h2
      split at h
      · cases h
      · rename_i i hn
        have hn := toNat?_some hn
        subst hn
        have v2 := hρ _ _ h2
        generalize hc2 : a.eval ix = c2 at v2
        cases v2
        split at h
        · rename_i e b of len _ _ sz htd
          split at h
          · rename_i ei he
            split at h
            · rename_i hc
              simp only [Bool.and_eq_true] at hc
              cases h
              obtain ⟨u', r1, r2⟩ := indexAddr_slice_run (P := P) (w := w) tok hi htd he (n := i) (by simpa using hc.1) (Nat.eq_of_beq_eq_true hc.2) (k := k) (hρ _ _ h1)
              exact ⟨rfl, .same (by simp only [execOp, hop, hc2, Sem.run_bind]; erw [r1]; rfl) r2⟩
            · cases h
          · cases h
        · rename_i len e _ htd
          split at h
          · rename_i ei he
            split at h
            · rename_i hc
              obtain ⟨hq, rfl⟩ := val_some h
              obtain ⟨u', r1, r2⟩ := indexAddr_array_run (P := P) (w := w) tok hi htd he (n := i) (by simpa using hc) (k := k) hq (hρ _ _ h1)
              exact ⟨rfl, .same (by simp only [execOp, hop, hc2, Sem.run_bind]; erw [r1]; rfl) r2⟩
            · cases h
          · cases h
        · cases h
    · cases h
  · rename_i t x ix hop
    split at h
    · rename_i ti av k n hi h1 h2
      split at h
      · cases h
      · rename_i i hn
        have hn := toNat?_some hn
        subst hn
        have v2 := hρ _ _ h2
        generalize hc2 : a.eval ix = c2 at v2
        cases v2
        split at h
        · rename_i l htd
          split at h
          · rename_i c hc
            cases h
            obtain ⟨u', r1, r2⟩ := index_string_run (P := P) (w := w) tok hi htd hc (k := k) (hρ _ _ h1)
            exact ⟨rfl, .same (by simp only [execOp, hop, hc2, Sem.run_bind]; erw [r1]; rfl) r2⟩
          · cases h
        · rename_i len e cs htd
          split at h
          · rename_i ei he
            split at h
            · rename_i hc
              obtain ⟨hq, rfl⟩ := val_some h
              obtain ⟨u', r1, r2⟩ := index_array_run (P := P) (w := w) tok hi htd he (n := i) (by simpa using hc) (k := k) hq (hρ _ _ h1)
              exact ⟨rfl, .same (by simp only [execOp, hop, hc2, Sem.run_bind]; erw [r1]; rfl) r2⟩
            · cases h
          · cases h
        · cases h
    · cases h
  · rename_i t mo k ok hop
    split at h
    · rename_i mv kv h1 h2
      obtain ⟨hq, rfl⟩ := val_some h
      obtain ⟨u', r1, r2⟩ := lookup_run (P := P) tok m hq (hρ _ _ h1) (hρ _ _ h2)
      exact ⟨rfl, .same (by simp only [execOp, hop, Sem.run_bind, r1, Result.andThen_ok, Sem.run_pure]) r2⟩
    · cases h
  · rename_i t mo k x hop
    simp only [touches, hop] at ht
    cases ht; cases hw
  · rename_i t mo k x hop
    simp only [touches, hop] at ht
    cases ht; cases hw
  · rename_i t ix hop
    split at h
    · rename_i vs hvs
      obtain ⟨hq, rfl⟩ := val_some h
      have hv := hρ _ _ hvs
      generalize hc : a.eval t = cv at hv
      cases hv with
      | tup hcs =>
        obtain ⟨u, u1, u2⟩ := hcs.get hq
        exact ⟨rfl, .same (by simp [execOp, hop, hc, Instr.extract, u1]) u2⟩
    · cases h
  · rename_i f args ts hop
    simp only [touches, hop] at ht
    cases ht; cases hw
  · rename_i b args ts hop
    split at h
    · rename_i vs h1
      have v1 := vals_run hρ h1
      have hb : b ≠ .append ∧ b ≠ .copy := by
        constructor <;> (rintro rfl; simp only [touches, hop] at ht; cases ht; cases hw)
      obtain ⟨q, u, r1, r2⟩ := builtin_pure (P := P) tok m h hb (args' := args.map a.eval) (by rw [Array.toList_map]; exact v1) o.type (args.map fun | .const _ => true | _ => false)
      exact ⟨q, .same (by simp [execOp, hop, resolve, invoke]; exact r1) r2⟩
    · cases h
  · cases h
end

end Am
end Go.Proofs.YtdmfdclkpdliaaaGreatDoor
