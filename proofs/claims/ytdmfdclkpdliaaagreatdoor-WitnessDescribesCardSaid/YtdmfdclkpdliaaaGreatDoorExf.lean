/- The abstract machine's calls are the model's calls. No condition but the open orders (DrawOk) and the primitives. -/
import Derived.Test.YtdmfdclkpdliaaaGreatDoorExe
namespace Go.Proofs.YtdmfdclkpdliaaaGreatDoor
namespace Am
open Go

section
variable {P : Program} {w w' : World} {T : Tab} {φ φ' : Phi} {s s0 s1 : St}
theorem Mem.enter (m : Mem φ s w) (hh : s0.h = s.h) (hn : s0.n = s.n) (hl : s0.locs = .lf) : Mem φ s0 w := {
  heap := fun b x e => by rw [hh] at e; rw [hn]; exact m.heap b x e
  locs := fun t g cs e => by rw [hl] at e; cases e
  uniq := fun t t' g cs cs' e => by rw [hl] at e; cases e
  inj := fun b b' B z z' h h' => by
    have f : ∀ b, s0.hl b ∨ s0.ll b → s.hl b ∨ s.ll b := by
      rintro b (⟨x, e⟩ | ⟨t, cs, e⟩)
      · rw [hh] at e; exact .inl ⟨x, e⟩
      · rw [hl] at e; cases e
    exact m.inj b b' B z z' (f b h) (f b' h') }
theorem Mem.back (m : Mem φ s w) (hh : s0.h = s.h) (hn : s0.n = s.n) (hl : s0.locs = .lf) (m1 : Mem φ' s1 w') (mv : Mv φ s0 w φ' s1 w') :
    Mem φ' { s with n := s1.n, lo := min s.lo s1.lo, h := s1.h } w' ∧ Mv φ s w φ' { s with n := s1.n, lo := min s.lo s1.lo, h := s1.h } w' := by
  have e1 : ∀ b, s0.hl b ↔ s.hl b := fun b => by unfold St.hl; rw [hh]
  have e2 : ∀ b, ¬ s0.ll b := by
    rintro b ⟨t, cs, e⟩
    rw [hl] at e; cases e
  have hle : s.n ≤ s1.n := by have := mv.n; omega
  have old : ∀ b, s.ll b → ∃ B z, φ b = some (B, z) ∧ B < w.heap.size ∧ b < s.n ∧ φ' b = φ b := by
    rintro b ⟨t, cs, e⟩
    obtain ⟨h1, h2, h3⟩ := m.locs t b cs e
    obtain ⟨B, z, h4, h5⟩ := h3.at
    exact ⟨B, z, h4, h5, h1, mv.new b (by omega)⟩
  have apart : ∀ b, s.ll b → ∀ b', s.hl b' → ∀ B z z', φ b = some (B, z) → φ b' = some (B, z') → False := by
    rintro b ⟨t, cs, e⟩ b' hb' B z z' hB hB'
    have := m.inj b b' B z z' (.inr ⟨t, cs, e⟩) (.inl hb') hB hB'
    subst this
    obtain ⟨x, hx⟩ := hb'
    rw [(m.locs t b cs e).2.1] at hx; cases hx
  have cross : ∀ b b' B z z', s1.hl b → s.ll b' → φ' b = some (B, z) → φ' b' = some (B, z') → False := by
    intro b b' B z z' hb hb' hB hB'
    obtain ⟨B2, z2, h1, h2, h3, h4⟩ := old b' hb'
    rw [h4, h1] at hB'; cases hB'
    rcases mv.ownH b B z hb hB with h | ⟨h, h5⟩ | ⟨b0, z0, h, _, h5⟩
    · omega
    · exact apart b' hb' b ((e1 b).1 h) _ _ _ h1 h5
    · exact apart b' hb' b0 ((e1 b0).1 h) _ _ _ h1 h5
  refine ⟨⟨fun b x e => m1.heap b x e, fun t g cs e => ?_, m.uniq, fun b b' B z z' h h' hB hB' => ?_⟩, ⟨mv.ext, fun b hb => mv.new b (by rw [hn]; exact hb), hle, Nat.min_le_left _ _, mv.os, mv.tape, mv.output, mv.size, fun B hB h => mv.fr B hB (fun b z hb => ?_), fun b B z hb hB => ?_, fun b B z hb hB => ?_⟩⟩
  · obtain ⟨h1, h2, h3⟩ := m.locs t g cs e
    refine ⟨Nat.lt_of_lt_of_le h1 hle, ?_, h3.keep mv.ext (fun B z hB => mv.fr B ?_ ?_)⟩
    · cases hc : s1.h.get g with
      | none => rfl
      | some x =>
        obtain ⟨B, z, h4, h5, h6, h7⟩ := old g ⟨t, cs, e⟩
        have := cross g g B z z ⟨x, hc⟩ ⟨t, cs, e⟩ (h7.trans h4) (h7.trans h4)
        exact this.elim
    · obtain ⟨B2, z2, h4, h5⟩ := h3.at
      rw [hB] at h4; cases h4; exact h5
    · rintro b z' (⟨hb, _⟩ | hb) hB'
      · exact apart g ⟨t, cs, e⟩ b ((e1 b).1 hb) _ _ _ hB hB'
      · exact e2 b hb
  · rcases h with h | h <;> rcases h' with h' | h'
    · exact m1.inj b b' B z z' (.inl h) (.inl h') hB hB'
    · exact (cross b b' B z z' h h' hB hB').elim
    · exact (cross b' b B z' z h' h hB' hB).elim
    · obtain ⟨_, _, _, _, _, h1⟩ := old b h
      obtain ⟨_, _, _, _, _, h2⟩ := old b' h'
      rw [h1] at hB; rw [h2] at hB'
      exact m.inj b b' B z z' (.inr h) (.inr h') hB hB'
  · refine h b z ?_
    rcases hb with ⟨hb, h1⟩ | hb
    · exact .inl ⟨(e1 b).1 hb, Nat.le_trans (Nat.min_le_right _ _) h1⟩
    · exact (e2 b hb).elim
  · rcases mv.ownH b B z hb hB with h | ⟨h, h5⟩ | ⟨b0, z0, h, h6, h5⟩
    · exact .inl h
    · exact .inr (.inl ⟨(e1 b).1 h, h5⟩)
    · exact .inr (.inr ⟨b0, z0, (e1 b0).1 h, Nat.le_trans (Nat.min_le_right _ _) h6, h5⟩)
  · obtain ⟨_, _, _, _, _, h1⟩ := old b hb
    rw [h1] at hB
    exact .inr ⟨hb, hB⟩
end

section
variable {P : Program} {w : World} {T : Tab} {φ : Phi} {s : St} {a : Act}
/- the results of a frame -/
def oneResult (tmps : Array Value) : ResultVar → Sem Value
  | .tmp t => pure (tmps.getD t undef)
  | .cell a t => do loadVar t (← asAddr (tmps.getD a undef))
theorem resultsOf_run (tok : TabOk P T) (m : Mem φ s w) (r : Regs φ s a) : ∀ {l : List ResultVar} {vs : List AV}, resultsOf T s l = some vs → ∃ us, (l.mapM (oneResult a.tmps)).run P w = .ok us w ∧ VRs φ vs us
  | [], vs, h => by simp [resultsOf] at h; subst h; exact ⟨[], by simp, .nil⟩
  | .tmp t :: l, vs, h => by
    simp only [resultsOf] at h
    split at h
    · rename_i v vs' hv hvs
      cases h
      obtain ⟨us, r1, r2⟩ := resultsOf_run tok m r hvs
      exact ⟨_ :: us, by simp only [List.mapM_cons, oneResult, Sem.run_bind, Sem.run_pure, Result.andThen_ok, r1]; rfl, .cons (r.get _ _ hv) r2⟩
    · cases h
  | .cell x t :: l, vs, h => by
    simp only [resultsOf] at h
    split at h
    · rename_i i av vs' hi hav hvs
      split at h
      · rename_i cs of hcs
        split at h
        · rename_i xs hxs
          split at h
          · rename_i v hv
            cases h
            obtain ⟨us, r1, r2⟩ := resultsOf_run tok m r hvs
            have hav := r.get _ _ hav
            obtain ⟨u, u1, u2⟩ := load_run (P := P) tok hi m hcs hav hxs hv
            obtain ⟨B, c, tt, fr, ws, rest, hp, _⟩ := cellsOf_at m hcs hav
            have hp' : a.tmps.getD x undef = .pointer (some ⟨B, of, none⟩) := hp
            rw [hp] at u1
            simp only [Instr.loadAt, Instr.sureAddr, Sem.run_bind, Sem.run_pure, Result.andThen_ok] at u1
            exact ⟨u :: us, by simp only [List.mapM_cons, oneResult, hp', asAddr, Sem.run_bind, Sem.run_pure, Result.andThen_ok, u1, r1], .cons u2 r2⟩
          · cases h
        · cases h
      · cases h
    · cases h
theorem results_run {fn : Func} {tmps : Array Value} {us : List Value} (h : (fn.results.toList.mapM (oneResult tmps)).run P w = .ok us w) : (results fn tmps).run P w = .ok (if h : us.toArray.size = 1 then us.toArray[0] else .tuple us.toArray) w := by
  unfold results
  have : (fn.results.mapM (oneResult tmps)).run P w = .ok us.toArray w := by
    rw [Array.mapM_eq_mapM_toList, Sem.run_map, h]
    rfl
  change ((fn.results.mapM (oneResult tmps)) >>= fun vs => pure (if h : vs.size = 1 then vs[0] else .tuple vs) : Sem Value).run P w = _
  simp only [Sem.run_bind, this, Result.andThen_ok, Sem.run_pure]
end

theorem setAll_get {t : Nat} {u : AV} : ∀ {l : List AV} {i : Nat} {r : Tr AV}, (setAll l i r).get t = some u → r.get t = some u ∨ ∃ j, t = i + j ∧ l[j]? = some u
  | [], i, r, h => .inl h
  | v :: l, i, r, h => by
    simp only [setAll] at h
    rcases setAll_get h with h | ⟨j, h1, h2⟩
    · rcases Tr.get_put h with ⟨h1, h2⟩ | ⟨_, h2⟩
      · exact .inr ⟨0, by omega, by simpa using h2⟩
      · exact .inl h2
    · exact .inr ⟨j + 1, by omega, by simpa using h2⟩

theorem body_sound {P : Program} {T : Tab} (tok : TabOk P T) {C : FuncId → Fun} (ck : CalleeOk P C) (dk : DrawOk P T C) {k : Nat} {f : FuncId} {fn : Func} {esc : List Tmp} (hfn : P.funcs[f]? = some fn) {args : List AV} {s : St} {r : Res} (h : body T C k fn esc args s.n s.h = some r) :
    s.n ≤ r.n ∧ fn.body.isNone = false ∧ ∀ (φ : Phi) (w : World) (vs : Array Value), Mem φ s w → (∀ b, s.n ≤ b → b < r.n → φ b = none) → VRs φ args vs.toList →
      Calls P f vs w fun e w' => match e with
        | .returned v => ∃ φ', VR φ' r.v v ∧ Mem φ' { s with n := r.n, lo := min s.lo r.lo, h := r.h } w' ∧ Mv φ s w φ' { s with n := r.n, lo := min s.lo r.lo, h := r.h } w'
        | _ => False := by
  unfold body at h
  split at h
  · cases h
  · rename_i c hb
    split at h
    · cases h
    · rename_i hlen
      have hlen : args.length ≤ fn.ntmps := by
        simpa using hlen
      have fin : ∀ (e : Ex) (s1 : St), (e = .normal ∨ e = .ret) → exec T C esc k c { regs := setAll args 0 .lf, locs := .lf, n := s.n, lo := s.n, h := s.h, nt := fn.ntmps } = some (e, s1) →
          (match resultsOf T s1 fn.results.toList with
            | some [v] => some { v, n := s1.n, lo := s1.lo, h := s1.h }
            | some vs => some { v := .tup vs, n := s1.n, lo := s1.lo, h := s1.h }
            | none => (none : Option Res)) = some r → s.n ≤ r.n ∧ fn.body.isNone = false ∧ ∀ (φ : Phi) (w : World) (vs : Array Value), Mem φ s w → (∀ b, s.n ≤ b → b < r.n → φ b = none) → VRs φ args vs.toList →
            Calls P f vs w fun e w' => match e with
              | .returned v => ∃ φ', VR φ' r.v v ∧ Mem φ' { s with n := r.n, lo := min s.lo r.lo, h := r.h } w' ∧ Mv φ s w φ' { s with n := r.n, lo := min s.lo r.lo, h := r.h } w'
              | _ => False := by
        intro e s1 he hex hres
        have hmono := exec_mono dk c hex
        obtain ⟨vs0, hvs0, hrn, hrlo, hrh, hrv⟩ : ∃ vs0, resultsOf T s1 fn.results.toList = some vs0 ∧ r.n = s1.n ∧ r.lo = s1.lo ∧ r.h = s1.h ∧ (∀ φ us, VRs φ vs0 us → VR φ r.v (if h : us.toArray.size = 1 then us.toArray[0] else .tuple us.toArray)) := by
          split at hres
          · rename_i v hv
            cases hres
            refine ⟨_, hv, rfl, rfl, rfl, fun φ us hu => ?_⟩
            cases hu with
            | cons h1 h2 => cases h2; simpa using h1
          · rename_i vs hn hv
            cases hres
            refine ⟨_, hv, rfl, rfl, rfl, fun φ us hu => ?_⟩
            have hl := hu.length
            rw [dif_neg]
            · exact .tup hu
            · intro h1
              have : vs.length = 1 := by simpa [hl] using h1
              match vs, this with
              | [v], _ => exact hn v rfl
          · cases hres
        refine ⟨by rw [hrn]; exact hmono, by rw [hb]; rfl, ?_⟩
        intro φ w vs m hf hvs
        refine calls_of_wp hfn hb ?_
        have hvl := hvs.length
        have hvl : vs.size = args.length := by rw [← Array.length_toList]; exact hvl
        have m0 : Mem φ { regs := setAll args 0 .lf, locs := .lf, n := s.n, lo := s.n, h := s.h, nt := fn.ntmps } w := m.enter rfl rfl rfl
        have r0 : Regs φ { regs := setAll args 0 .lf, locs := .lf, n := s.n, lo := s.n, h := s.h, nt := fn.ntmps } { tmps := vs ++ Array.replicate (fn.ntmps - vs.size) undef, defers := [] } := by
          refine ⟨fun t u hu => ?_, by simp; omega, rfl⟩
          rcases setAll_get hu with h | ⟨j, h1, h2⟩
          · cases h
          · obtain ⟨v, v1, v2⟩ := hvs.get h2
            have hj : t = j := by omega
            subst hj
            have hlt : t < vs.size := by
              have := (List.getElem?_eq_some_iff.1 v1).1
              simpa using this
            simp only [Act.eval, Array.getD_eq_getD_getElem?]
            rw [Array.getElem?_append_left hlt, ← Array.getElem?_toList, v1]
            exact v2
        refine exec_sound (P := P) tok ck dk c hex m0 r0 (fun b h1 h2 => hf b h1 (by rw [hrn]; exact h2)) ?_
        intro φ1 w1 a1 q1 q2 q3
        obtain ⟨us, u1, u2⟩ := resultsOf_run (P := P) tok q1 q2 hvs0
        have hr := results_run (P := P) (fn := fn) u1
        obtain ⟨b1, b2⟩ := Mem.back (s0 := { regs := setAll args 0 .lf, locs := .lf, n := s.n, lo := s.n, h := s.h, nt := fn.ntmps }) m rfl rfl rfl q1 q3
        rw [← hrn, ← hrlo, ← hrh] at b1 b2
        have hpost : a1.defers = [] ∧ ∃ v, (results fn a1.tmps).run P w1 = .ok v w1 ∧ (∃ φ', VR φ' r.v v ∧ Mem φ' { s with n := r.n, lo := min s.lo r.lo, h := r.h } w1 ∧ Mv φ s w φ' { s with n := r.n, lo := min s.lo r.lo, h := r.h } w1) :=
          ⟨q2.defers, _, hr, φ1, hrv φ1 us u2, b1, b2⟩
        rcases he with rfl | rfl
        · exact hpost
        · exact hpost
      split at h
      · rename_i s1 hex; exact fin _ s1 (.inl rfl) hex h
      · rename_i s1 hex; exact fin _ s1 (.inr rfl) hex h
      · cases h

end Am
end Go.Proofs.YtdmfdclkpdliaaaGreatDoor
