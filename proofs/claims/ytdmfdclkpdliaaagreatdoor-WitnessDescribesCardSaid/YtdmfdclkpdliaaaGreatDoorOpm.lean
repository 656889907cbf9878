/- Each operation of the abstract machine is what the model does: part three: loads and stores, boxes, addresses. No condition. -/
import Derived.Test.YtdmfdclkpdliaaaGreatDoorOpt
namespace Go.Proofs.YtdmfdclkpdliaaaGreatDoor
namespace Am
open Go

theorem VRs.append_inv {φ : Phi} : ∀ {a b : List AV} {v : List Value}, VRs φ (a ++ b) v → VRs φ a (v.take a.length) ∧ VRs φ b (v.drop a.length) := fun {a b v} h => by
  have h1 := h.take a.length
  have h2 := h.drop a.length
  simp at h1 h2
  exact ⟨h1, h2⟩
theorem all_drop {p : AV → Bool} {cs : List AV} (h : cs.all p = true) (n : Nat) : (cs.drop n).all p = true := List.all_eq_true.2 fun x hx => List.all_eq_true.1 h x (List.mem_of_mem_drop hx)
theorem all_take {p : AV → Bool} {cs : List AV} (h : cs.all p = true) (n : Nat) : (cs.take n).all p = true := List.all_eq_true.2 fun x hx => List.all_eq_true.1 h x (List.mem_of_mem_take hx)
theorem all_app {p : AV → Bool} {a b : List AV} (h : a.all p = true) (k : b.all p = true) : (a ++ b).all p = true := by rw [List.all_append, h, k]; rfl
theorem splice_all {p : AV → Bool} {cs vs : List AV} {o : Nat} (h : cs.all p = true) (k : vs.all p = true) : (splice cs o vs).all p = true := all_app (all_app (all_take h _) k) (all_drop h _)
theorem splice_length {cs vs : List AV} {o : Nat} (h : o + vs.length ≤ cs.length) : (splice cs o vs).length = cs.length := by
  simp [splice]; omega

section
variable {P : Program} {w : World} {T : Tab} {φ : Phi} {s : St}

theorem cells_at {b : Nat} {cs : List AV} (m : Mem φ s w) (h : s.h.cells b = some cs) {B z : Nat} (hb : φ b = some (B, z)) :
    ∃ c t fr vs rest, w.heap[B]? = some (.cells c t fr) ∧ c.size = z ∧ c.toList = vs ++ rest ∧ VRs φ cs vs ∧ cs.all AV.one = true := by
  unfold Heap.cells at h
  split at h
  · rename_i cs' e hg
    cases h
    cases (m.heap _ _ hg).2 with
    | cells h1 hw hz hc hv ho => rw [hb] at h1; cases h1; exact ⟨_, _, _, _, _, hw, hz, hc, hv, ho⟩
  · rename_i cs' e hg
    cases h
    cases (m.heap _ _ hg).2 with
    | fixed h1 hw hz hc hv ho => rw [hb] at h1; cases h1; exact ⟨_, _, _, _, _, hw, hz, hc, hv, ho⟩
  · cases h
theorem cellsOf_at {av : AV} {cs : List AV} {o : Nat} (m : Mem φ s w) (h : s.cellsOf av = some (cs, o)) {v : Value} (hv : VR φ av v) :
    ∃ B c t fr vs rest, v = .pointer (some ⟨B, o, none⟩) ∧ w.heap[B]? = some (.cells c t fr) ∧ c.toList = vs ++ rest ∧ VRs φ cs vs ∧ cs.all AV.one = true := by
  unfold St.cellsOf at h
  split at h
  · cases hv with
    | ptr hb =>
      split at h
      · rename_i cs' hc
        cases h
        obtain ⟨c, t, fr, vs, rest, h1, h2, h3, h4, h5⟩ := cells_at m hc hb
        exact ⟨_, c, t, fr, vs, rest, rfl, h1, h3, h4, h5⟩
      · cases h
  · cases hv with
    | loc hb =>
      split at h
      · rename_i g' cs' hg
        split at h
        · rename_i he
          cases h
          have := Nat.eq_of_beq_eq_true he; subst this
          cases (m.locs _ _ _ hg).2.2 with
          | cells h1 hw hz hc hv ho => rw [hb] at h1; cases h1; exact ⟨_, _, _, _, _, _, rfl, hw, hc, hv, ho⟩
        · cases h
      · cases h
  · cases h
theorem range_of {B o n : Nat} {c : Array Value} {t : TypeId} {fr : Nat × Nat} {vs rest : List Value} (hw : w.heap[B]? = some (.cells c t fr)) (hc : c.toList = vs ++ rest) : w.rangeAt B o ((vs.drop o).take n) := by
  intro j v hj
  simp only [World.cell?, hw]
  rw [List.getElem?_take] at hj
  split at hj
  · rw [List.getElem?_drop] at hj
    simp only [Option.isSome_none, Bool.false_eq_true, if_false]
    rw [← Array.getElem?_toList, hc]
    rw [List.getElem?_append_left (by exact (List.getElem?_eq_some_iff.1 hj).1)]
    exact hj
  · cases hj

theorem load_run (tok : TabOk P T) {t : TypeId} {i : TI} (hi : T.ti t = some i) {av : AV} {cs : List AV} {o : Nat} (m : Mem φ s w) (h : s.cellsOf av = some (cs, o)) {v : Value} (hv : VR φ av v) {vs0 : List AV} (hc : cellsAt cs o i.size = some vs0)
    {r : AV} (hr : shaped i.agg vs0 = some r) : ∃ u, (Instr.loadAt t v).run P w = .ok u w ∧ VR φ r u := by
  obtain ⟨B, c, tt, fr, vs, rest, rfl, hw, hcl, hvs, h1⟩ := cellsOf_at m h hv
  have tk := tok.ti _ _ hi
  unfold cellsAt at hc
  split at hc
  · rename_i hlen
    cases hc
    have hR := range_of (n := i.size) (o := o) hw hcl
    have hvv : VRs φ ((cs.drop o).take i.size) ((vs.drop o).take i.size) := (hvs.drop o).take _
    have hln : ((vs.drop o).take i.size).length = i.size := by rw [hvv.length]; simp; omega
    obtain ⟨d, hu, htd, hag⟩ := tk.under
    obtain ⟨d', inf, z, e1, e2, e3, e4, _⟩ := tk.ex
    cases hagg : i.agg with
    | true =>
      rw [hagg] at hr hag
      simp only [shaped, if_true] at hr
      cases hr
      exact ⟨_, run_loadAt_mid (P := P) w B o t _ d hR hu hag.symm (by rw [e3]; simp [e4, hln]), .agg hvv (all_take (all_drop h1 _) _)⟩
    | false =>
      rw [hagg] at hr
      simp only [shaped, Bool.false_eq_true, if_false] at hr
      split at hr
      · rename_i x hx
        cases hr
        rw [hx] at hvv
        cases hq : (vs.drop o).take i.size with
        | nil => rw [hq] at hvv; cases hvv
        | cons u us =>
          rw [hq] at hvv hR
          cases hvv with
          | cons hxu hs =>
            have hcell := hR 0 u rfl
            simp only [Nat.add_zero] at hcell
            refine ⟨u, ?_, hxu⟩
            simp only [Instr.loadAt, Instr.sureAddr, Sem.run_bind, Sem.run_pure, Result.andThen_ok, loadVar, tk.run_agg, hagg, Bool.false_eq_true, if_false, run_load, hcell]
      · cases hr
  · cases hc

/- what a store leaves -/
theorem store_cells {B o : Nat} {c : Array Value} {t : TypeId} {us : List Value} (hw : w.heap[B]? = some (.cells c t (0, 0))) (hl : o + us.length ≤ c.size) (h1 : ∀ u ∈ us, u.oneCell' = true) :
    ∃ w', (storeCells ⟨B, o, none⟩ us).run P w = .ok () w' ∧ But w w' B ∧ w'.heap[B]? = some (.cells (c.toList.take o ++ us ++ c.toList.drop (o + us.length)).toArray t (0, 0)) := by
  have h := run_storeCells_at (P := P) B o t us 0 c w hw (by simpa using hl) h1
  simp only [Nat.add_zero] at h
  refine ⟨_, h, ⟨fun k hk => setRow_other w B k _ hk, ?_, rfl, rfl, rfl⟩, setRow_heap w B c _ t (0, 0) hw⟩
  simp [World.setRow]
theorem splice_BR {b B z o : Nat} {e t : TypeId} {cs vs0 : List AV} {c : Array Value} {vs rest us : List Value} (hb : φ b = some (B, z)) (hz : c.size = z) (hc : c.toList = vs ++ rest) (hv : VRs φ cs vs) (h1 : cs.all AV.one = true)
    (hu : VRs φ vs0 us) (h2 : vs0.all AV.one = true) (hl : o + vs0.length ≤ cs.length) {w' : World} (hw : w'.heap[B]? = some (.cells (c.toList.take o ++ us ++ c.toList.drop (o + us.length)).toArray t (0, 0))) :
    BR φ w' b (.cells (splice cs o vs0) e) := by
  have hlv := hv.length
  have hlu := hu.length
  refine .cells (vs := vs.take o ++ us ++ vs.drop (o + us.length)) (rest := rest) hb hw ?_ ?_ ?_ (splice_all h1 h2)
  · have : c.size = vs.length + rest.length := by rw [← Array.length_toList, hc, List.length_append]
    have h4 : c.toList.length = c.size := Array.length_toList
    simp [h4]; omega
  · simp only [hc]
    rw [List.take_append_of_le_length (by omega), List.drop_append_of_le_length (by omega)]
    simp
  · have : us.length = vs0.length := hlu
    rw [this]
    exact ((hv.take o).append hu).append (hv.drop _)

theorem store_run (tok : TabOk P T) {t : TypeId} {i : TI} (hi : T.ti t = some i) {av x : AV} (m : Mem φ s w) {v x' : Value} (hv : VR φ av v) (hx : VR φ x x') (hl : x.cells.length = i.size) (h1 : x.cells.all AV.one = true) {s' : St} (h : s.store av x.cells = some s') :
    ∃ w', (Instr.storeAt t v x').run P w = .ok () w' ∧ Mem φ s' w' ∧ Mv φ s w φ s' w' := by
  have tk := tok.ti _ _ hi
  have hxc := hx.cells
  have hrun : ∀ a : Addr, v = .pointer (some a) → (Instr.storeAt t v x').run P w = (storeCells a x'.cells.toList).run P w := by
    rintro a rfl
    have : ¬ (x'.cells.size ≠ i.size) := by
      have := hxc.length
      simp at this ⊢; omega
    simp only [Instr.storeAt, Instr.sureAddr, Sem.run_bind, Sem.run_pure, Result.andThen_ok, storeVar, tk.run_size, Sem.run_ite, if_neg this]
  unfold St.store at h
  split at h
  · rename_i b o
    cases hv with
    | ptr hb =>
      split at h
      · rename_i h' hw
        cases h
        unfold Heap.write at hw
        split at hw
        · rename_i cs e hg
          split at hw
          · rename_i hle
            cases hw
            cases (m.heap _ _ hg).2 with
            | cells hb' hwo hz hc hvs ho =>
              rename_i B z c tt vs rest
              rw [hb] at hb'; cases hb'
              obtain ⟨w', r1, r2, r3⟩ := store_cells (P := P) (us := x'.cells.toList) (o := o) hwo (by
                have := hxc.length; have := hvs.length
                have h5 : c.size = vs.length + rest.length := by rw [← Array.length_toList, hc, List.length_append]
                omega) (hxc.one h1)
              have br := splice_BR (e := e) hb hz hc hvs ho hxc h1 hle r3
              exact ⟨w', (hrun _ rfl).trans r1, m.write ⟨_, hg⟩ hb r2 br⟩
          · cases hw
        · cases hw
      · cases h
  · rename_i t0 g o
    cases hv with
    | loc hb =>
      split at h
      · rename_i g' cs hg
        split at h
        · rename_i he
          have := Nat.eq_of_beq_eq_true he; subst this
          split at h
          · rename_i hle
            cases h
            cases (m.locs _ _ _ hg).2.2 with
            | cells hb' hwo hz hc hvs ho =>
              rename_i B z c tt vs rest
              rw [hb] at hb'; cases hb'
              obtain ⟨w', r1, r2, r3⟩ := store_cells (P := P) (us := x'.cells.toList) (o := o) hwo (by
                have := hxc.length; have := hvs.length
                have h5 : c.size = vs.length + rest.length := by rw [← Array.length_toList, hc, List.length_append]
                omega) (hxc.one h1)
              have br := splice_BR (e := 0) hb hz hc hvs ho hxc h1 hle r3
              exact ⟨w', (hrun _ rfl).trans r1, m.boxWrite hg hb r2 br⟩
          · cases h
        · cases h
      · cases h
  · cases h
end

end Am
end Go.Proofs.YtdmfdclkpdliaaaGreatDoor
