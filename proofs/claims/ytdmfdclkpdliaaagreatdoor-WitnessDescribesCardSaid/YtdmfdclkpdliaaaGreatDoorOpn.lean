/- Each operation of the abstract machine is what the model does: part four: what makes blocks, what puts aggregates together, slices. No condition. -/
import Derived.Test.YtdmfdclkpdliaaaGreatDoorOpm
namespace Go.Proofs.YtdmfdclkpdliaaaGreatDoor
namespace Am
open Go

section
variable {P : Program} {w : World} {T : Tab} {φ : Phi} {s : St}

theorem newRow_run (e : TypeId) (us : Array Value) (w : World) : (newRow e us).run P w = .ok ⟨w.heap.size, 0, none⟩ { w with heap := w.heap.push (.cells us e) } := by
  simp [newRow]
theorem grew_row (e : TypeId) (us : Array Value) (w : World) : Grew w { w with heap := w.heap.push (.cells us e) } (.cells us e) := ⟨rfl, rfl, rfl, rfl⟩
theorem BR_new {b : Nat} {cs : List AV} {e t : TypeId} {us : Array Value} {w' : World} (h : φ b = some (w.heap.size, us.size)) (g : Grew w w' (.cells us t)) {vs rest : List Value} (hu : us.toList = vs ++ rest) (hv : VRs φ cs vs) (h1 : cs.all AV.one = true) : BR φ w' b (.cells cs e) :=
  .cells h g.new rfl hu hv h1

/- a new row as a block of the heap -/
theorem block_run (m : Mem φ s w) (hf : φ s.n = none) {cs : List AV} {us : Array Value} {vs rest : List Value} (hu : us.toList = vs ++ rest) (hv : VRs φ cs vs) (h1 : cs.all AV.one = true) (e e' : TypeId) :
    ∃ φ' w', (newRow e us).run P w = .ok ⟨w.heap.size, 0, none⟩ w' ∧ φ' s.n = some (w.heap.size, us.size) ∧ Mem φ' { s with n := s.n + 1, h := s.h.put s.n (some (.cells cs e')) } w' ∧ Mv φ s w φ' { s with n := s.n + 1, h := s.h.put s.n (some (.cells cs e')) } w' := by
  have g := grew_row e us w
  have hφ : φ.le (φ.add s.n (w.heap.size, us.size)) := Phi.le_add hf
  have := m.block hf (z := us.size) g (BR_new (e := e') (Phi.add_self _ _ _) g hu (hv.mono hφ) h1)
  exact ⟨_, _, newRow_run e us w, Phi.add_self _ _ _, this.1, this.2⟩
theorem boxed_run (m : Mem φ s w) (hf : φ s.n = none) {cs : List AV} {us : Array Value} (hv : VRs φ cs us.toList) (h1 : cs.all AV.one = true) (esc : List Tmp) (dst : Option Tmp) (e : TypeId) :
    ∃ φ' w', (newRow e us).run P w = .ok ⟨w.heap.size, 0, none⟩ w' ∧ VR φ' (s.boxed esc dst cs e).1 (.pointer (some ⟨w.heap.size, 0, none⟩)) ∧ Mem φ' (s.boxed esc dst cs e).2 w' ∧ Mv φ s w φ' (s.boxed esc dst cs e).2 w' := by
  have hb := block_run (P := P) m hf (us := us) (vs := us.toList) (rest := []) (by simp) hv h1 e e
  unfold St.boxed
  split
  · rename_i d
    split
    · obtain ⟨φ', w', r1, r2, r3, r4⟩ := hb
      exact ⟨φ', w', r1, .ptr r2, r3, r4⟩
    · have g := grew_row e us w
      have hφ : φ.le (φ.add s.n (w.heap.size, us.size)) := Phi.le_add hf
      have := m.box hf d (z := us.size) g (BR_new (e := 0) (vs := us.toList) (rest := []) (Phi.add_self _ _ _) g (by simp) (hv.mono hφ) h1)
      exact ⟨_, _, newRow_run e us w, .loc (Phi.add_self _ _ _), this.1, this.2⟩
  · obtain ⟨φ', w', r1, r2, r3, r4⟩ := hb
    exact ⟨φ', w', r1, .ptr r2, r3, r4⟩

/- aggregates out of parts -/
theorem fold_set (us : List Value) : ∀ (k off : Nat) (cs : Array Value), off + k + us.length ≤ cs.size →
    ((us.zipIdx k).foldl (fun (cs : Array Value) (x : Value × Nat) => cs.setIfInBounds (off + x.2) x.1) cs).toList = cs.toList.take (off + k) ++ us ++ cs.toList.drop (off + k + us.length) := by
  induction us with
  | nil => intro k off cs _; simp
  | cons u us ih =>
    intro k off cs h
    simp only [List.zipIdx_cons, List.foldl_cons]
    rw [ih (k + 1) off _ (by simp at h ⊢; omega)]
    have e := list_seg_step cs.toList (off + k) u us (by simp at h ⊢; omega)
    simpa [Array.toList_setIfInBounds, Nat.add_assoc] using e
def PRs (φ : Phi) : List (Nat × AV) → List (Nat × Value) → Prop
  | [], [] => True
  | (i, a) :: as, (j, v) :: vs => i = j ∧ VR φ a v ∧ PRs φ as vs
  | _, _ => False
theorem fill_run {place place' : Nat → Option (Nat × Nat)} (hp : ∀ i x, place i = some x → place' i = some x) : ∀ (l : List (Nat × AV)) (l' : List (Nat × Value)) (cs : List AV) (cs' : Array Value) (r : List AV),
    fillAt place cs l = some r → PRs φ l l' → VRs φ cs cs'.toList → cs.all AV.one = true → ∃ r' : Array Value, Instr.fill place' cs' l' = some r' ∧ VRs φ r r'.toList ∧ r.all AV.one = true ∧ r.length = cs.length
  | [], [], cs, cs', r, h, _, hc, h1 => by simp [fillAt] at h; subst h; exact ⟨cs', rfl, hc, h1, rfl⟩
  | [], _ :: _, _, _, _, _, h, _, _ => by simp [PRs] at h
  | _ :: _, [], _, _, _, _, h, _, _ => by simp [PRs] at h
  | (i, a) :: l, (j, v) :: l', cs, cs', r, h, hl, hc, h1 => by
    obtain ⟨rfl, hav, hl⟩ := hl
    simp only [fillAt] at h
    split at h
    · cases h
    · rename_i off size hpl
      split at h
      · rename_i hck
        simp only [Bool.and_eq_true] at hck
        have hsz := Nat.eq_of_beq_eq_true hck.1.1
        have hle := Nat.le_of_ble_eq_true hck.1.2
        have hac := hav.cells
        have hlc := hc.length
        have hla := hac.length
        have hvsz : v.cells.size = size := by rw [← Array.length_toList, hla, hsz]
        have hcsz : cs'.size = cs.length := by rw [← Array.length_toList, hlc]
        have hcond : (v.cells.size ≠ size || off + v.cells.size > cs'.size) = false := by
          simp [hvsz, hcsz]; omega
        have hfold : (v.cells.zipIdx.foldl (fun cs (c, j) => cs.setIfInBounds (off + j) c) cs').toList = cs'.toList.take off ++ v.cells.toList ++ cs'.toList.drop (off + v.cells.toList.length) := by
          have := fold_set v.cells.toList 0 off cs' (by simp; omega)
          simp only [Nat.add_zero] at this
          rw [← this, ← Array.foldl_toList]
          simp [Array.toList_zipIdx]
        have hnew : VRs φ (splice cs off a.cells) (v.cells.zipIdx.foldl (fun cs (c, j) => cs.setIfInBounds (off + j) c) cs').toList := by
          rw [hfold, hla]
          exact ((hc.take off).append hac).append (hc.drop _)
        have ha1 := hck.2
        obtain ⟨r', e1, e2, e3, e4⟩ := fill_run hp l l' _ _ r h hl hnew (splice_all h1 ha1)
        refine ⟨r', ?_, e2, e3, by rw [e4, splice_length (by omega)]⟩
        simp only [Instr.fill, hp i _ hpl]
        rw [if_neg (by rw [hcond]; simp)]
        exact e1
      · cases h

theorem mapM_run {α β : Type} {f : α → Sem β} {g : α → β} : ∀ (l : List α), (∀ x ∈ l, (f x).run P w = .ok (g x) w) → (l.mapM f).run P w = .ok (l.map g) w
  | [], _ => by simp
  | x :: l, h => by
    simp only [List.mapM_cons, Sem.run_bind, h x (by simp), Result.andThen_ok, mapM_run l (fun y hy => h y (by simp [hy])), Sem.run_pure, List.map_cons]
end

section
variable {P : Program} {w : World} {T : Tab} {φ : Phi} {s : St}
theorem structPlace_run (tok : TabOk P T) {fs : Array Field} (hall : ((fs.toList.map fun f => (f.offset, f.type, f.name == "_")).all fun x => (T.ti x.2.1).isSome) = true) :
    ∃ places : Array (Nat × Nat), (fs.mapM (fun f => do pure (f.offset, ← sizeOf f.type) : Field → Sem (Nat × Nat))).run P w = .ok places w ∧
      ∀ i x, structPlace T (fs.toList.map fun f => (f.offset, f.type, f.name == "_")) i = some x → places[i]? = some x := by
  let sz : TypeId → Nat := fun t => match T.ti t with | some i => i.size | none => 0
  have hrun : ∀ f ∈ fs.toList, (do pure (f.offset, ← sizeOf f.type) : Sem (Nat × Nat)).run P w = .ok (f.offset, sz f.type) w := by
    intro f hf
    have := List.all_eq_true.1 hall (f.offset, f.type, f.name == "_") (List.mem_map.2 ⟨f, hf, rfl⟩)
    obtain ⟨i, hi⟩ := Option.isSome_iff_exists.1 this
    simp only at hi
    simp [(tok.ti _ _ hi).run_size, sz, hi]
  refine ⟨(fs.toList.map fun f => (f.offset, sz f.type)).toArray, ?_, ?_⟩
  · rw [Array.mapM_eq_mapM_toList, Sem.run_map, mapM_run fs.toList hrun]
    rfl
  · intro i x h
    unfold structPlace at h
    split at h
    · cases h
    · rename_i off ft b hq
      split at h
      · cases h
      · rename_i fi hfi
        cases h
        rw [List.getElem?_map] at hq
        cases hf : fs.toList[i]? with
        | none => rw [hf] at hq; simp at hq
        | some f =>
          rw [hf] at hq
          simp at hq
          obtain ⟨rfl, rfl, _⟩ := hq
          simp only [List.getElem?_toArray, List.getElem?_map, hf, Option.map_some, sz, hfi]
theorem build_struct_run (tok : TabOk P T) {t : TypeId} {i : TI} (hi : T.ti t = some i) {fs : List (Nat × TypeId × Bool)} (htd : i.td = .struct fs) (hall : (fs.all fun x => (T.ti x.2.1).isSome) = true)
    {l : List (Nat × AV)} {l' : Array (Nat × Value)} (hl : PRs φ l l'.toList) {cs : List AV} (h : fillAt (structPlace T fs) i.zero l = some cs) : ∃ v, (Instr.build t l').run P w = .ok v w ∧ VR φ (.agg cs) v := by
  have tk := tok.ti _ _ hi
  obtain ⟨d, hu, hd, _⟩ := tk.under
  rw [htd] at hd
  cases d <;> simp only [tdOf] at hd <;> cases hd
  obtain ⟨places, r1, r2⟩ := structPlace_run (w := w) tok hall
  obtain ⟨z, z1, z2, z3, _⟩ := tk.run_zero w
  obtain ⟨r', f1, f2, f3, _⟩ := fill_run r2 l l'.toList i.zero z.cells cs h hl (z2 φ) z3
  refine ⟨.agg r', ?_, ?_⟩
  · simp only [Instr.build, Sem.run_bind, z1, Result.andThen_ok, run_underlying hu]
    rw [r1]
    simp only [Result.andThen_ok, f1, Sem.run_pure]
  · have := VR.agg f2 f3
    simpa using this
theorem build_array_run (tok : TabOk P T) {t e : TypeId} {n : Nat} {i ei : TI} (hi : T.ti t = some i) (htd : i.td = .array n e) (he : T.ti e = some ei)
    {l : List (Nat × AV)} {l' : Array (Nat × Value)} (hl : PRs φ l l'.toList) {cs : List AV} (h : fillAt (fun j => some (j * ei.size, ei.size)) i.zero l = some cs) : ∃ v, (Instr.build t l').run P w = .ok v w ∧ VR φ (.agg cs) v := by
  have tk := tok.ti _ _ hi
  obtain ⟨d, hu, hd, _⟩ := tk.under
  rw [htd] at hd
  cases d <;> simp only [tdOf] at hd <;> cases hd
  obtain ⟨z, z1, z2, z3, _⟩ := tk.run_zero w
  obtain ⟨r', f1, f2, f3, _⟩ := fill_run (fun _ _ h => h) l l'.toList i.zero z.cells cs h hl (z2 φ) z3
  refine ⟨.agg r', ?_, ?_⟩
  · simp only [Instr.build, Sem.run_bind, z1, Result.andThen_ok, run_underlying hu, Sem.run_pure, (tok.ti _ _ he).run_size, f1]
  · have := VR.agg f2 f3
    simpa using this

/- so many zero values -/
theorem rep_zero (z : List AV) : rep 0 z = [] := rfl
theorem rep_succ (n : Nat) (z : List AV) : rep (n + 1) z = z ++ rep n z := rfl
theorem rep_all {p : AV → Bool} (n : Nat) {z : List AV} (h : z.all p = true) : (rep n z).all p = true := by
  induction n with
  | zero => rfl
  | succ n ih => rw [rep_succ]; exact all_app h ih
theorem rep_length (n : Nat) (z : List AV) : (rep n z).length = n * z.length := by
  induction n with
  | zero => simp [rep_zero]
  | succ n ih => rw [rep_succ, List.length_append, ih, Nat.succ_mul]; omega
theorem rep_vals {z : List AV} {z' : Array Value} (h : VRs φ z z'.toList) (n : Nat) : VRs φ (rep n z) ((Array.range (n * z'.size)).map fun i => z'[i % z'.size]!).toList := by
  have hk : ∀ n, ((Array.range (n * z'.size)).map fun i => z'[i % z'.size]!).toList = (List.range (n * z'.size)).map fun i => z'[i % z'.size]! := fun n => by simp
  induction n with
  | zero => rw [hk]; simp [rep_zero]; exact .nil
  | succ n ih =>
    rw [hk] at ih ⊢
    rw [rep_succ]
    have e : (n + 1) * z'.size = z'.size + n * z'.size := by rw [Nat.succ_mul]; omega
    rw [e, List.range_add, List.map_append]
    refine VRs.append ?_ ?_
    · have : (List.range z'.size).map (fun i => z'[i % z'.size]!) = z'.toList := by
        apply List.ext_getElem?
        intro j
        rw [List.getElem?_map]
        by_cases hj : j < z'.size
        · rw [List.getElem?_range hj]
          simp [Nat.mod_eq_of_lt hj, hj]
        · rw [List.getElem?_eq_none (by simpa using hj), List.getElem?_eq_none (by simpa using hj)]
          rfl
      rw [this]; exact h
    · rw [List.map_map]
      have : ((fun i => z'[i % z'.size]!) ∘ fun x => z'.size + x) = fun i => z'[i % z'.size]! := by
        funext i
        simp
      rw [this]; exact ih
end

end Am
end Go.Proofs.YtdmfdclkpdliaaaGreatDoor
