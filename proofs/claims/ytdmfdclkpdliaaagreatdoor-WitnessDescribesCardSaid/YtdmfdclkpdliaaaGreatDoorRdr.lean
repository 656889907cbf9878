/- What a datum that reads says of the memory: fields of structs, elements of slices, cells that are one value each. No program stands here. -/
import Derived.ProofKit
import Derived.Deep.Slices
import Derived.Deep.MidRow
import Derived.ChangeArms
import Derived.DataReads
namespace Go.Proofs.YtdmfdclkpdliaaaGreatDoor
open Go Go.ChangeShapes Go.WideShapes Go.RowKit Go.Deep
section
variable {H : Type} {enc : TypeId × Value → H} {P : Program} {w : World} {base : Nat} {spare : Nat → Bool} {held : Bool}

theorem trod_field {t : TypeId} {fs : Array Field} (ht : P.underlying t = some (.struct fs)) {fuel : Nat} {cs : List Value} {x : DataW H × List MemPlace} (h : DataW.trod enc P w base spare held fuel t cs = some x) (i : Nat) (f : Field) (hf : fs[i]? = some f) :
    ∃ n y, DataW.trod enc P w base spare held n f.type ((cs.drop f.offset).take (P.cellsOf f.type)) = some y := by
  obtain ⟨xs, n, _, _, _, hl, hg⟩ := DataW.trod_struct ht h
  have hi : i < xs.length := by rw [hl]; exact (Array.getElem?_eq_some_iff.1 hf).1
  exact ⟨n, xs[i], by rw [hg i f hf, List.getElem?_eq_getElem hi]⟩

theorem addr_plain {a : Addr} {v : Value} (h : w.cell? a = some v) : a = ⟨a.block, a.off, none⟩ := by
  obtain ⟨b, o, s⟩ := a
  cases s with
  | none => rfl
  | some s =>
    simp [World.cell?] at h
    split at h <;> simp_all

theorem trod_rows {t e : TypeId} (ht : P.underlying t = some (.slice e)) {c : Nat} (hc : P.cellsOf e = c) (h0 : 0 < c) {fuel : Nat} {cs : List Value} {x : DataW H × List MemPlace} (h : DataW.trod enc P w base spare held fuel t cs = some x) :
    ∃ ao len cap, cs = [.slice ao len cap] ∧ len ≤ maxLen ∧ ∀ i, i < len → ∃ b o cs' n y, ao = some ⟨b, o, none⟩ ∧ b < w.heap.size ∧ cs'.length = c ∧ w.rangeAt b (o + i * c) cs' ∧ DataW.trod enc P w base spare held n e cs' = some y := by
  subst hc
  rcases open_slice ht h with ⟨rfl, _⟩ | ⟨a, len, cap, m, n, D, Pl, rfl, _, hl, hm, hmm, _, hi⟩
  · exact ⟨none, 0, 0, rfl, Nat.zero_le _, fun i hi => absurd hi (Nat.not_lt_zero _)⟩
  · refine ⟨some a, len, cap, rfl, Nat.le_trans hl hm, fun i hlt => ?_⟩
    obtain ⟨cs', hcs, ht'⟩ := hi i (by rw [hmm]; split <;> omega)
    obtain ⟨_, hcl, hat⟩ := World.cells?_some hcs
    obtain ⟨cs0, hcs0, _⟩ := hi 0 (by rw [hmm]; split <;> omega)
    have hat0 := (World.cells?_some hcs0).2.2 0 h0
    have hcl0 := (World.cells?_some hcs0).2.1
    rw [Nat.zero_mul, Addr.add_zero', Addr.add_zero', List.getElem?_eq_getElem (by omega)] at hat0
    have hap := addr_plain hat0
    have e2 : ∀ k, a.add k = ⟨a.block, a.off + k, none⟩ := fun k => by rw [hap]; exact Addr.add_mid _ _ _
    have hb : a.block < w.heap.size := by
      exact block_lt_of_cell hat0
    refine ⟨a.block, a.off, cs', n, (D i, Pl i), congrArg some hap, hb, hcl, fun j v hj => ?_, ht'⟩
    have hjl : j < P.cellsOf e := by have := (List.getElem?_eq_some_iff.1 hj).1; omega
    have := hat j hjl
    rw [e2, Addr.add_mid] at this
    rw [this]
    exact hj

/- the types of one cell that occur -/
def leaf : TypeDesc → Bool
  | .bool | .int _ | .string | .slice _ => true
  | _ => false
theorem trod_leaf {t : TypeId} {d : TypeDesc} (ht : P.underlying t = some d) (hd : leaf d = true) {fuel : Nat} {cs : List Value} {x : DataW H × List MemPlace} (h : DataW.trod enc P w base spare held fuel t cs = some x) : ∀ v ∈ cs, v.oneCell' = true := by
  cases d <;> simp [leaf] at hd
  · obtain ⟨b, rfl, _⟩ := DataW.trod_bool ht h
    simp [Value.oneCell']
  · obtain ⟨b, rfl, _⟩ := DataW.trod_int ht h
    simp [Value.oneCell']
  · obtain ⟨b, rfl, _⟩ := DataW.trod_string ht h
    simp [Value.oneCell']
  · rcases DataW.trod_slice ht h with ⟨rfl, _⟩ | ⟨a, len, cap, _, _, _, _, rfl, _⟩ <;> simp [Value.oneCell']
theorem trod_one {t : TypeId} {fs : Array Field} (ht : P.underlying t = some (.struct fs)) (hcov : ((List.range (P.cellsOf t)).all fun j => fs.toList.any fun f => decide (f.offset ≤ j) && decide (j < f.offset + P.cellsOf f.type)) = true)
    (hone : ∀ f ∈ fs.toList, ∀ n cs' y, DataW.trod enc P w base spare held n f.type cs' = some y → ∀ v ∈ cs', v.oneCell' = true)
    {fuel : Nat} {cs : List Value} {x : DataW H × List MemPlace} (h : DataW.trod enc P w base spare held fuel t cs = some x) : ∀ v ∈ cs, v.oneCell' = true := by
  intro v hv
  obtain ⟨_, _, _, _, hl, _, _⟩ := DataW.trod_struct ht h
  obtain ⟨j, hj, rfl⟩ := List.getElem_of_mem hv
  obtain ⟨f, hf, hq⟩ := List.any_eq_true.1 (List.all_eq_true.1 hcov j (List.mem_range.2 (by omega)))
  simp only [Bool.and_eq_true, decide_eq_true_eq] at hq
  obtain ⟨i, hi, hfi⟩ := List.getElem_of_mem hf
  obtain ⟨n, y, hy⟩ := trod_field ht h i f (by rw [← Array.getElem?_toList, List.getElem?_eq_getElem hi, hfi])
  refine hone f hf n _ y hy _ ?_
  rw [List.mem_iff_getElem?]
  refine ⟨j - f.offset, ?_⟩
  rw [List.getElem?_take, if_pos (by omega), List.getElem?_drop, show f.offset + (j - f.offset) = j by omega, List.getElem?_eq_getElem hj]

/- a struct all of whose fields are of one cell -/
theorem trod_leaves {t : TypeId} {fs : Array Field} (ht : P.underlying t = some (.struct fs)) (hcov : ((List.range (P.cellsOf t)).all fun j => fs.toList.any fun f => decide (f.offset ≤ j) && decide (j < f.offset + P.cellsOf f.type)) = true)
    (hlf : (fs.toList.all fun f => match P.underlying f.type with | some d => leaf d | none => false) = true)
    {fuel : Nat} {cs : List Value} {x : DataW H × List MemPlace} (h : DataW.trod enc P w base spare held fuel t cs = some x) : ∀ v ∈ cs, v.oneCell' = true :=
  trod_one ht hcov (fun f hf n cs' y hy => by
    have h1 := List.all_eq_true.1 hlf f hf
    cases hd : P.underlying f.type with
    | none => rw [hd] at h1; cases h1
    | some d => rw [hd] at h1; exact trod_leaf hd h1 hy) h

/- a list out of its elements -/
theorem list_of {α : Type} {p : Nat → α → Prop} : ∀ (n : Nat), (∀ i, i < n → ∃ x, p i x) → ∃ l : List α, l.length = n ∧ ∀ (k : Nat) x, l[k]? = some x → p k x
  | 0, _ => ⟨[], rfl, fun k x h => by simp at h⟩
  | n + 1, h => by
    obtain ⟨l, hl, hp⟩ := list_of n fun i hi => h i (by omega)
    obtain ⟨x, hx⟩ := h n (by omega)
    refine ⟨l ++ [x], by simp [hl], fun k y hy => ?_⟩
    rcases Nat.lt_or_ge k n with hk | hk
    · rw [List.getElem?_append_left (by omega)] at hy
      exact hp k y hy
    · rw [List.getElem?_append_right (by omega)] at hy
      cases hq : k - l.length with
      | zero =>
        rw [hq] at hy
        simp at hy
        subst hy
        have : k = n := by omega
        subst this
        exact hx
      | succ q => rw [hq] at hy; simp at hy
end
end Go.Proofs.YtdmfdclkpdliaaaGreatDoor
