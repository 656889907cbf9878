/- The abstract machine's regions of open order: what stands in their list, one by one. No condition. -/
import Derived.Test.YtdmfdclkpdliaaaGreatDoorExe
import Derived.Test.YtdmfdclkpdliaaaGreatDoorOpy
namespace Go.Proofs.YtdmfdclkpdliaaaGreatDoor
namespace Am
open Go

theorem edgeMask_bits {i : Nat} {bms : List Nat} : ∀ {es : List Edge} {m bm : Nat}, edgeMask i bms es m = some bm →
    (∀ e ∈ es, Region.binds .any e = true → e.on < i) ∧ ∀ j, bm.testBit j = true → m.testBit j = true ∨ ∃ e ∈ es, Region.binds .any e = true ∧ (j = e.on ∨ ∃ b, bms[e.on]? = some b ∧ b.testBit j = true)
  | [], m, bm, h => by simp [edgeMask] at h; subst h; exact ⟨by simp, fun j hj => .inl hj⟩
  | e :: es, m, bm, h => by
    have lift : (∀ x ∈ es, Region.binds .any x = true → x.on < i) → (Region.binds .any e = true → e.on < i) → ∀ x ∈ e :: es, Region.binds .any x = true → x.on < i := by
      intro h1 h2 x hx
      cases hx with
      | head => exact h2
      | tail _ hx => exact h1 x hx
    simp only [edgeMask] at h
    split at h
    · rename_i hg
      obtain ⟨h1, h2⟩ := edgeMask_bits h
      refine ⟨lift h1 (fun hb => by simp [Region.binds, hg] at hb), fun j hj => ?_⟩
      rcases h2 j hj with h3 | ⟨x, hx, h3⟩
      · exact .inl h3
      · exact .inr ⟨x, List.mem_cons_of_mem _ hx, h3⟩
    · rename_i hg
      obtain ⟨h1, h2⟩ := edgeMask_bits h
      refine ⟨lift h1 (fun hb => by simp [Region.binds, hg] at hb), fun j hj => ?_⟩
      rcases h2 j hj with h3 | ⟨x, hx, h3⟩
      · exact .inl h3
      · exact .inr ⟨x, List.mem_cons_of_mem _ hx, h3⟩
    · rename_i hg1 hg2
      have hb : Region.binds .any e = true := by
        unfold Region.binds
        split
        · rename_i t ht; exact absurd ht (hg1 _)
        · rename_i t ht; exact absurd ht (hg2 _)
        · rfl
      split at h
      · rename_i hlt
        have hlt : e.on < i := by simpa using hlt
        split at h
        · rename_i b hbm
          obtain ⟨h1, h2⟩ := edgeMask_bits h
          refine ⟨lift h1 (fun _ => hlt), fun j hj => ?_⟩
          rcases h2 j hj with h3 | ⟨x, hx, h3⟩
          · rw [Nat.testBit_or, Nat.testBit_or, Nat.testBit_two_pow] at h3
            simp only [Bool.or_eq_true, decide_eq_true_eq] at h3
            rcases h3 with (h3 | h3) | h3
            · exact .inl h3
            · exact .inr ⟨e, List.mem_cons_self, hb, .inl h3.symm⟩
            · exact .inr ⟨e, List.mem_cons_self, hb, .inr ⟨b, hbm, h3⟩⟩
          · exact .inr ⟨x, List.mem_cons_of_mem _ hx, h3⟩
        · cases h
      · cases h

theorem meets_none {a b : List Nat} (h : meets a b = false) {x : Nat} (ha : x ∈ a) : x ∉ b := by
  intro hb
  unfold meets at h
  rw [List.any_eq_false] at h
  have := h x ha
  rw [List.any_eq_true] at this
  exact this ⟨x, hb, by simp⟩
theorem clashes_none {g : Fx} : ∀ {l : List Fx} {s j : Nat} {f : Fx}, clashes g s l = false → l[j]? = some f → g.bm.testBit (s + j) = false → clash f g = false
  | [], s, j, f, _, h, _ => by simp at h
  | x :: l, s, 0, f, h, hj, hb => by
    simp at hj; subst hj
    simp only [clashes, Bool.or_eq_false_iff] at h
    have h := h.1
    rw [Nat.add_zero] at hb
    rw [hb] at h
    simpa using h
  | x :: l, s, j + 1, f, h, hj, hb => by
    simp only [clashes, Bool.or_eq_false_iff] at h
    exact clashes_none h.2 (by simpa using hj) (by rw [Nat.add_assoc, Nat.add_comm 1 j]; exact hb)

section
variable {T : Tab} {C : FuncId → Fun} {esc : List Tmp} {ops : List Oper}
theorem drawOne_bm {bm : Nat} {o : Oper} {s s' : St} {f : Fx} (h : drawOne T C esc ops bm o s = some (f, s')) : f.bm = bm := by
  unfold drawOne at h
  split at h
  · cases h
  · split at h
    · cases h; rfl
    · cases h
  · dsimp only at h
    split at h
    · cases h
    · split at h
      · cases h
      · split at h
        · cases h; rfl
        · cases h

theorem drawAll_line : ∀ {l : List Oper} {i : Nat} {done : List Fx} {s s' : St}, drawAll T C esc ops i l (done.map (·.bm)) done s = some s' →
    ∃ (st : Nat → St) (fx : Nat → Fx), st 0 = s ∧ st l.length = s' ∧ ∀ k o, l[k]? = some o →
      edgeMask (i + k) ((done ++ (List.range k).map fx).map (·.bm)) o.after.toList 0 = some (fx k).bm ∧ drawOne T C esc ops (fx k).bm o (st k) = some (fx k, st (k + 1)) ∧ clashes (fx k) 0 (done ++ (List.range k).map fx) = false
  | [], i, done, s, s', h => by
    simp [drawAll] at h; subst h
    exact ⟨fun _ => s, fun _ => ⟨[], [], 0⟩, rfl, rfl, by simp⟩
  | o :: l, i, done, s, s', h => by
    simp only [drawAll] at h
    split at h
    · cases h
    · rename_i bm hbm
      split at h
      · cases h
      · rename_i f s1 hd
        split at h
        · cases h
        · rename_i hc
          have hfb := drawOne_bm hd
          have e : done.map (·.bm) ++ [bm] = (done ++ [f]).map (·.bm) := by rw [List.map_append]; simp [hfb]
          rw [e] at h
          obtain ⟨st, fx, h0, h1, h2⟩ := drawAll_line h
          refine ⟨fun k => match k with | 0 => s | k + 1 => st k, fun k => match k with | 0 => f | k + 1 => fx k, rfl, h1, ?_⟩
          intro k x hk
          cases k with
          | zero =>
            simp at hk; subst hk
            refine ⟨?_, ?_, ?_⟩
            · simpa [hfb] using hbm
            · dsimp only
              rw [hfb, h0]; exact hd
            · simpa using hc
          | succ k =>
            have := h2 k x (by simpa using hk)
            have hl : done ++ (List.range (k + 1)).map (fun k => match k with | 0 => f | k + 1 => fx k) = (done ++ [f]) ++ (List.range k).map fx := by
              rw [List.range_succ_eq_map]
              simp [Function.comp_def]
            refine ⟨?_, this.2.1, ?_⟩
            · rw [hl, ← Nat.add_assoc, Nat.add_right_comm]; exact this.1
            · rw [hl]; exact this.2.2
end

theorem pickR_get {α : Type} {r : Tr α} {t : Nat} {u : α} : ∀ {ts : List Nat}, (pickR r ts).get t = some u → t ∈ ts ∧ r.get t = some u
  | [], h => by simp only [pickR] at h; cases h
  | x :: ts, h => by
    simp only [pickR] at h
    rcases Tr.get_put h with ⟨h1, h2⟩ | ⟨_, h2⟩
    · subst h1; exact ⟨List.mem_cons_self, h2⟩
    · exact ⟨List.mem_cons_of_mem _ (pickR_get h2).1, (pickR_get h2).2⟩
theorem mergeL_get {l m : Tr (Nat × List AV)} {t : Nat} {u : Nat × List AV} : ∀ {ts : List Tmp}, (mergeL l m ts).get t = some u → (t ∈ ts ∧ m.get t = some u) ∨ (t ∉ ts ∧ l.get t = some u)
  | [], h => .inr ⟨by simp, h⟩
  | x :: ts, h => by
    simp only [mergeL] at h
    rcases Tr.get_put h with ⟨h1, h2⟩ | ⟨h1, h2⟩
    · subst h1; exact .inl ⟨List.mem_cons_self, h2⟩
    · rcases mergeL_get h2 with ⟨h3, h4⟩ | ⟨h3, h4⟩
      · exact .inl ⟨List.mem_cons_of_mem _ h3, h4⟩
      · refine .inr ⟨fun hm => ?_, h4⟩
        cases hm with
        | head => exact h1 rfl
        | tail _ hm => exact h3 hm
theorem noHeap_get (b : Nat) : noHeap.get b = none := rfl

theorem touches_shape {esc : List Tmp} {r : Tr AV} {o : Oper} {c : Touch} (h : touches esc r o = some c) :
    (c.hw = false ∧ c.lw = []) ∨ (c.lr = [] ∧ c.hw = true ∧ c.hr = true ∧ c.lw = []) ∨ (c.lr = [] ∧ c.hw = false ∧ c.hr = false ∧ ∃ d, c.lw = [d]) := by
  unfold touches at h
  split at h <;> (try split at h) <;> (try split at h) <;> first | (cases h; done) | (cases h; simp)

end Am
end Go.Proofs.YtdmfdclkpdliaaaGreatDoor
