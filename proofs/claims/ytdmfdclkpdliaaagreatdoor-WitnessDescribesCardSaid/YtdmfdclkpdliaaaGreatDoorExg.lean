/- The abstract machine's regions of open order: whatever the order, the machine's answer is reached. No condition. -/
import Derived.Test.YtdmfdclkpdliaaaGreatDoorExd
namespace Go.Proofs.YtdmfdclkpdliaaaGreatDoor
namespace Am
open Go

/- what a state says, one by one -/
inductive Fact where
  | reg (t : Nat) (u : AV)
  | blk (b : Nat) (x : Blk)
  | loc (t g : Nat) (cs : List AV)
def Fact.res : Fact → Nat
  | .reg t _ => regR t
  | .blk .. => 0
  | .loc t .. => locR t
def Fact.name : Fact → Option Nat
  | .reg .. => none
  | .blk b _ => some b
  | .loc _ g _ => some g
def Fact.at (s : St) : Fact → Prop
  | .reg t u => s.regs.get t = some u
  | .blk b x => s.h.get b = some x
  | .loc t g cs => s.locs.get t = some (g, cs)
def Fact.ok (N : Nat) (φ : Phi) (a : Act) (w : World) : Fact → Prop
  | .reg t u => VR φ u (a.eval (.tmp t))
  | .blk b x => b < N ∧ BR φ w b x
  | .loc _ g cs => g < N ∧ BR φ w g (.cells cs 0)

theorem putR_get {s : St} {d : Option Tmp} {v u : AV} {t : Nat} (h : (s.putR d v).regs.get t = some u) : (d = some t ∧ v = u) ∨ (d ≠ some t ∧ s.regs.get t = some u) := by
  cases d with
  | none => exact .inr ⟨by simp, h⟩
  | some d =>
    rcases Tr.get_put h with ⟨h1, h2⟩ | ⟨h1, h2⟩
    · subst h1; cases h2; exact .inl ⟨rfl, rfl⟩
    · exact .inr ⟨fun e => h1 (by cases e; rfl), h2⟩
theorem putR_rest (s : St) (d : Option Tmp) (v : AV) : (s.putR d v).h = s.h ∧ (s.putR d v).locs = s.locs ∧ (s.putR d v).n = s.n ∧ (s.putR d v).lo = s.lo ∧ (s.putR d v).nt = s.nt := by cases d <;> exact ⟨rfl, rfl, rfl, rfl, rfl⟩
theorem mem_dst {o : Oper} {t : Nat} (h : o.dst = some t) : regR t ∈ (dstTmp o).map regR := by
  unfold dstTmp; rw [h]; simp
theorem dst_mem {o : Oper} {x : Nat} (h : x ∈ (dstTmp o).map regR) : ∃ t, o.dst = some t ∧ x = regR t := by
  unfold dstTmp at h
  cases hd : o.dst with
  | none => rw [hd] at h; simp at h
  | some d => rw [hd] at h; simp at h; exact ⟨d, rfl, h⟩

/- the state on which an operation runs -/
def cutSt (s : St) (o : Oper) (c : Touch) : St := { regs := pickR s.regs (tmpsOf o.op.operands.toList), locs := pickR s.locs (c.lr ++ c.lw), n := s.n, lo := s.n, h := if c.hr then s.h else noHeap, nt := s.nt }

section
variable {T : Tab} {C : FuncId → Fun} {esc : List Tmp} {ops : List Oper}
theorem drawOne_cases {bm : Nat} {o : Oper} {s s1 : St} {f : Fx} (h : drawOne T C esc ops bm o s = some (f, s1)) :
    fits s o.dst = true ∧ (∀ t ∈ guardTmp ops o, regR t ∈ f.rd) ∧ (∀ t, o.dst = some t → regR t ∈ f.wr) ∧
    ((want ops o s.regs = some false ∧ f.wr = (dstTmp o).map regR ∧ s1 = s.putR o.dst AV.undef) ∨
     (want ops o s.regs = some true ∧ ∃ c v s', touches esc s.regs o = some c ∧ doOp T C esc o (cutSt s o c) = some (v, s') ∧ s.n ≤ s'.n ∧
       (∀ t ∈ tmpsOf o.op.operands.toList, regR t ∈ f.rd) ∧ (∀ t ∈ c.lr, locR t ∈ f.rd) ∧ (c.hr = true → 0 ∈ f.rd) ∧ f.wr = (dstTmp o).map regR ++ c.lw.map locR ++ (if c.hw then [0] else []) ∧
       s1 = { (s.putR o.dst v) with locs := mergeL s.locs s'.locs c.lw, n := s'.n, lo := min s.lo s'.lo, h := if c.hw then s'.h else s.h })) := by
  unfold drawOne at h
  split at h
  · cases h
  · rename_i hw
    split at h
    · rename_i hf
      cases h
      refine ⟨hf, fun t ht => List.mem_map.2 ⟨t, ht, rfl⟩, fun t ht => mem_dst ht, .inl ⟨hw, rfl, rfl⟩⟩
    · cases h
  · rename_i hw
    dsimp only at h
    split at h
    · cases h
    · rename_i c hc
      split at h
      · cases h
      · rename_i v s' hd
        split at h
        · rename_i hf
          simp only [Bool.and_eq_true] at hf
          cases h
          refine ⟨hf.1, fun t ht => ?_, fun t ht => ?_, .inr ⟨hw, c, v, s', hc, hd, Nat.le_of_ble_eq_true hf.2, fun t ht => ?_, fun t ht => ?_, fun hr => ?_, rfl, rfl⟩⟩
          · simp only [List.mem_append, List.mem_map]
            exact .inl (.inl (.inr ⟨t, ht, rfl⟩))
          · simp only [List.mem_append]
            exact .inl (.inl (mem_dst ht))
          · simp only [List.mem_append, List.mem_map]
            exact .inl (.inl (.inl ⟨t, ht, rfl⟩))
          · simp only [List.mem_append, List.mem_map]
            exact .inl (.inr ⟨t, ht, rfl⟩)
          · simp only [List.mem_append, hr, if_true]
            exact .inr (by simp)
        · cases h

theorem drawOne_frame {bm : Nat} {o : Oper} {s s1 : St} {f : Fx} (h : drawOne T C esc ops bm o s = some (f, s1)) :
    s.n ≤ s1.n ∧ s1.lo ≤ s.lo ∧ s1.nt = s.nt ∧ ∀ x : Fact, x.at s1 → x.res ∉ f.wr → x.at s := by
  obtain ⟨hfit, _, hdst, ⟨_, hwr, rfl⟩ | ⟨_, c, v, s', hc, hd, hn, _, _, _, hwr, rfl⟩⟩ := drawOne_cases h
  · obtain ⟨e1, e2, e3, e4, e5⟩ := putR_rest s o.dst AV.undef
    refine ⟨by rw [e3]; exact Nat.le_refl _, by rw [e4]; exact Nat.le_refl _, e5, ?_⟩
    intro x hx hr
    cases x with
    | reg t u =>
      rcases putR_get hx with ⟨h1, _⟩ | ⟨_, h2⟩
      · exact absurd (hdst t h1) hr
      · exact h2
    | blk b y => simp only [Fact.at] at hx ⊢; rw [e1] at hx; exact hx
    | loc t g cs => simp only [Fact.at] at hx ⊢; rw [e2] at hx; exact hx
  · refine ⟨hn, Nat.min_le_left _ _, (putR_rest s o.dst v).2.2.2.2, ?_⟩
    intro x hx hr
    cases x with
    | reg t u =>
      rcases putR_get hx with ⟨h1, _⟩ | ⟨_, h2⟩
      · exact absurd (hdst t h1) hr
      · exact h2
    | blk b y =>
      simp only [Fact.at] at hx ⊢
      split at hx
      · rename_i hw
        exfalso; apply hr
        rw [hwr]
        simp [Fact.res, hw]
      · exact hx
    | loc t g cs =>
      simp only [Fact.at] at hx ⊢
      rcases mergeL_get hx with ⟨h1, _⟩ | ⟨_, h2⟩
      · exfalso; apply hr
        rw [hwr]
        simp only [List.mem_append, List.mem_map]
        exact .inl (.inr ⟨t, h1, rfl⟩)
      · exact h2
end

section
variable {ops : Array Oper} {st : Nat → St} {fx : Nat → Fx}
def Cons (ops : Array Oper) (fx : Nat → Fx) (S : Nat → Bool) (k x : Nat) : Prop :=
  (∀ j, j < k → j < ops.size → S j = false → x ∉ (fx j).wr) ∧ (∀ j, k ≤ j → j < ops.size → S j = true → x ∉ (fx j).wr)
structure Line (T : Tab) (C : FuncId → Fun) (esc : List Tmp) (ops : Array Oper) (st : Nat → St) (fx : Nat → Fx) : Prop where
  on : ∀ k o, ops[k]? = some o → ∀ e ∈ o.after.toList, Region.binds .any e = true → e.on < k
  bits : ∀ k o, ops[k]? = some o → ∀ j, (fx k).bm.testBit j = true → ∃ e ∈ o.after.toList, Region.binds .any e = true ∧ (j = e.on ∨ (fx e.on).bm.testBit j = true)
  one : ∀ k o, ops[k]? = some o → drawOne T C esc ops.toList (fx k).bm o (st k) = some (fx k, st (k + 1))
  apart : ∀ j k, j < k → k < ops.size → (fx k).bm.testBit j = false → clash (fx j) (fx k) = false
theorem drawn_line {T : Tab} {C : FuncId → Fun} {esc : List Tmp} {s s' : St} (h : drawn T C esc ops.toList s = some s') : ∃ st fx, st 0 = s ∧ st ops.size = s' ∧ Line T C esc ops st fx := by
  obtain ⟨st, fx, h0, h1, h2⟩ := drawAll_line (done := []) h
  refine ⟨st, fx, h0, h1, ⟨fun k o hk => ?_, fun k o hk => ?_, fun k o hk => ?_, fun j k hjk hk hb => ?_⟩⟩
  · have := (h2 k o (by simpa using hk)).1
    simp only [List.nil_append, Nat.zero_add] at this
    exact (edgeMask_bits this).1
  · have := (h2 k o (by simpa using hk)).1
    simp only [List.nil_append, Nat.zero_add] at this
    intro j hj
    rcases (edgeMask_bits this).2 j hj with h3 | ⟨e, he, hb, h3⟩
    · simp at h3
    · refine ⟨e, he, hb, ?_⟩
      rcases h3 with h3 | ⟨b, hb', h3⟩
      · exact .inl h3
      · have hlt := (edgeMask_bits this).1 e he hb
        rw [List.map_map, List.getElem?_map, List.getElem?_range hlt] at hb'
        simp at hb'
        subst hb'
        exact .inr h3
  · exact (h2 k o (by simpa using hk)).2.1
  · obtain ⟨o, ho⟩ : ∃ o, ops.toList[k]? = some o := ⟨ops.toList[k]'(by simpa using hk), List.getElem?_eq_getElem (by simpa using hk)⟩
    have := (h2 k o ho).2.2
    simp only [List.nil_append] at this
    exact clashes_none this (j := j) (by rw [List.getElem?_map, List.getElem?_range hjk]; rfl) (by rw [Nat.zero_add]; exact hb)
variable {T : Tab} {C : FuncId → Fun} {esc : List Tmp}
theorem Line.frame (L : Line T C esc ops st fx) {k : Nat} (hk : k < ops.size) : (st k).n ≤ (st (k + 1)).n ∧ (st (k + 1)).lo ≤ (st k).lo ∧ (st (k + 1)).nt = (st k).nt ∧ ∀ x : Fact, x.at (st (k + 1)) → x.res ∉ (fx k).wr → x.at (st k) :=
  drawOne_frame (L.one k _ (Array.getElem?_eq_getElem hk))
theorem Line.chain (L : Line T C esc ops st fx) {k : Nat} : ∀ {d : Nat}, k + d ≤ ops.size → (st k).n ≤ (st (k + d)).n ∧ (st (k + d)).lo ≤ (st k).lo ∧ (st (k + d)).nt = (st k).nt ∧ ∀ x : Fact, x.at (st (k + d)) → (∀ j, k ≤ j → j < k + d → x.res ∉ (fx j).wr) → x.at (st k)
  | 0, _ => ⟨Nat.le_refl _, Nat.le_refl _, rfl, fun x h _ => h⟩
  | d + 1, h => by
    obtain ⟨a1, a2, a3, a4⟩ := L.chain (k := k) (d := d) (by omega)
    obtain ⟨b1, b2, b3, b4⟩ := L.frame (k := k + d) (by omega)
    refine ⟨Nat.le_trans a1 b1, Nat.le_trans b2 a2, b3.trans a3, fun x hx hj => a4 x (b4 x hx (hj _ (by omega) (by omega))) (fun j h1 h2 => hj j h1 (by omega))⟩
theorem Line.upTo (L : Line T C esc ops st fx) {k k' : Nat} (h : k ≤ k') (hk : k' ≤ ops.size) : (st k).n ≤ (st k').n ∧ (st k').lo ≤ (st k).lo ∧ (st k').nt = (st k).nt ∧ ∀ x : Fact, x.at (st k') → (∀ j, k ≤ j → j < k' → x.res ∉ (fx j).wr) → x.at (st k) := by
  have := L.chain (k := k) (d := k' - k) (by omega)
  rw [show k + (k' - k) = k' by omega] at this
  exact this
end

end Am
end Go.Proofs.YtdmfdclkpdliaaaGreatDoor
