/- Each operation of the abstract machine is what the model does: part two: operators, parts, bounds. No condition. -/
import Derived.Test.YtdmfdclkpdliaaaGreatDoorOps
namespace Go.Proofs.YtdmfdclkpdliaaaGreatDoor
namespace Am
open Go

section
variable {P : Program} {w : World} {T : Tab}
theorem eqAt_guard {φ : Phi} (tok : TabOk P T) {d : Nat} {t : TypeId} {x y : AV} {b : Bool} (h : eqAt T (d + 1) t x y = some b) {x' y' : Value} (hx : VR φ x x') (hy : VR φ y y') (op : BinOp) (xo yo : Operand) :
    (eqGuard op t xo yo x' y').run P w = .ok () w := by
  simp only [eqAt] at h
  split at h
  · cases h
  · rename_i i hi
    split at h
    all_goals try (cases h; done)
    all_goals (cases hx; cases hy)
    all_goals try (cases op <;> simp [eqGuard]; done)
    split at h
    · exact run_eqGuard_agg w op t xo yo _ _ ((tok.ti _ _ hi).plain_of ‹_›).2
    · cases h
theorem eqAt_eql {φ : Phi} (tok : TabOk P T) {d : Nat} {t : TypeId} {x y : AV} {b : Bool} (h : eqAt T (d + 1) t x y = some b) (hd : d < 10000) {x' y' : Value} (hx : VR φ x x') (hy : VR φ y y') :
    (Go.binOp .eql t x' y').run P w = .ok (.bool b) w ∧ (Go.binOp .neq t x' y').run P w = .ok (.bool (!b)) w := by
  have e := eqAt_run (w := w) tok (d + 1) t x y b h 10000 x' y' (by omega) hx hy
  simp only [eqAt] at h
  split at h
  · cases h
  · rename_i i hi
    split at h
    all_goals try (cases h; done)
    all_goals (cases hx; cases hy)
    all_goals try (constructor <;> simp [Go.binOp, Op.equal, Op.maxDepth, e]; done)
    · split at h
      · rename_i hk
        have := keq_iff hk; subst this
        cases h
        constructor <;> simp [Go.binOp, Op.intCmp, ieq_iff, bne]
      · cases h
    · cases h
      constructor <;> simp [Go.binOp, Op.stringOp, seq_iff]
theorem shift_run {φ : Phi} {op : BinOp} (ho : op = .shl ∨ op = .shr) {k k' : IntKind} {a b : Int} {r : AV} (h : shiftBin op k a b = some r) (t : TypeId) : ∃ v, (Go.binOp op t (.int k a) (.int k' b)).run P w = .ok v w ∧ VR φ r v := by
  unfold shiftBin at h
  split at h
  · cases h
  · rename_i n hn
    have := toNat?_some hn; subst this
    have h0 : ¬ ((n : Int) < 0) := by omega
    rcases ho with rfl | rfl
    all_goals (cases h; exact ⟨_, by simp [Go.binOp, Op.shift, h0], .int _ _⟩)
theorem binop_run {φ : Phi} (tok : TabOk P T) {op : BinOp} {t : TypeId} (x y : Operand) {a b : AV} {a' b' : Value} {r : AV} (h : binop T op t a b = some r) (ha : VR φ a a') (hb : VR φ b b') :
    ∃ v, (eqGuard op t x y a' b').run P w = .ok () w ∧ (Go.binOp op t a' b').run P w = .ok v w ∧ VR φ r v := by
  unfold binop at h
  split at h
  · cases ha; cases hb
    obtain ⟨v, h1, h2⟩ := shift_run (P := P) (w := w) (φ := φ) (.inl rfl) h t
    exact ⟨v, by simp [eqGuard], h1, h2⟩
  · cases ha; cases hb
    obtain ⟨v, h1, h2⟩ := shift_run (P := P) (w := w) (φ := φ) (.inr rfl) h t
    exact ⟨v, by simp [eqGuard], h1, h2⟩
  · cases ha; cases hb
    split at h
    · rename_i hk
      have := keq_iff hk; subst this
      obtain ⟨v, h1, h2⟩ := intBin_run (P := P) (w := w) (φ := φ) h t
      exact ⟨v, by cases op <;> simp [eqGuard], h1, h2⟩
    · cases h
  · cases ha; cases hb
    split at h
    · rename_i s1 s2 hl
      cases h
      refine ⟨.string (⟨⟨s1⟩⟩ ++ ⟨⟨s2⟩⟩), by simp [eqGuard], ?_, ?_⟩
      · have h0 : ¬ (((ByteArray.mk ⟨s1⟩).size + (ByteArray.mk ⟨s2⟩).size : Nat) : Int) > IntKind.i64.max := by
          have e1 : (ByteArray.mk ⟨s1⟩).size = s1.length := rfl
          have e2 : (ByteArray.mk ⟨s2⟩).size = s2.length := rfl
          have e3 : IntKind.i64.max = 9223372036854775807 := by decide
          rw [e1, e2, e3]; omega
        simp only [Go.binOp, Op.stringOp]
        rw [if_neg h0]
        rfl
      · have : (ByteArray.mk ⟨s1⟩ ++ ByteArray.mk ⟨s2⟩) = ByteArray.mk ⟨s1 ++ s2⟩ := by
          apply ByteArray.ext
          simp
        rw [this]; exact .str _
    · cases h
  · cases ha; cases hb
    cases h
    rename_i s1 s2
    exact ⟨.bool (s1 == s2), by simp [eqGuard], by simp [Go.binOp, Op.stringOp], by rw [seq_iff]; exact .bool _⟩
  · cases ha; cases hb
    cases h
    rename_i s1 s2
    exact ⟨.bool (!(s1 == s2)), by simp [eqGuard], by simp [Go.binOp, Op.stringOp], by rw [seq_iff]; exact .bool _⟩
  · split at h
    · rename_i hb0
      cases h
      exact ⟨_, eqAt_guard tok hb0 ha hb _ _ _, (eqAt_eql tok hb0 (by omega) ha hb).1, .bool _⟩
    · cases h
  · split at h
    · rename_i hb0
      cases h
      exact ⟨_, eqAt_guard tok hb0 ha hb _ _ _, (eqAt_eql tok hb0 (by omega) ha hb).2, .bool _⟩
    · cases h
  · cases h
theorem unop_run {φ : Phi} {op : UnOp} {a r : AV} {a' : Value} (h : unop op a = some r) (ha : VR φ a a') : ∃ v, (Op.unary op a').run P w = .ok v w ∧ VR φ r v := by
  unfold unop at h
  split at h
  · cases ha; cases h; exact ⟨_, by simp [Op.unary], .bool _⟩
  · cases ha; cases h; exact ⟨_, by simp [Op.unary, Op.intArith], .int _ _⟩
  · cases ha
    obtain ⟨v, h1, h2⟩ := intBin_run (P := P) (w := w) (φ := φ) h 0
    refine ⟨v, ?_, h2⟩
    rw [← h1]
    simp [Op.unary, Go.binOp]
  · cases h
end

end Am
end Go.Proofs.YtdmfdclkpdliaaaGreatDoor
