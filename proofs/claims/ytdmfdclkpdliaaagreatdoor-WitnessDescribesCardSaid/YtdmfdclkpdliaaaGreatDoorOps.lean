/- Each operation of the abstract machine is what the model does: part one: tables, plain operations, loads, stores, new blocks. No condition. -/
import Derived.Test.YtdmfdclkpdliaaaGreatDoorRel
import Derived.Laws.Entries
import Derived.ChangeKeysEq
import Derived.Laws.StructEq
import Derived.Laws.BytesString
namespace Go.Proofs.YtdmfdclkpdliaaaGreatDoor
namespace Am
open Go

/- constants -/
theorem AV.ofList_sound {φ : Phi} {F : Value → Option AV} (hF : ∀ v a, F v = some a → VR φ a v) : ∀ (l : List Value) (r : List AV), AV.ofList F l = some r → VRs φ r l
  | [], r, h => by simp [AV.ofList] at h; subst h; exact .nil
  | v :: l, r, h => by
    simp only [AV.ofList] at h
    split at h
    · rename_i a ha
      split at h
      · rename_i s hs
        cases h
        exact .cons (hF v a ha) (AV.ofList_sound hF l s hs)
      · cases h
    · cases h
theorem AV.ofD_sound {φ : Phi} : ∀ (d : Nat) (v : Value) (a : AV), AV.ofD d v = some a → VR φ a v := by
  intro d
  induction d with
  | zero =>
    intro v a h
    unfold AV.ofD at h
    split at h <;> first | (cases h; constructor) | (exfalso; omega) | cases h
  | succ d ih =>
    intro v a h
    unfold AV.ofD at h
    split at h <;> first | (cases h; constructor; done) | skip
    · rename_i cs hd
      split at h
      · rename_i l hl
        split at h
        · rename_i h1
          cases h
          cases hd
          have := VR.agg (AV.ofList_sound ih _ _ hl) h1
          simpa using this
        · cases h
      · cases h
    · cases h
theorem AV.ofV_sound {φ : Phi} {v : Value} {a : AV} (h : AV.ofV v = some a) : VR φ a v := AV.ofD_sound 3 v a h

/- a type as the table has it -/
def tdOf : TypeDesc → TD
  | .int k => .int k
  | .bool => .bool
  | .string => .string
  | .pointer _ => .pointer
  | .slice e => .slice e
  | .array n e => .array n e
  | .map k e => .map k e
  | .func .. => .func
  | .struct fs => .struct (fs.toList.map fun f => (f.offset, f.type, f.name == "_"))
  | _ => .other
structure TiOk (P : Program) (t : TypeId) (i : TI) : Prop where
  ex : ∃ d inf z, P.underlying t = some d ∧ i.td = tdOf d ∧ P.info? t = some inf ∧ inf.size = i.size ∧ inf.bytes = i.bytes ∧ inf.zero = some z ∧ (∀ φ, VRs φ i.zero z.cells.toList) ∧ i.agg = d.isRow ∧ i.zero.all AV.one = true ∧ i.zero.length = i.size ∧
    (i.plain = true → P.stoodInHeld t = false ∧ P.eqGuardType P.depth t = false) ∧ (∀ φ r, shaped i.agg i.zero = some r → VR φ r z)
def zeroFits (z : Value) (b : Bool) : Bool :=
  match z with
  | .agg _ => b
  | .tuple _ => false
  | _ => !b
def tiGet (P : Program) (t : TypeId) : Option TI :=
  match P.underlying t, P.info? t with
  | some d, some inf => match inf.zero with
    | some z => match AV.ofList (AV.ofD 3) z.cells.toList with
      | some zs => if zs.all AV.one && Nat.beq zs.length inf.size && zeroFits z d.isRow then some { td := tdOf d, size := inf.size, bytes := inf.bytes, zero := zs, agg := d.isRow, plain := (match d with | .struct _ => !P.stoodInHeld t && !P.eqGuardType P.depth t | _ => false) } else none
      | none => none
    | none => none
  | _, _ => none
theorem tiGet_ok {P : Program} {t : TypeId} {i : TI} (h : tiGet P t = some i) : TiOk P t i := by
  unfold tiGet at h
  split at h
  · rename_i d inf hd hi
    split at h
    · rename_i z hz
      split at h
      · rename_i zs hzs
        split at h
        · rename_i hc
          cases h
          simp only [Bool.and_eq_true] at hc
          have hzv : ∀ φ, VRs φ zs z.cells.toList := fun φ => AV.ofList_sound (fun v a => AV.ofD_sound 3 v a) _ _ hzs
          refine ⟨d, inf, z, hd, rfl, hi, rfl, rfl, hz, hzv, rfl, hc.1.1, Nat.eq_of_beq_eq_true hc.1.2, fun hp => ?_, fun φ r hr => ?_⟩
          · simp only at hp
            split at hp
            · simpa using hp
            · cases hp
          · have hv := hzv φ
            have hf := hc.2
            simp only at hr
            unfold zeroFits at hf
            split at hf
            · rename_i cs
              rw [hf] at hr
              simp only [shaped, if_true] at hr
              cases hr
              have := VR.agg hv hc.1.1
              simpa [Value.cells] using this
            · cases hf
            · rename_i h1 h2
              have hb : d.isRow = false := by simpa using hf
              rw [hb] at hr
              simp only [shaped, Bool.false_eq_true, if_false] at hr
              split at hr
              · cases hr
                have hcell : z.cells.toList = [z] := by
                  cases z <;> first | rfl | (exact absurd rfl (h1 _))
                rw [hcell] at hv
                cases hv with
                | cons h _ => exact h
              · cases hr
        · cases h
      · cases h
    · cases h
  · cases h

structure TabOk (P : Program) (T : Tab) : Prop where
  ti : ∀ t i, T.ti t = some i → TiOk P t i

/- runs of the model's small words -/
section
variable {P : Program} {w : World}
theorem TiOk.under {t : TypeId} {i : TI} (h : TiOk P t i) : ∃ d, P.underlying t = some d ∧ i.td = tdOf d ∧ i.agg = d.isRow := by
  obtain ⟨d, inf, z, h1, h2, h3, h4, h5, h6, h7, h8, h9, h10⟩ := h.ex
  exact ⟨d, h1, h2, h8⟩
theorem TiOk.run_size {t : TypeId} {i : TI} (h : TiOk P t i) (w : World) : (sizeOf t).run P w = .ok i.size w := by
  obtain ⟨d, inf, z, h1, h2, h3, h4, h5, h6, h7, h8, h9, h10⟩ := h.ex
  simp [sizeOf, typeInfo, h3, h4]
theorem TiOk.run_bytes {t : TypeId} {i : TI} (h : TiOk P t i) (w : World) : ∃ inf, (typeInfo t).run P w = .ok inf w ∧ inf.bytes = i.bytes ∧ inf.size = i.size := by
  obtain ⟨d, inf, z, h1, h2, h3, h4, h5, h6, h7, h8, h9, h10⟩ := h.ex
  exact ⟨inf, by simp [typeInfo, h3], h5, h4⟩
theorem TiOk.run_zero {t : TypeId} {i : TI} (h : TiOk P t i) (w : World) : ∃ z, (zeroValue t).run P w = .ok z w ∧ (∀ φ, VRs φ i.zero z.cells.toList) ∧ i.zero.all AV.one = true ∧ i.zero.length = i.size := by
  obtain ⟨d, inf, z, h1, h2, h3, h4, h5, h6, h7, h8, h9, h10, h11⟩ := h.ex
  exact ⟨z, by simp [zeroValue, typeInfo, h3, h6], h7, h9, h10⟩
theorem TiOk.run_agg {t : TypeId} {i : TI} (h : TiOk P t i) (w : World) : (isAgg t).run P w = .ok i.agg w := by
  obtain ⟨d, h1, h2, h3⟩ := h.under
  rw [h3]
  cases d <;> simp [isAgg, run_underlying h1]
theorem TiOk.plain_of {t : TypeId} {i : TI} (h : TiOk P t i) (hp : i.plain = true) : P.stoodInHeld t = false ∧ P.eqGuardType P.depth t = false := by
  obtain ⟨d, inf, z, h1, h2, h3, h4, h5, h6, h7, h8, h9, h10, h11, h12⟩ := h.ex
  exact h11 hp

/- a part of an aggregate -/
theorem partOf_run {φ : Phi} {t : TypeId} {i : TI} (h : TiOk P t i) {cs : List AV} {cs' : List Value} (hc : VRs φ cs cs') (h1 : cs.all AV.one = true) {off : Nat} {a : AV} (e : partOf i.agg i.size cs off = some a) (w : World) :
    ∃ v, (part t cs'.toArray off).run P w = .ok v w ∧ VR φ a v := by
  unfold partOf at e
  unfold part
  simp only [Sem.run_bind, h.run_agg, Result.andThen_ok]
  cases ha : i.agg with
  | true =>
    rw [ha] at e
    simp only [if_true] at e
    split at e
    · cases e
      refine ⟨.agg ((cs'.drop off).take i.size).toArray, ?_, .agg ((hc.drop off).take i.size) ?_⟩
      · simp [h.run_size, List.extract]
      · exact List.all_eq_true.2 fun x hx => List.all_eq_true.1 h1 x (List.mem_of_mem_drop (List.mem_of_mem_take hx))
    · cases e
  | false =>
    rw [ha] at e
    simp only [Bool.false_eq_true, if_false] at e
    obtain ⟨u, hu, hv⟩ := hc.get e
    exact ⟨u, by simp [hu], hv⟩
end

theorem ilt_iff {a b : Int} : ilt a b = decide (a < b) := by
  rw [Bool.eq_iff_iff, decide_eq_true_iff]
  cases a with
  | ofNat a => cases b with
    | ofNat b => show Nat.blt a b = true ↔ _; rw [Nat.blt_eq]; exact Int.ofNat_lt.symm
    | negSucc b => show false = true ↔ _; rw [Int.negSucc_eq]; simp; omega
  | negSucc a => cases b with
    | ofNat b => show true = true ↔ _; rw [Int.negSucc_eq]; simp; omega
    | negSucc b => show Nat.blt b a = true ↔ _; rw [Nat.blt_eq, Int.negSucc_eq, Int.negSucc_eq]; omega
theorem ieq_iff {a b : Int} : ieq a b = (a == b) := by
  rw [Bool.eq_iff_iff, beq_iff_eq]
  cases a with
  | ofNat a => cases b with
    | ofNat b => show Nat.beq a b = true ↔ _; rw [Nat.beq_eq]; exact Int.ofNat_inj.symm
    | negSucc b => show false = true ↔ _; simp
  | negSucc a => cases b with
    | ofNat b => show false = true ↔ _; simp
    | negSucc b => show Nat.beq a b = true ↔ _; rw [Nat.beq_eq]; simp
theorem keq_iff {a b : IntKind} (h : keq a b = true) : a = b := by cases a <;> cases b <;> first | rfl | cases h
theorem toNat?_some {a : Int} {n : Nat} (h : toNat? a = some n) : a = n := by
  cases a <;> simp [toNat?] at h; subst h; rfl

theorem seq_iff : ∀ {a b : List UInt8}, seq a b = (a == b)
  | [], [] => rfl
  | [], _ :: _ => rfl
  | _ :: _, [] => rfl
  | a :: r, b :: s => by
    show (if beq8 a b then seq r s else false) = _
    rw [seq_iff]
    by_cases h : a = b
    · subst h
      have : beq8 a a = true := by unfold beq8; exact Nat.beq_refl _
      simp [this]
    · have : beq8 a b = false := by
        unfold beq8
        rw [← Bool.not_eq_true, Nat.beq_eq]
        exact fun hh => h (UInt8.toNat_inj.1 hh)
      simp [this, h]
theorem bytes_toList (l : List UInt8) : (ByteArray.mk ⟨l⟩).toList = l := by rw [ByteArray.toList_eq]
theorem bytes_beq (a b : List UInt8) : (ByteArray.mk ⟨a⟩ == ByteArray.mk ⟨b⟩) = (a == b) := by
  rw [beq_toListBytes, bytes_toList, bytes_toList]

theorem nieq_iff {a b : Int} : (!ieq a b) = (a != b) := by rw [ieq_iff]; rfl
theorem nilt_iff {a b : Int} : (!ilt a b) = decide (b ≤ a) := by rw [ilt_iff, Bool.eq_iff_iff]; simp
section
variable {P : Program} {w : World}
theorem intBin_run {φ : Phi} {op : BinOp} {k : IntKind} {a b : Int} {r : AV} (h : intBin op k a b = some r) (t : TypeId) : ∃ v, (Go.binOp op t (.int k a) (.int k b)).run P w = .ok v w ∧ VR φ r v := by
  cases op <;> simp only [intBin] at h <;> first
    | (cases h; refine ⟨_, ?_, .int _ _⟩; simp [Go.binOp, Op.intArith, Op.intBits]; done)
    | (simp only [ieq_iff, ilt_iff] at h; cases h; refine ⟨_, ?_, .bool _⟩; simp [Go.binOp, Op.intCmp]; done)
    | (cases h; refine ⟨.bool (a != b), by simp [Go.binOp, Op.intCmp], ?_⟩; rw [nieq_iff]; exact .bool _)
    | (cases h; refine ⟨.bool (decide (a ≤ b)), by simp [Go.binOp, Op.intCmp], ?_⟩; rw [nilt_iff]; exact .bool _)
    | (cases h; refine ⟨.bool (decide (b ≤ a)), by simp [Go.binOp, Op.intCmp], ?_⟩; rw [nilt_iff]; exact .bool _)
    | cases h
    | (split at h
       · cases h
       · rename_i h0
         cases h
         rw [ieq_iff] at h0
         have h1 : b ≠ 0 := by simpa using h0
         refine ⟨_, ?_, .int _ _⟩
         simp [Go.binOp, Op.intDiv, h1])
end

section
variable {P : Program} {w : World} {T : Tab}
/- equality at a type of plain parts -/
theorem eqFields_run {φ : Phi} (tok : TabOk P T) {E : TypeId → AV → AV → Option Bool} {d : Nat}
    (hE : ∀ t x y b, E t x y = some b → ∀ x' y', VR φ x x' → VR φ y y' → (Op.equalIn d t x' y').run P w = .ok b w) :
    ∀ (fs : List Field) (xs ys : List AV) (xs' ys' : List Value) (b : Bool), eqFields T E (fs.map fun f => (f.offset, f.type, f.name == "_")) xs ys = some b →
      VRs φ xs xs' → VRs φ ys ys' → xs.all AV.one = true → ys.all AV.one = true → (Op.eqFields d xs'.toArray ys'.toArray fs).run P w = .ok b w
  | [], xs, ys, xs', ys', b, h, _, _, _, _ => by simp [eqFields] at h; subst h; simp [Op.eqFields]
  | f :: fs, xs, ys, xs', ys', b, h, hx, hy, h1, h2 => by
    simp only [List.map_cons, eqFields] at h
    simp only [Op.eqFields]
    by_cases hb : f.name = "_"
    · rw [if_pos (by simpa using hb)] at h
      rw [if_neg (by simpa using hb)]
      exact eqFields_run tok hE fs xs ys xs' ys' b h hx hy h1 h2
    · rw [if_neg (by simpa using hb)] at h
      rw [if_pos (by simpa using hb)]
      split at h
      · cases h
      · rename_i fi hfi
        split at h
        · rename_i a c ha hc
          obtain ⟨va, r1, v1⟩ := partOf_run (tok.ti _ _ hfi) hx h1 ha w
          obtain ⟨vc, r2, v2⟩ := partOf_run (tok.ti _ _ hfi) hy h2 hc w
          simp only [Sem.run_bind, r1, r2, Result.andThen_ok]
          split at h
          · rename_i he
            rw [hE _ _ _ _ he _ _ v1 v2]
            simp only [Result.andThen_ok, Bool.not_true, Bool.false_eq_true, if_false]
            exact eqFields_run tok hE fs xs ys xs' ys' b h hx hy h1 h2
          · rename_i he
            cases h
            rw [hE _ _ _ _ he _ _ v1 v2]
            simp
          · cases h
        · cases h
theorem eqAt_run {φ : Phi} (tok : TabOk P T) : ∀ (d : Nat) (t : TypeId) (x y : AV) (b : Bool), eqAt T d t x y = some b → ∀ D x' y', d ≤ D → VR φ x x' → VR φ y y' → (Op.equalIn D t x' y').run P w = .ok b w := by
  intro d
  induction d with
  | zero => intro t x y b h; simp [eqAt] at h
  | succ d ih =>
    intro t x y b h D x' y' hD hx hy
    obtain ⟨D, rfl⟩ : ∃ k, D = k + 1 := ⟨D - 1, by omega⟩
    simp only [eqAt] at h
    split at h
    · cases h
    · rename_i i hi
      have tk := tok.ti _ _ hi
      obtain ⟨de, hu, htd, _⟩ := tk.under
      split at h
      all_goals try (cases h; done)
      all_goals rename_i e1
      all_goals (cases hx; cases hy)
      all_goals (rw [htd] at e1; cases de <;> simp only [tdOf] at e1 <;> first | cases e1 | skip)
      all_goals first
        | (cases h; simp [Op.equalIn, run_underlying hu]; done)
        | skip
      · split at h
        · rename_i hk
          cases h
          have := keq_iff hk
          simp [Op.equalIn, run_underlying hu, this, ieq_iff]
        · cases h
      · cases h
        simp [Op.equalIn, run_underlying hu, bytes_beq, seq_iff]
      · split at h
        · rename_i hp
          rename_i xs ys xs' hxs h1 ys' hys h2 fs _
          have hf : P.fieldsOf t = fs := by simp [Program.fieldsOf, hu]
          rw [run_equalIn_struct w D t _ _ (by rw [hf]; exact hu) (tk.plain_of hp).1, hf]
          exact eqFields_run tok (fun t x y b hb x' y' hx hy => ih t x y b hb D x' y' (by omega) hx hy) _ _ _ _ _ _ h hxs hys h1 h2
        · cases h
end

end Am
end Go.Proofs.YtdmfdclkpdliaaaGreatDoor
