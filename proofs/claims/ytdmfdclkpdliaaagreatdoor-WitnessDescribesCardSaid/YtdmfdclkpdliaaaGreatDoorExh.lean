/- The abstract machine's regions of open order: what is kept from operation to operation. No condition. -/
import Derived.Test.YtdmfdclkpdliaaaGreatDoorExg
namespace Go.Proofs.YtdmfdclkpdliaaaGreatDoor
namespace Am
open Go

structure Inv (ops : Array Oper) (st : Nat → St) (fx : Nat → Fx) (φ0 : Phi) (w0 : World) (S : Nat → Bool) (φ : Phi) (a : Act) (w : World) : Prop where
  ok : ∀ (k : Nat) (f : Fact), k ≤ ops.size → f.at (st k) → Cons ops fx S k f.res → f.ok (st k).n φ a w
  apart : ∀ (k k' : Nat) (f f' : Fact) (b b' B z z' : Nat), k ≤ ops.size → k' ≤ ops.size → f.at (st k) → Cons ops fx S k f.res → f'.at (st k') → Cons ops fx S k' f'.res → f.name = some b → f'.name = some b' → φ b = some (B, z) → φ b' = some (B, z') → b = b' ∧ f.res = f'.res
  closed : ∀ k, S k = true → ∀ j, (fx k).bm.testBit j = true → S j = true
  fresh : ∀ k, k < ops.size → S k = false → ∀ b, (st k).n ≤ b → b < (st (k + 1)).n → φ b = none
  tmps : a.tmps.size = (st 0).nt
  defers : a.defers = []
  ext : φ0.le φ
  new : ∀ b, ¬((st 0).n ≤ b ∧ b < (st ops.size).n) → φ b = φ0 b
  os : w.os = w0.os
  tape : w.tape = w0.tape
  output : w.output = w0.output
  size : w0.heap.size ≤ w.heap.size
  fr : ∀ B, B < w0.heap.size → (∀ b z, ((st 0).hl b ∧ (st ops.size).lo ≤ b) ∨ (st 0).ll b → φ0 b ≠ some (B, z)) → w.heap[B]? = w0.heap[B]?
  own : ∀ (k : Nat) (f : Fact) (b B z : Nat), k ≤ ops.size → f.at (st k) → Cons ops fx S k f.res → f.name = some b → φ b = some (B, z) →
    w0.heap.size ≤ B ∨ (f.res = 0 ∧ ∃ b0 z0, (st 0).hl b0 ∧ (st ops.size).lo ≤ b0 ∧ φ0 b0 = some (B, z0)) ∨ (f.res = 0 ∧ (st 0).hl b ∧ φ0 b = some (B, z)) ∨ (f.res ≠ 0 ∧ (st 0).ll b ∧ φ0 b = some (B, z))

theorem Fact.res_blk {f : Fact} {b : Nat} (h : f.name = some b) : (f.res = 0 ∧ ∃ x, f = .blk b x) ∨ (f.res ≠ 0 ∧ ∃ t cs, f = .loc t b cs ∧ f.res = locR t) := by
  cases f with
  | reg t u => cases h
  | blk b' x => cases h; exact .inl ⟨rfl, x, rfl⟩
  | loc t g cs => cases h; exact .inr ⟨by simp [Fact.res, locR], t, cs, rfl, rfl⟩
theorem locR_inj {t t' : Nat} (h : locR t = locR t') : t = t' := by unfold locR at h; omega

section
variable {P : Program} {T : Tab} {C : FuncId → Fun} {esc : List Tmp} {ops : Array Oper} {st : Nat → St} {fx : Nat → Fx} {φ0 φ φ' : Phi} {w0 w w' : World} {S : Nat → Bool} {a : Act}

theorem Inv.start (L : Line T C esc ops st fx) (m : Mem φ0 (st 0) w0) (r : Regs φ0 (st 0) a) (hf : ∀ b, (st 0).n ≤ b → b < (st ops.size).n → φ0 b = none) : Inv ops st fx φ0 w0 (fun _ => false) φ0 a w0 := by
  have back : ∀ k (f : Fact), k ≤ ops.size → f.at (st k) → Cons ops fx (fun _ => false) k f.res → f.at (st 0) := fun k f hk hf hc =>
    (L.upTo (Nat.zero_le k) hk).2.2.2 f hf (fun j _ hj => hc.1 j hj (by omega) rfl)
  have live : ∀ (f : Fact) b, f.at (st 0) → f.name = some b → (st 0).hl b ∨ (st 0).ll b := by
    intro f b h hn
    rcases Fact.res_blk hn with ⟨_, x, rfl⟩ | ⟨_, t, cs, rfl, _⟩
    · exact .inl ⟨x, h⟩
    · exact .inr ⟨t, cs, h⟩
  refine ⟨fun k f hk hat hc => ?_, fun k k' f f' b b' B z z' hk hk' h1 c1 h2 c2 n1 n2 e1 e2 => ?_, fun k h => by simp at h, fun k hk _ b h1 h2 => hf b ?_ ?_, r.size, r.defers, Phi.le_refl _, fun _ _ => rfl, rfl, rfl, rfl, Nat.le_refl _, fun _ _ _ => rfl, fun k f b B z hk hat hc hn hB => ?_⟩
  · have h0 := back k f hk hat hc
    have hn := (L.upTo (Nat.zero_le k) hk).1
    cases f with
    | reg t u => exact r.get t u h0
    | blk b x => exact ⟨Nat.lt_of_lt_of_le (m.heap b x h0).1 hn, (m.heap b x h0).2⟩
    | loc t g cs => exact ⟨Nat.lt_of_lt_of_le (m.locs t g cs h0).1 hn, (m.locs t g cs h0).2.2⟩
  · have g1 := back k f hk h1 c1
    have g2 := back k' f' hk' h2 c2
    have := m.inj b b' B z z' (live f b g1 n1) (live f' b' g2 n2) e1 e2
    subst this
    refine ⟨rfl, ?_⟩
    rcases Fact.res_blk n1 with ⟨r1, x, rfl⟩ | ⟨r1, t, cs, rfl, r1'⟩ <;> rcases Fact.res_blk n2 with ⟨r2, x', rfl⟩ | ⟨r2, t', cs', rfl, r2'⟩
    · rfl
    · have g1 : (st 0).h.get b = some x := g1
      rw [(m.locs t' b cs' g2).2.1] at g1; cases g1
    · have g2 : (st 0).h.get b = some x' := g2
      rw [(m.locs t b cs g1).2.1] at g2; cases g2
    · have := m.uniq t t' b cs cs' g1 g2
      subst this; rfl
  · exact Nat.le_trans (L.upTo (Nat.zero_le k) (by omega)).1 h1
  · exact Nat.lt_of_lt_of_le h2 (L.upTo (by omega) (Nat.le_refl _)).1
  · have h0 := back k f hk hat hc
    rcases Fact.res_blk hn with ⟨r1, x, rfl⟩ | ⟨r1, t, cs, rfl, r1'⟩
    · exact .inr (.inr (.inl ⟨rfl, ⟨x, h0⟩, hB⟩))
    · exact .inr (.inr (.inr ⟨r1, ⟨t, cs, h0⟩, hB⟩))

theorem Inv.finish (L : Line T C esc ops st fx) (I : Inv ops st fx φ0 w0 S φ a w) (hS : ∀ k, k < ops.size → S k = true) :
    Mem φ (st ops.size) w ∧ Regs φ (st ops.size) a ∧ Mv φ0 (st 0) w0 φ (st ops.size) w := by
  have hc : ∀ x, Cons ops fx S ops.size x := fun x => ⟨fun j h1 _ h3 => absurd ((hS j h1).symm.trans h3) (by simp), fun j h1 h2 => by omega⟩
  have u := L.upTo (Nat.zero_le ops.size) (Nat.le_refl _)
  have live : ∀ b, (st ops.size).hl b ∨ (st ops.size).ll b → ∃ f : Fact, f.at (st ops.size) ∧ f.name = some b := by
    rintro b (⟨x, h⟩ | ⟨t, cs, h⟩)
    · exact ⟨.blk b x, h, rfl⟩
    · exact ⟨.loc t b cs, h, rfl⟩
  refine ⟨⟨fun b x h => I.ok _ (.blk b x) (Nat.le_refl _) h (hc _), fun t g cs h => ?_, fun t t' g cs cs' h h' => ?_, fun b b' B z z' h h' e e' => ?_⟩, ⟨fun t v h => I.ok _ (.reg t v) (Nat.le_refl _) h (hc _), by rw [I.tmps, u.2.2.1], I.defers⟩, ⟨I.ext, I.new, u.1, u.2.1, I.os, I.tape, I.output, I.size, I.fr, fun b B z h e => ?_, fun b B z h e => ?_⟩⟩
  · have h1 := I.ok _ (.loc t g cs) (Nat.le_refl _) h (hc _)
    refine ⟨h1.1, ?_, h1.2⟩
    cases hg : (st ops.size).h.get g with
    | none => rfl
    | some x =>
      obtain ⟨B, z, e1, _⟩ := h1.2.at
      have := (I.apart _ _ (.loc t g cs) (.blk g x) g g B z z (Nat.le_refl _) (Nat.le_refl _) h (hc _) hg (hc _) rfl rfl e1 e1).2
      simp [Fact.res, locR] at this
  · have h1 := I.ok _ (.loc t g cs) (Nat.le_refl _) h (hc _)
    obtain ⟨B, z, e1, _⟩ := h1.2.at
    exact locR_inj (I.apart _ _ (.loc t g cs) (.loc t' g cs') g g B z z (Nat.le_refl _) (Nat.le_refl _) h (hc _) h' (hc _) rfl rfl e1 e1).2
  · obtain ⟨f, f1, f2⟩ := live b h
    obtain ⟨f', f1', f2'⟩ := live b' h'
    exact (I.apart _ _ f f' b b' B z z' (Nat.le_refl _) (Nat.le_refl _) f1 (hc _) f1' (hc _) f2 f2' e e').1
  · obtain ⟨x, h⟩ := h
    rcases I.own _ (.blk b x) b B z (Nat.le_refl _) h (hc _) rfl e with h1 | ⟨_, h1⟩ | ⟨_, h1⟩ | ⟨h1, _⟩
    · exact .inl h1
    · exact .inr (.inr h1)
    · exact .inr (.inl h1)
    · exact absurd rfl h1
  · obtain ⟨t, cs, h⟩ := h
    have hne : locR t ≠ 0 := by simp [locR]
    rcases I.own _ (.loc t b cs) b B z (Nat.le_refl _) h (hc _) rfl e with h1 | ⟨h0, h1⟩ | ⟨h0, h1⟩ | ⟨_, h1⟩
    · exact .inl h1
    · exact absurd h0 hne
    · exact absurd h0 hne
    · exact .inr h1

/- one more operation -/
theorem Inv.step (L : Line T C esc ops st fx) (I : Inv ops st fx φ0 w0 S φ a w) {i : Nat} {o : Oper} (hi : ops[i]? = some o) (hSi : S i = false) (hb : ∀ j, (fx i).bm.testBit j = true → S j = true)
    (hdst : ∀ t, o.dst = some t → regR t ∈ (fx i).wr) {v' : Value}
    (s1 : ∀ f : Fact, f.at (st (i + 1)) → f.res ∈ (fx i).wr → f.ok (st (i + 1)).n φ' (a.put o.dst v') w')
    (s3 : ∀ (f f' : Fact) b b' B z z', f.at (st (i + 1)) → f.res ∈ (fx i).wr → f'.at (st (i + 1)) → f'.res ∈ (fx i).wr → f.name = some b → f'.name = some b' → φ' b = some (B, z) → φ' b' = some (B, z') → b = b' ∧ f.res = f'.res)
    (s4 : ∀ (f : Fact) b B z, f.at (st (i + 1)) → f.res ∈ (fx i).wr → f.name = some b → φ' b = some (B, z) → w.heap.size ≤ B ∨ ∃ (f0 : Fact) (b0 z0 : Nat), f0.at (st i) ∧ f0.res = f.res ∧ f0.name = some b0 ∧ φ b0 = some (B, z0) ∧ ((b0 = b ∧ z0 = z) ∨ (f.res = 0 ∧ (st ops.size).lo ≤ b0)))
    (ext : φ.le φ') (new : ∀ b, ¬((st i).n ≤ b ∧ b < (st (i + 1)).n) → φ' b = φ b) (os : w'.os = w.os) (tape : w'.tape = w.tape) (output : w'.output = w.output) (size : w.heap.size ≤ w'.heap.size)
    (fr : ∀ B, B < w.heap.size → (∀ (f : Fact) b z, f.at (st i) → f.res ∈ (fx i).wr → f.name = some b → (f.res = 0 → (st ops.size).lo ≤ b) → φ b ≠ some (B, z)) → w'.heap[B]? = w.heap[B]?) :
    Inv ops st fx φ0 w0 (fun j => decide (j = i) || S j) φ' (a.put o.dst v') w' := by
  have hin : i < ops.size := (Array.getElem?_eq_some_iff.1 hi).1
  have cw : ∀ j, i < j → j < ops.size → S j = true → ∀ x, x ∈ (fx i).wr → x ∉ (fx j).wr ∧ x ∉ (fx j).rd := by
    intro j h1 h2 h3 x hx
    have hbit : (fx j).bm.testBit i = false := by
      cases hq : (fx j).bm.testBit i with
      | false => rfl
      | true => rw [I.closed j h3 i hq] at hSi; cases hSi
    have hc := L.apart i j h1 h2 hbit
    simp only [clash, Bool.or_eq_false_iff] at hc
    exact ⟨meets_none hc.1.2 hx, meets_none hc.1.1 hx⟩
  have consW : ∀ x, x ∈ (fx i).wr → Cons ops fx S i x := by
    intro x hx
    refine ⟨fun j h1 h2 h3 hj => ?_, fun j h1 h2 h3 => ?_⟩
    · have hbit : (fx i).bm.testBit j = false := by
        cases hq : (fx i).bm.testBit j with
        | false => rfl
        | true => rw [hb j hq] at h3; cases h3
      have hc := L.apart j i h1 hin hbit
      simp only [clash, Bool.or_eq_false_iff] at hc
      exact meets_none hc.1.2 hj hx
    · have : i ≠ j := fun e => by subst e; rw [hSi] at h3; cases h3
      exact (cw j (by omega) h2 h3 x hx).1
  have consOld : ∀ k x, x ∉ (fx i).wr → Cons ops fx (fun j => decide (j = i) || S j) k x → Cons ops fx S k x := by
    intro k x hx hc
    refine ⟨fun j h1 h2 h3 => ?_, fun j h1 h2 h3 => hc.2 j h1 h2 (by simp [h3])⟩
    by_cases hji : j = i
    · subst hji; exact hx
    · exact hc.1 j h1 h2 (by simp [hji, h3])
  have toNew : ∀ k (f : Fact), k ≤ ops.size → f.at (st k) → f.res ∈ (fx i).wr → Cons ops fx (fun j => decide (j = i) || S j) k f.res → f.at (st (i + 1)) ∧ (st (i + 1)).n ≤ (st k).n := by
    intro k f hk hat hx hc
    have hik : i < k := by
      rcases Nat.lt_or_ge i k with h | h
      · exact h
      · exact absurd hx (hc.2 i h hin (by simp))
    have u := L.upTo (show i + 1 ≤ k by omega) hk
    refine ⟨u.2.2.2 f hat (fun j h1 h2 => ?_), u.1⟩
    cases hj : S j with
    | true => exact (cw j (by omega) (by omega) hj _ hx).1
    | false => exact hc.1 j h2 (by omega) (by simp [hj]; omega)
  have hlt : ∀ k (f : Fact) b, k ≤ ops.size → f.at (st k) → Cons ops fx S k f.res → f.name = some b → ∃ B z, φ b = some (B, z) ∧ B < w.heap.size ∧ φ' b = some (B, z) := by
    intro k f b hk hat hc hn
    have h := I.ok k f hk hat hc
    rcases Fact.res_blk hn with ⟨_, x, rfl⟩ | ⟨_, t, cs, rfl, _⟩
    · obtain ⟨B, z, h1, h2⟩ := h.2.at
      exact ⟨B, z, h1, h2, ext _ _ h1⟩
    · obtain ⟨B, z, h1, h2⟩ := h.2.at
      exact ⟨B, z, h1, h2, ext _ _ h1⟩
  have keep : ∀ k (f : Fact) b B z, k ≤ ops.size → f.at (st k) → Cons ops fx S k f.res → f.res ∉ (fx i).wr → f.name = some b → φ b = some (B, z) → w'.heap[B]? = w.heap[B]? := by
    intro k f b B z hk hat hc hx hn hB
    obtain ⟨B2, z2, h1, h2, _⟩ := hlt k f b hk hat hc hn
    rw [hB] at h1; cases h1
    refine fr B h2 (fun f0 b0 z0 g1 g2 g3 _ g5 => ?_)
    have := (I.apart i k f0 f b0 b B z0 z (by omega) hk g1 (consW _ g2) hat hc g3 hn g5 hB).2
    exact hx (this ▸ g2)
  -- what a name is
  have cross : ∀ k (f f' : Fact) b b' B z z', k ≤ ops.size → f.at (st (i + 1)) → f.res ∈ (fx i).wr → f'.at (st k) → Cons ops fx S k f'.res → f'.res ∉ (fx i).wr → f.name = some b → f'.name = some b' → φ' b = some (B, z) → φ' b' = some (B, z') → False := by
    intro k f f' b b' B z z' hk h1 h2 h3 h4 h5 h6 h7 h8 h9
    obtain ⟨B2, z2, g1, g2, g3⟩ := hlt k f' b' hk h3 h4 h7
    rw [h9] at g3; cases g3
    rcases s4 f b B z h1 h2 h6 h8 with g | ⟨f0, b0, z0, q1, q2, q3, q4, _⟩
    · omega
    · have := (I.apart i k f0 f' b0 b' B z0 z' (by omega) hk q1 (consW _ (q2 ▸ h2)) h3 h4 q3 h7 q4 g1).2
      exact h5 (this ▸ q2 ▸ h2)
  have newLe : ∀ k, k ≤ ops.size → (st 0).n ≤ (st k).n := fun k hk => (L.upTo (Nat.zero_le k) hk).1
  refine ⟨fun k f hk hat hc => ?_, fun k k' f f' b b' B z z' hk hk' h1 c1 h2 c2 n1 n2 e1 e2 => ?_, fun k hk j hj => ?_, fun k hk hSk b h1 h2 => ?_, by rw [Act.put_size]; exact I.tmps, by rw [Act.put_defers]; exact I.defers, Phi.le_trans I.ext ext, fun b hb' => ?_, os.trans I.os, tape.trans I.tape, output.trans I.output, Nat.le_trans I.size size, fun B hB h => ?_, fun k f b B z hk hat hc hn hB => ?_⟩
  · by_cases hx : f.res ∈ (fx i).wr
    · obtain ⟨g1, g2⟩ := toNew k f hk hat hx hc
      have := s1 f g1 hx
      cases f with
      | reg t u => exact this
      | blk b x => exact ⟨Nat.lt_of_lt_of_le this.1 g2, this.2⟩
      | loc t g cs => exact ⟨Nat.lt_of_lt_of_le this.1 g2, this.2⟩
    · have hc' := consOld k _ hx hc
      have := I.ok k f hk hat hc'
      cases f with
      | reg t u =>
        have hne : o.dst ≠ some t := fun e => hx (hdst t e)
        show VR φ' u ((a.put o.dst v').eval (.tmp t))
        rw [Act.put_eval a hne]
        exact VR.mono ext this
      | blk b x => exact ⟨this.1, this.2.keep ext (fun B z hB => keep k (.blk b x) b B z hk hat hc' hx rfl hB)⟩
      | loc t g cs => exact ⟨this.1, this.2.keep ext (fun B z hB => keep k (.loc t g cs) g B z hk hat hc' hx rfl hB)⟩
  · by_cases hx : f.res ∈ (fx i).wr <;> by_cases hx' : f'.res ∈ (fx i).wr
    · exact s3 f f' b b' B z z' (toNew k f hk h1 hx c1).1 hx (toNew k' f' hk' h2 hx' c2).1 hx' n1 n2 e1 e2
    · exact (cross k' f f' b b' B z z' hk' (toNew k f hk h1 hx c1).1 hx h2 (consOld _ _ hx' c2) hx' n1 n2 e1 e2).elim
    · exact (cross k f' f b' b B z' z hk (toNew k' f' hk' h2 hx' c2).1 hx' h1 (consOld _ _ hx c1) hx n2 n1 e2 e1).elim
    · have d1 := consOld _ _ hx c1
      have d2 := consOld _ _ hx' c2
      obtain ⟨B1, z1, g1, _, g3⟩ := hlt k f b hk h1 d1 n1
      obtain ⟨B2, z2, g1', _, g3'⟩ := hlt k' f' b' hk' h2 d2 n2
      rw [e1] at g3; cases g3
      rw [e2] at g3'; cases g3'
      exact I.apart k k' f f' b b' B z z' hk hk' h1 d1 h2 d2 n1 n2 g1 g1'
  · simp only [Bool.or_eq_true, decide_eq_true_eq] at hk ⊢
    rcases hk with rfl | hk
    · exact .inr (hb j hj)
    · exact .inr (I.closed k hk j hj)
  · simp only [Bool.or_eq_false_iff, decide_eq_false_iff_not] at hSk
    rw [new b ?_]
    · exact I.fresh k hk hSk.2 b h1 h2
    · rintro ⟨h3, h4⟩
      rcases Nat.lt_or_ge k i with h | h
      · have := (L.upTo (show k + 1 ≤ i by omega) (by omega)).1
        omega
      · have : i + 1 ≤ k := by have := hSk.1; omega
        have := (L.upTo this (by omega)).1
        omega
  · rw [new b ?_]
    · exact I.new b hb'
    · rintro ⟨h3, h4⟩
      have g1 := (L.upTo (Nat.zero_le i) (by omega)).1
      have g2 := (L.upTo (show i + 1 ≤ ops.size by omega) (Nat.le_refl _)).1
      exact hb' ⟨by omega, by omega⟩
  · rw [← I.fr B hB h]
    refine fr B (Nat.lt_of_lt_of_le hB I.size) (fun f b z g1 g2 g3 g4 g5 => ?_)
    rcases I.own i f b B z (by omega) g1 (consW _ g2) g3 g5 with q | ⟨_, b0, z0, q1, q2, q3⟩ | ⟨q0, q1, q2⟩ | ⟨_, q1, q2⟩
    · omega
    · exact h b0 z0 (.inl ⟨q1, q2⟩) q3
    · exact h b z (.inl ⟨q1, g4 q0⟩) q2
    · exact h b z (.inr q1) q2
  · by_cases hx : f.res ∈ (fx i).wr
    · obtain ⟨g1, _⟩ := toNew k f hk hat hx hc
      rcases s4 f b B z g1 hx hn hB with q | ⟨f0, b0, z0, q1, q2, q3, q4, q5⟩
      · exact .inl (Nat.le_trans I.size q)
      · have hw0 : f0.res ∈ (fx i).wr := q2 ▸ hx
        rcases I.own i f0 b0 B z0 (by omega) q1 (consW _ hw0) q3 q4 with p | ⟨p0, p⟩ | ⟨p0, p1, p2⟩ | ⟨p0, p1, p2⟩
        · exact .inl p
        · exact .inr (.inl ⟨q2 ▸ p0, p⟩)
        · rcases q5 with ⟨rfl, rfl⟩ | ⟨r0, r1⟩
          · exact .inr (.inr (.inl ⟨q2 ▸ p0, p1, p2⟩))
          · exact .inr (.inl ⟨r0, b0, z0, p1, r1, p2⟩)
        · rcases q5 with ⟨rfl, rfl⟩ | ⟨r0, r1⟩
          · exact .inr (.inr (.inr ⟨q2 ▸ p0, p1, p2⟩))
          · exact absurd (q2.trans r0) p0
    · have d := consOld _ _ hx hc
      obtain ⟨B1, z1, g1, _, g3⟩ := hlt k f b hk hat d hn
      rw [hB] at g3; cases g3
      exact I.own k f b B z hk hat d hn g1
end

end Am
end Go.Proofs.YtdmfdclkpdliaaaGreatDoor
