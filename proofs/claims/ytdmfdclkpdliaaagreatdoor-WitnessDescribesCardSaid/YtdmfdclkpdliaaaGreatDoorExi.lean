/- The abstract machine's regions of open order are what the model's are, for a program that follows mixed orders. -/
import Derived.Test.YtdmfdclkpdliaaaGreatDoorExh
namespace Go.Proofs.YtdmfdclkpdliaaaGreatDoor
namespace Am
open Go

theorem regR_inj {t t' : Nat} (h : regR t = regR t') : t = t' := by unfold regR at h; omega
theorem name_dst {o : Oper} {f : Fact} {b : Nat} (h : f.name = some b) : f.res ∉ (dstTmp o).map regR := by
  intro hx
  obtain ⟨t, _, ht⟩ := dst_mem hx
  rcases Fact.res_blk h with ⟨h1, _⟩ | ⟨_, t', cs, _, h1⟩
  · rw [h1] at ht; simp [regR] at ht
  · rw [h1] at ht; unfold locR regR at ht; omega

section
variable {P : Program} {T : Tab} {C : FuncId → Fun} {esc : List Tmp} {ops : Array Oper} {st : Nat → St} {fx : Nat → Fx} {φ0 φ : Phi} {w0 w : World} {S : Nat → Bool} {a : Act}

theorem Inv.consR (L : Line T C esc ops st fx) (I : Inv ops st fx φ0 w0 S φ a w) {i : Nat} (hin : i < ops.size) (hSi : S i = false) (hb : ∀ j, (fx i).bm.testBit j = true → S j = true) {x : Nat} (hx : x ∈ (fx i).rd ∨ x ∈ (fx i).wr) : Cons ops fx S i x := by
  refine ⟨fun j h1 h2 h3 hj => ?_, fun j h1 h2 h3 hj => ?_⟩
  · have hbit : (fx i).bm.testBit j = false := by
      cases hq : (fx i).bm.testBit j with
      | false => rfl
      | true => rw [hb j hq] at h3; cases h3
    have hc := L.apart j i h1 hin hbit
    simp only [clash, Bool.or_eq_false_iff] at hc
    rcases hx with hx | hx
    · exact meets_none hc.1.1 hj hx
    · exact meets_none hc.1.2 hj hx
  · have hne : i ≠ j := fun e => by subst e; rw [hSi] at h3; cases h3
    have hbit : (fx j).bm.testBit i = false := by
      cases hq : (fx j).bm.testBit i with
      | false => rfl
      | true => rw [I.closed j h3 i hq] at hSi; cases hSi
    have hc := L.apart i j (by omega) h2 hbit
    simp only [clash, Bool.or_eq_false_iff] at hc
    rcases hx with hx | hx
    · exact meets_none hc.2 hx hj
    · exact meets_none hc.1.2 hx hj

/- registers alone -/
theorem Inv.regs (L : Line T C esc ops st fx) (I : Inv ops st fx φ0 w0 S φ a w) {i : Nat} {o : Oper} (hi : ops[i]? = some o) (hSi : S i = false) (hb : ∀ j, (fx i).bm.testBit j = true → S j = true)
    (hfit : fits (st i) o.dst = true) (hwr : (fx i).wr = (dstTmp o).map regR) {v : AV} {v' : Value} (hv : VR φ v v') (hreg : ∀ t u, (st (i + 1)).regs.get t = some u → (o.dst = some t ∧ v = u) ∨ (o.dst ≠ some t ∧ (st i).regs.get t = some u)) :
    Inv ops st fx φ0 w0 (fun j => decide (j = i) || S j) φ (a.put o.dst v') w := by
  have hin : i < ops.size := (Array.getElem?_eq_some_iff.1 hi).1
  refine I.step L hi hSi hb (fun t ht => by rw [hwr]; exact mem_dst ht) (fun f hf hx => ?_) (fun f f' b b' B z z' _ hx _ _ hn => ?_) (fun f b B z _ hx hn => ?_) (Phi.le_refl _) (fun _ _ => rfl) rfl rfl rfl (Nat.le_refl _) (fun _ _ _ => rfl)
  · rw [hwr] at hx
    cases f with
    | reg t u =>
      obtain ⟨t', ht', he⟩ := dst_mem hx
      have := regR_inj he
      subst this
      rcases hreg t u hf with ⟨_, h2⟩ | ⟨h1, _⟩
      · subst h2
        show VR φ v ((a.put o.dst v').eval (.tmp t))
        rw [ht', Act.put_self a]
        · exact hv
        · rw [I.tmps, ← (L.upTo (Nat.zero_le i) (by omega)).2.2.1]
          rw [ht'] at hfit
          simpa [fits] using hfit
      · exact absurd ht' h1
    | blk b x => exact absurd hx (name_dst (o := o) (f := .blk b x) rfl)
    | loc t g cs => exact absurd hx (name_dst (o := o) (f := .loc t g cs) rfl)
  · rw [hwr] at hx; exact absurd hx (name_dst hn)
  · rw [hwr] at hx; exact absurd hx (name_dst hn)

theorem Inv.cut (L : Line T C esc ops st fx) (I : Inv ops st fx φ0 w0 S φ a w) {i : Nat} (hin : i < ops.size) (hSi : S i = false) (hb : ∀ j, (fx i).bm.testBit j = true → S j = true) {o : Oper} {c : Touch} (h1 : ∀ t ∈ c.lr, locR t ∈ (fx i).rd) (h2 : c.hr = true → 0 ∈ (fx i).rd) (h3 : ∀ t ∈ c.lw, locR t ∈ (fx i).wr) :
    Mem φ (cutSt (st i) o c) w := by
  have hh : ∀ b x, (cutSt (st i) o c).h.get b = some x → (Fact.blk b x).at (st i) ∧ Cons ops fx S i 0 := by
    intro b x h
    simp only [cutSt] at h
    split at h
    · rename_i hr
      exact ⟨h, I.consR L hin hSi hb (.inl (h2 hr))⟩
    · rw [noHeap_get] at h; cases h
  have hl : ∀ t g cs, (cutSt (st i) o c).locs.get t = some (g, cs) → (Fact.loc t g cs).at (st i) ∧ Cons ops fx S i (locR t) := by
    intro t g cs h
    obtain ⟨hm, h⟩ := pickR_get h
    refine ⟨h, I.consR L hin hSi hb ?_⟩
    rcases List.mem_append.1 hm with hm | hm
    · exact .inl (h1 t hm)
    · exact .inr (h3 t hm)
  have live : ∀ b, (cutSt (st i) o c).hl b ∨ (cutSt (st i) o c).ll b → ∃ f : Fact, f.at (st i) ∧ Cons ops fx S i f.res ∧ f.name = some b := by
    rintro b (⟨x, h⟩ | ⟨t, cs, h⟩)
    · exact ⟨.blk b x, (hh b x h).1, (hh b x h).2, rfl⟩
    · exact ⟨.loc t b cs, (hl t b cs h).1, (hl t b cs h).2, rfl⟩
  have hle : i ≤ ops.size := by omega
  refine ⟨fun b x h => ?_, fun t g cs h => ?_, fun t t' g cs cs' h h' => ?_, fun b b' B z z' h h' e e' => ?_⟩
  · exact I.ok i (.blk b x) hle (hh b x h).1 (hh b x h).2
  · obtain ⟨q1, q2⟩ := hl t g cs h
    have h4 := I.ok i (.loc t g cs) hle q1 q2
    refine ⟨h4.1, ?_, h4.2⟩
    cases hg : (cutSt (st i) o c).h.get g with
    | none => rfl
    | some x =>
      obtain ⟨p1, p2⟩ := hh g x hg
      obtain ⟨B, z, e1, _⟩ := h4.2.at
      have := (I.apart _ _ (.loc t g cs) (.blk g x) g g B z z hle hle q1 q2 p1 p2 rfl rfl e1 e1).2
      simp [Fact.res, locR] at this
  · obtain ⟨q1, q2⟩ := hl t g cs h
    obtain ⟨p1, p2⟩ := hl t' g cs' h'
    have h4 := I.ok i (.loc t g cs) hle q1 q2
    obtain ⟨B, z, e1, _⟩ := h4.2.at
    exact locR_inj (I.apart _ _ (.loc t g cs) (.loc t' g cs') g g B z z hle hle q1 q2 p1 p2 rfl rfl e1 e1).2
  · obtain ⟨f, f1, f2, f3⟩ := live b h
    obtain ⟨f', f1', f2', f3'⟩ := live b' h'
    exact (I.apart _ _ f f' b b' B z z' hle hle f1 f2 f1' f2' f3 f3' e e').1

theorem op_step (tok : TabOk P T) (ck : CalleeOk P C) (L : Line T C esc ops st fx) (I : Inv ops st fx φ0 w0 S φ a w) {i : Nat} {o : Oper} (hi : ops[i]? = some o) (hSi : S i = false) (hb : ∀ j, (fx i).bm.testBit j = true → S j = true) {K : Act → World → Prop} {Q : Exit → Act → World → Prop}
    (hK : ∀ φ' a' w', Inv ops st fx φ0 w0 (fun j => decide (j = i) || S j) φ' a' w' → K a' w') : wpOp P ops Q i K a w := by
  have hin : i < ops.size := (Array.getElem?_eq_some_iff.1 hi).1
  have hle : i ≤ ops.size := by omega
  obtain ⟨hfit, hgd, hdst, hcase⟩ := drawOne_cases (L.one i o hi)
  have hg : ∀ t u, t ∈ guardTmp ops.toList o → (st i).regs.get t = some u → VR φ u (a.eval (.tmp t)) := fun t u ht hu =>
    I.ok i (.reg t u) hle hu (I.consR L hin hSi hb (.inl (hgd t ht)))
  unfold wpOp
  rw [hi]
  dsimp only
  rcases hcase with ⟨hw, hwr, hs⟩ | ⟨hw, c, v, s', hc, hd, hn, hrd, hlr, hhr, hwr, hs⟩
  · rw [want_of hg hw, if_neg (by simp)]
    exact hK φ _ w (I.regs L hi hSi hb hfit hwr (.tup .nil) (fun t u h => by rw [hs] at h; exact putR_get h))
  · rw [want_of hg hw, if_pos rfl]
    have hlw : ∀ t ∈ c.lw, locR t ∈ (fx i).wr := fun t ht => by
      rw [hwr]; simp only [List.mem_append, List.mem_map]; exact .inl (.inr ⟨t, ht, rfl⟩)
    have mR := I.cut L hin hSi hb (o := o) hlr hhr hlw
    have hρ : ∀ x u, (cutSt (st i) o c).regs.val x = some u → VR φ u (a.eval x) := fun x u h =>
      val_run (fun t u h => by
        obtain ⟨h1, h2⟩ := pickR_get h
        exact I.ok i (.reg t u) hle h2 (I.consR L hin hSi hb (.inl (hrd t h1)))) h
    have hreg : ∀ t u, (st (i + 1)).regs.get t = some u → (o.dst = some t ∧ v = u) ∨ (o.dst ≠ some t ∧ (st i).regs.get t = some u) := fun t u h => by
      rw [hs] at h; exact putR_get h
    by_cases hp : c.hw = false ∧ c.lw = []
    · obtain ⟨_, hdid⟩ := doOp_pure (P := P) tok hd mR hc hp.1 hp.2 hρ
      refine .inl (hdid K Q (fun v' hv => hK φ _ w ?_))
      refine I.regs L hi hSi hb hfit ?_ hv hreg
      rw [hwr, hp.1, hp.2]; simp
    · obtain ⟨hlr0, hcases⟩ : c.lr = [] ∧ ((c.hw = true ∧ c.hr = true ∧ c.lw = []) ∨ (c.hw = false ∧ c.hr = false ∧ ∃ d, c.lw = [d])) := by
        rcases touches_shape hc with h | ⟨h1, h2⟩ | ⟨h1, h2⟩
        · exact absurd h hp
        · exact ⟨h1, .inl h2⟩
        · exact ⟨h1, .inr h2⟩
      have hsn : s'.n = (st (i + 1)).n := by rw [hs]
      have hslo : (st ops.size).lo ≤ s'.lo := by
        have h1 := (L.upTo (show i + 1 ≤ ops.size by omega) (Nat.le_refl _)).2.1
        have h2 : (st (i + 1)).lo = min (st i).lo s'.lo := by rw [hs]
        omega
      have hhw : c.hr = true → c.hw = true := fun h => by
        rcases hcases with ⟨h1, _⟩ | ⟨_, h1, _⟩
        · exact h1
        · rw [h1] at h; cases h
      have h0 : c.hw = true → 0 ∈ (fx i).wr := fun h => by rw [hwr, h]; simp
      have Rh : ∀ b, (cutSt (st i) o c).hl b → ∃ x, (Fact.blk b x).at (st i) ∧ c.hw = true := by
        rintro b ⟨x, h⟩
        simp only [cutSt] at h
        split at h
        · rename_i hr; exact ⟨x, h, hhw hr⟩
        · rw [noHeap_get] at h; cases h
      have Rl : ∀ b, (cutSt (st i) o c).ll b → ∃ t cs, (Fact.loc t b cs).at (st i) ∧ t ∈ c.lw := by
        rintro b ⟨t, cs, h⟩
        obtain ⟨h1, h2⟩ := pickR_get h
        rw [hlr0, List.nil_append] at h1
        exact ⟨t, cs, h2, h1⟩
      refine .inl (doOp_sound (P := P) tok ck hd mR (fun b h1 h2 => I.fresh i hin hSi b h1 (by rw [← hsn]; exact h2)) hρ K Q ?_)
      intro v' w' φ' hv hm hmv
      have nblk : ∀ b x, (Fact.blk b x).at (st (i + 1)) → (Fact.blk b x).res ∈ (fx i).wr → s'.h.get b = some x := by
        intro b x h hx
        rw [hs] at h
        simp only [Fact.at] at h
        split at h
        · exact h
        · rename_i hf
          rw [hwr] at hx
          simp only [List.mem_append] at hx
          rcases hx with (hx | hx) | hx
          · exact absurd hx (name_dst (o := o) (f := .blk b x) rfl)
          · obtain ⟨t, _, ht⟩ := List.mem_map.1 hx
            simp [Fact.res, locR] at ht
          · rw [if_neg hf] at hx; cases hx
      have nloc : ∀ t g cs, (Fact.loc t g cs).at (st (i + 1)) → (Fact.loc t g cs).res ∈ (fx i).wr → t ∈ c.lw ∧ s'.locs.get t = some (g, cs) := by
        intro t g cs h hx
        rw [hs] at h
        rw [hwr] at hx
        simp only [List.mem_append] at hx
        have ht : t ∈ c.lw := by
          rcases hx with (hx | hx) | hx
          · exact absurd hx (name_dst (o := o) (f := .loc t g cs) rfl)
          · obtain ⟨t', ht', he⟩ := List.mem_map.1 hx
            have := locR_inj he
            subst this; exact ht'
          · split at hx
            · simp [Fact.res, locR] at hx
            · cases hx
        rcases mergeL_get h with h | ⟨h, _⟩
        · exact h
        · exact absurd ht h
      refine hK φ' _ w' (I.step L hi hSi hb hdst (fun f hf hx => ?_) (fun f f' b b' B z z' h1 x1 h2 x2 n1 n2 e1 e2 => ?_) (fun f b B z h1 x1 n1 e1 => ?_) hmv.ext (fun b hb' => hmv.new b (by rw [hsn]; exact hb')) hmv.os hmv.tape hmv.output hmv.size (fun B hB h => hmv.fr B hB (fun b z hbz => ?_)))
      · cases f with
        | reg t u =>
          have ht : o.dst = some t := by
            rw [hwr] at hx
            simp only [List.mem_append] at hx
            rcases hx with (hx | hx) | hx
            · obtain ⟨t', ht', he⟩ := dst_mem hx
              have := regR_inj he
              subst this; exact ht'
            · obtain ⟨t', _, he⟩ := List.mem_map.1 hx
              simp only [Fact.res] at he
              unfold locR regR at he; omega
            · split at hx
              · simp [Fact.res, regR] at hx
              · cases hx
          rcases hreg t u hf with ⟨_, h2⟩ | ⟨h1, _⟩
          · subst h2
            show VR φ' v ((a.put o.dst v').eval (.tmp t))
            rw [ht, Act.put_self a]
            · exact hv
            · rw [I.tmps, ← (L.upTo (Nat.zero_le i) (by omega)).2.2.1]
              rw [ht] at hfit
              simpa [fits] using hfit
          · exact absurd ht h1
        | blk b x =>
          have := hm.heap b x (nblk b x hf hx)
          rw [hsn] at this; exact this
        | loc t g cs =>
          have := hm.locs t g cs (nloc t g cs hf hx).2
          rw [hsn] at this; exact ⟨this.1, this.2.2⟩
      · rcases Fact.res_blk n1 with ⟨_, x, rfl⟩ | ⟨_, t, cs, rfl, _⟩ <;> rcases Fact.res_blk n2 with ⟨_, x', rfl⟩ | ⟨_, t', cs', rfl, _⟩
        · exact ⟨hm.inj b b' B z z' (.inl ⟨x, nblk b x h1 x1⟩) (.inl ⟨x', nblk b' x' h2 x2⟩) e1 e2, rfl⟩
        · have g2 := (nloc t' b' cs' h2 x2).2
          have := hm.inj b b' B z z' (.inl ⟨x, nblk b x h1 x1⟩) (.inr ⟨t', cs', g2⟩) e1 e2
          subst this
          have g1 := nblk b x h1 x1
          rw [(hm.locs t' b cs' g2).2.1] at g1; cases g1
        · have g1 := (nloc t b cs h1 x1).2
          have := hm.inj b b' B z z' (.inr ⟨t, cs, g1⟩) (.inl ⟨x', nblk b' x' h2 x2⟩) e1 e2
          subst this
          have g2 := nblk b x' h2 x2
          rw [(hm.locs t b cs g1).2.1] at g2; cases g2
        · have g1 := (nloc t b cs h1 x1).2
          have g2 := (nloc t' b' cs' h2 x2).2
          have := hm.inj b b' B z z' (.inr ⟨t, cs, g1⟩) (.inr ⟨t', cs', g2⟩) e1 e2
          subst this
          have := hm.uniq t t' b cs cs' g1 g2
          subst this
          exact ⟨rfl, rfl⟩
      · rcases Fact.res_blk n1 with ⟨_, x, rfl⟩ | ⟨_, t, cs, rfl, _⟩
        · rcases hmv.ownH b B z ⟨x, nblk b x h1 x1⟩ e1 with q | ⟨q, q1⟩ | ⟨b0, z0, q, q1, q2⟩
          · exact .inl q
          · obtain ⟨x0, p1, _⟩ := Rh b q
            exact .inr ⟨.blk b x0, b, z, p1, rfl, rfl, q1, .inl ⟨rfl, rfl⟩⟩
          · obtain ⟨x0, p1, _⟩ := Rh b0 q
            exact .inr ⟨.blk b0 x0, b0, z0, p1, rfl, rfl, q2, .inr ⟨rfl, Nat.le_trans hslo q1⟩⟩
        · obtain ⟨ht, g1⟩ := nloc t b cs h1 x1
          rcases hmv.ownL b B z ⟨t, cs, g1⟩ e1 with q | ⟨q, q1⟩
          · exact .inl q
          · obtain ⟨t', cs', p1, p2⟩ := Rl b q
            have : t' = t := by
              rcases hcases with ⟨_, _, h⟩ | ⟨_, _, d, h⟩
              · rw [h] at ht; cases ht
              · rw [h] at ht p2
                rw [List.mem_singleton.1 ht, List.mem_singleton.1 p2]
            subst this
            exact .inr ⟨.loc t' b cs', b, z, p1, rfl, rfl, q1, .inl ⟨rfl, rfl⟩⟩
      · rcases hbz with ⟨q, q1⟩ | q
        · obtain ⟨x0, p1, p2⟩ := Rh b q
          exact h (.blk b x0) b z p1 (h0 p2) rfl (fun _ => Nat.le_trans hslo q1)
        · obtain ⟨t', cs', p1, p2⟩ := Rl b q
          exact h (.loc t' b cs') b z p1 (hlw t' p2) rfl (fun e => by simp [Fact.res, locR] at e)
end

end Am
end Go.Proofs.YtdmfdclkpdliaaaGreatDoor
