/- Each operation of the abstract machine is what the model does: part nine: append. No condition. -/
import Derived.Test.YtdmfdclkpdliaaaGreatDoorOpv
import Derived.Laws.AppendOwn
namespace Go.Proofs.YtdmfdclkpdliaaaGreatDoor
namespace Am
open Go

section
variable {P : Program} {w : World} {T : Tab} {φ : Phi} {s : St}
theorem Mem.drop (m : Mem φ s w) (b0 : Nat) (l : Nat) (hl : l ≤ s.lo) : Mem φ { s with lo := l, h := s.h.put b0 none } w ∧ Mv φ s w φ { s with lo := l, h := s.h.put b0 none } w := by
  have get : ∀ b y, (s.h.put b0 none).get b = some y → s.h.get b = some y := fun b y e => by
    rcases Heap.get_put e with ⟨_, h⟩ | ⟨_, h⟩
    · cases h
    · exact h
  have live : ∀ b, St.hl { s with lo := l, h := s.h.put b0 none } b → s.hl b := fun b ⟨y, e⟩ => ⟨y, get b y e⟩
  refine ⟨⟨fun b x e => m.heap b x (get b x e), fun t g cs e => ⟨(m.locs t g cs e).1, ?_, (m.locs t g cs e).2.2⟩, m.uniq, fun b b' B z z' h h' => m.inj b b' B z z' (h.imp (live b) id) (h'.imp (live b') id)⟩, ⟨Phi.le_refl _, fun _ _ => rfl, Nat.le_refl _, hl, rfl, rfl, rfl, Nat.le_refl _, fun _ _ _ => rfl, fun b B z h e => .inr (.inl ⟨live b h, e⟩), fun b B z h e => .inr ⟨h, e⟩⟩⟩
  cases hc : (s.h.put b0 none).get g with
  | none => rfl
  | some y => have := get g y hc; rw [(m.locs t g cs e).2.1] at this; cases this

/- a grown block -/
theorem grown_run (m : Mem φ s w) (hf : φ s.n = none) {cs : List AV} {us : Array Value} {vs rest : List Value} (hu : us.toList = vs ++ rest) (hv : VRs φ cs vs) (h1 : cs.all AV.one = true) (e : TypeId) :
    ∃ φ', φ' s.n = some (w.heap.size, us.size) ∧ Mem φ' { s with n := s.n + 1, h := s.h.put s.n (some (.cells cs e)) } (w.drew.alloc (.cells us e)) ∧ Mv φ s w φ' { s with n := s.n + 1, h := s.h.put s.n (some (.cells cs e)) } (w.drew.alloc (.cells us e)) := by
  have g : Grew w (w.drew.alloc (.cells us e)) (.cells us e) := ⟨rfl, rfl, rfl, rfl⟩
  have hφ : φ.le (φ.add s.n (w.heap.size, us.size)) := Phi.le_add hf
  have := m.block hf (z := us.size) g (BR_new (e := e) (Phi.add_self _ _ _) g hu (hv.mono hφ) h1)
  exact ⟨_, Phi.add_self _ _ _, this.1, this.2⟩
/- append where it grows -/
theorem grow_run (tok : TabOk P T) (m : Mem φ s w) {t e xt : TypeId} {ei : TI} (hu : P.underlying t = some (.slice e)) (he : T.ti e = some ei) {ts : Array TypeId} (h0 : ts[0]? = some t) (h1 : ts[1]? = some xt) (ty : TypeId)
    {base : Option Addr} {len cap k : Nat} {x : AV} {x' : Value} {vs old : List AV} {olds : List Value} (ha : addedOf T xt s ei x = some (k, vs)) (hx : VR φ x x') (hg : cap < len + k) (h48 : (len + k) * ei.bytes ≤ 140737488355328) (h63 : len + k < 9223372036854775808)
    (ho : VRs φ old olds) (ho1 : old.all AV.one = true) (hol : old.length = len * ei.size) (hold : (Builtin.firstCells ei.size len (.slice base len cap)).run P w.drew = .ok olds.toArray w.drew) (hf : φ s.n = none) :
    ∃ v w' φ', (Builtin.append_ ts ty #[.slice base len cap, x']).run P w = .ok v w' ∧ VR φ' (.slice s.n 0 (len + k) (len + k) 1 ei.size) v ∧ Mem φ' { s with n := s.n + 1, h := s.h.put s.n (some (.cells (old ++ vs) e)) } w' ∧ Mv φ s w φ' { s with n := s.n + 1, h := s.h.put s.n (some (.cells (old ++ vs) e)) } w' := by
  have te := tok.ti _ _ he
  obtain ⟨d, inf, z, t1, t2, t3, t4, t5, t6, t7, t8, t9, t10, _⟩ := te.ex
  obtain ⟨us, u1, u2, u3, u4⟩ := added_run (P := P) tok (m.heaped (w' := w.drew) rfl) he ha hx
  have hz : z.cells.size = inf.size := by
    have := (t7 (fun _ => none)).length
    rw [← Array.length_toList, this, t10, t4]
  have hr := append_grow (P := P) hu h0 h1 ty t3 t6 hz u4 hg (by rw [t5]; exact h48) h63 (by rw [t4]; exact hold)
  obtain ⟨φ', p1, p2, p3⟩ := grown_run m hf (cs := old ++ vs) (vs := olds ++ us) (rest := (Builtin.zeroCells z.cells (grownCap w (len + k) cap e - (len + k))).toList) (us := olds.toArray ++ us.toArray ++ Builtin.zeroCells z.cells (grownCap w (len + k) cap e - (len + k))) (by simp) (ho.append u1) (by rw [List.all_append, ho1, u2]; rfl) e
  have hge := grownCap_ge w (len + k) cap e
  refine ⟨_, _, φ', hr, .slice p1 (Nat.le_refl _) hge (fun h => by cases h) ?_, p2, p3⟩
  have l1 := ho.length
  have l2 := u1.length
  simp only [Array.size_append, List.size_toArray, Builtin.zeroCells, Array.size_map, Array.size_range, hz, t4, l1, l2, hol, u3]
  rw [← Nat.add_mul, ← Nat.add_mul]
  have : len + k + (grownCap w (len + k) cap e - (len + k)) = grownCap w (len + k) cap e := by omega
  rw [this]; omega

theorem append_run (tok : TabOk P T) (m : Mem φ s w) {st xt : TypeId} {a x r : AV} {s' : St} (h : append T st xt s a x = some (r, s')) (hf : s.n < s'.n → φ s.n = none) {a' x' : Value} (ha : VR φ a a') (hx : VR φ x x') {ts : Array TypeId} (h0 : ts[0]? = some st) (h1 : ts[1]? = some xt) (ty : TypeId) :
    ∃ v w' φ', (Builtin.append_ ts ty #[a', x']).run P w = .ok v w' ∧ VR φ' r v ∧ Mem φ' s' w' ∧ Mv φ s w φ' s' w' := by
  unfold append at h
  split at h
  · rename_i e _ _ _ _ _ hi
    have hu := (tok.ti _ _ hi).slice rfl
    split at h
    · cases h
    · rename_i ei he
      have te := tok.ti _ _ he
      obtain ⟨d, inf, z, t1, t2, t3, t4, t5, t6, t7, t8, t9, t10, _⟩ := te.ex
      split at h
      · cases h
      · rename_i k vs hadd
        obtain ⟨us, u1, u2, u3, u4⟩ := added_run (P := P) tok m he hadd hx
        have hul := u1.length
        split at h
        · rename_i hk
          have hk := Nat.eq_of_beq_eq_true hk
          subst hk
          have hnil : us = [] := by
            have : us.length = 0 := by rw [hul, u3]; simp
            exact List.length_eq_zero_iff.1 this
          subst hnil
          split at h
          · cases h; cases ha
            exact ⟨_, w, φ, append_room (w' := w) hu h0 h1 ty t3 u4 (Nat.le_refl _) (by simp), .nilslice, m, Mv.refl _ _ _⟩
          · cases h
            cases ha with
            | slice hφ g1 g2 g3 g4 =>
              exact ⟨_, w, φ, append_room (w' := w) hu h0 h1 ty t3 u4 (by omega) (by simp [storeCells]), .slice hφ g1 g2 g3 g4, m, Mv.refl _ _ _⟩
          · cases h
        · rename_i hk
          have hk : k ≠ 0 := fun h => hk (by subst h; rfl)
          split at h
          · split at h
            · rename_i hc
              simp only [Bool.and_eq_true] at hc
              cases h; cases ha
              obtain ⟨v, w', φ', r1, r2, r3, r4⟩ := grow_run (P := P) (base := none) (len := 0) (cap := 0) tok m hu he h0 h1 ty hadd hx (by omega) (by rw [Nat.zero_add]; exact Nat.le_of_ble_eq_true hc.1.1) (by rw [Nat.zero_add]; simpa using hc.1.2) .nil rfl (by simp) (by simp [Builtin.firstCells]) (hf (Nat.lt_succ_self _))
              simp only [Nat.zero_add, List.nil_append] at r1 r2 r3 r4
              exact ⟨v, w', φ', r1, r2, r3, r4⟩
            · cases h
          · rename_i b o len cap ex sz
            split at h
            · cases h
            · rename_i hc
              simp only [Bool.not_eq_true, Bool.not_eq_false', Bool.and_eq_true] at hc
              obtain ⟨⟨⟨hc1, hc2⟩, hc3⟩, hc4⟩ := hc
              have hc1 := Nat.le_of_ble_eq_true hc1
              have hc2 : len + k < 9223372036854775808 := by simpa using hc2
              have hsz := Nat.eq_of_beq_eq_true hc4
              subst hsz
              have grow : ∀ old c B z', φ b = some (B, z') → elemsOf s ei.size (.slice b o len cap ex ei.size) = some (len, old) → VR φ (.slice b o len cap ex ei.size) (.slice (some ⟨B, o, none⟩) len c) → c < len + k → φ s.n = none →
                  ∃ v w' φ', (Builtin.append_ ts ty #[.slice (some ⟨B, o, none⟩) len c, x']).run P w = .ok v w' ∧ VR φ' (.slice s.n 0 (len + k) (len + k) 1 ei.size) v ∧ Mem φ' { s with n := s.n + 1, h := s.h.put s.n (some (.cells (old ++ vs) e)) } w' ∧ Mv φ s w φ' { s with n := s.n + 1, h := s.h.put s.n (some (.cells (old ++ vs) e)) } w' := by
                intro old c B z' hφ hel hv hg hfr
                obtain ⟨os, o1, o2, o3, o4, o5⟩ := elemsOf_run (P := P) (m.heaped (w' := w.drew) rfl) hel hv
                have h6 := o5 len (Nat.le_refl _)
                rw [List.take_of_length_le (by rw [o2.length, o4]; exact Nat.le_refl _)] at h6
                exact grow_run (P := P) tok m hu he h0 h1 ty hadd hx hg hc1 hc2 o2 o3 o4 h6 hfr
              split at h
              · rename_i cs be hg
                split at h
                · rename_i hex
                  simp only [Bool.and_eq_true] at hex
                  split at h
                  · rename_i hfit
                    cases h
                    cases ha with
                    | slice hφ g1 g2 g3 g4 =>
                      have hc := g3 (Nat.eq_of_beq_eq_true hex.1)
                      have hle := Nat.le_of_ble_eq_true hex.2
                      have h2 := Nat.eq_of_beq_eq_true hex.1
                      subst h2
                      have hwr : s.h.write b (o + len * ei.size) vs = some (s.h.put b (some (.cells (splice cs (o + len * ei.size) vs) be))) := by
                        unfold Heap.write
                        rw [hg]
                        dsimp only
                        rw [if_pos]
                        rw [u3, Nat.add_assoc, ← Nat.add_mul]
                        exact hfit
                      obtain ⟨w', r1, r2, r3⟩ := heapWrite_run (P := P) m hwr u1 u2 hφ
                      subst hc
                      exact ⟨_, w', φ, append_room hu h0 h1 ty t3 u4 hle (by simp only [Addr.add_mid]; rw [t4]; exact r1), .slice hφ hle (Nat.le_refl _) (fun _ => rfl) g4, r2, r3⟩
                  · cases h
                · rename_i hex
                  split at h
                  · cases h
                  · rename_i old hold
                    have hel : elemsOf s ei.size (.slice b o len cap ex ei.size) = some (len, old) := by
                      simp only [elemsOf, Heap.cells, hg, hold]
                    dsimp only at h
                    split at h
                    · rename_i hex2
                      cases h
                      cases ha with
                      | slice hφ g1 g2 g3 g4 =>
                        have h2 := Nat.eq_of_beq_eq_true hex2
                        have hc := g3 h2
                        have hnle : ¬ (len + k ≤ cap) := fun hle => hex (by rw [Bool.and_eq_true]; exact ⟨hex2, Nat.ble_eq_true_of_le hle⟩)
                        exact grow old _ _ _ hφ hel (.slice hφ g1 g2 g3 g4) (by omega) (hf (Nat.lt_succ_self _))
                    · split at h
                      · rename_i hex1
                        simp only [Bool.and_eq_true] at hex1
                        have ho := Nat.eq_of_beq_eq_true hex1.2
                        have h1' := Nat.eq_of_beq_eq_true hex1.1
                        subst ho
                        subst h1'
                        cases h
                        cases ha with
                        | slice hφ g1 g2 g3 g4 =>
                          rename_i B z' c
                          have hfr := hf (Nat.lt_succ_self _)
                          by_cases hle : len + k ≤ c
                          · cases (m.heap _ _ hg).2 with
                            | cells hb' hwo hz hcl hvs ho1 =>
                              rename_i B' z2 cc tt ws rest
                              rw [hφ] at hb'; cases hb'
                              unfold cellsAt at hold
                              split at hold
                              · rename_i hfit
                                cases hold
                                have hws := hvs.length
                                have hmul : (len + k) * ei.size ≤ c * ei.size := Nat.mul_le_mul_right _ hle
                                have hadd' := Nat.add_mul len k ei.size
                                have hccl : cc.size = cc.toList.length := Array.length_toList.symm
                                obtain ⟨w', r1, r2, r3⟩ := store_cells (P := P) (us := us) (o := len * ei.size) hwo (by omega) (u1.one u2)
                                have hphi : φ.le (φ.add s.n (B, z')) := Phi.le_add hfr
                                have htake : cc.toList.take (len * ei.size) = ws.take (len * ei.size) := by
                                  rw [hcl, List.take_append_of_le_length (by omega)]
                                have br : BR (φ.add s.n (B, z')) w' s.n (.cells ((cs.drop 0).take (len * ei.size) ++ vs) e) :=
                                  .cells (Phi.add_self _ _ _) r3 (by
                                    simp only [List.size_toArray, List.length_append, List.length_take, List.length_drop]
                                    omega) (vs := ws.take (len * ei.size) ++ us) (rest := cc.toList.drop (len * ei.size + us.length)) (by rw [htake]) (((hvs.take _).append u1).mono hphi) (by
                                      rw [List.all_append, u2, List.drop_zero, all_take ho1 _]; rfl)
                                have mm := m.renamed ⟨_, hg⟩ hφ hfr r2 br
                                refine ⟨_, w', _, append_room hu h0 h1 ty t3 u4 hle (by simp only [Addr.add_mid, Nat.zero_add]; rw [t4]; exact r1), .slice (Phi.add_self _ _ _) (Nat.le_refl _) hle (fun h => by cases h) g4, mm.1, mm.2⟩
                              · cases hold
                          · obtain ⟨v, w', φ', r1, r2, r3, r4⟩ := grow old _ _ _ hφ hel (.slice hφ g1 g2 g3 g4) (by omega) hfr
                            have dr := r3.drop b (min s.lo b) (Nat.min_le_left _ _)
                            exact ⟨v, w', φ', r1, r2, dr.1, r4.trans dr.2⟩
                      · cases h
              · rename_i cs be hg
                split at h
                · rename_i hex
                  simp only [Bool.and_eq_true] at hex
                  split at h
                  · cases h
                  · rename_i old hold
                    have hel : elemsOf s ei.size (.slice b o len cap ex ei.size) = some (len, old) := by
                      simp only [elemsOf, Heap.cells, hg, hold]
                    cases h
                    cases ha with
                    | slice hφ g1 g2 g3 g4 =>
                      have hc := g3 (Nat.eq_of_beq_eq_true hex.1)
                      exact grow old _ _ _ hφ hel (.slice hφ g1 g2 g3 g4) (by have : cap < len + k := by simpa using hex.2
                                                                              omega) (hf (Nat.lt_succ_self _))
                · cases h
              · cases h
          · cases h
  · cases h
end

end Am
end Go.Proofs.YtdmfdclkpdliaaaGreatDoor
