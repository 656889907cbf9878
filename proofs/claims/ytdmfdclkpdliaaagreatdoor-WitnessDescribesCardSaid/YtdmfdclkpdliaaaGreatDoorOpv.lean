/- Each operation of the abstract machine is what the model does: part eight: copy and append. No condition. -/
import Derived.Test.YtdmfdclkpdliaaaGreatDoorOpu
namespace Go.Proofs.YtdmfdclkpdliaaaGreatDoor
namespace Am
open Go

section
variable {P : Program} {w : World} {T : Tab} {φ : Phi} {s : St}
theorem heapWrite_run (m : Mem φ s w) {b o : Nat} {vs : List AV} {h' : Heap} (hw : s.h.write b o vs = some h') {us : List Value} (hv : VRs φ vs us) (h1 : vs.all AV.one = true) {B z : Nat} (hb : φ b = some (B, z)) :
    ∃ w', (storeCells ⟨B, o, none⟩ us).run P w = .ok () w' ∧ Mem φ { s with h := h', lo := min s.lo b } w' ∧ Mv φ s w φ { s with h := h', lo := min s.lo b } w' := by
  unfold Heap.write at hw
  split at hw
  · rename_i cs e hg
    split at hw
    · rename_i hle
      cases hw
      cases (m.heap _ _ hg).2 with
      | cells hb' hwo hz hc hvs ho =>
        rename_i B z c tt ws rest
        rw [hb] at hb'; cases hb'
        obtain ⟨w', r1, r2, r3⟩ := store_cells (P := P) (us := us) (o := o) hwo (by
          have := hv.length; have := hvs.length
          have h5 : c.size = ws.length + rest.length := by rw [← Array.length_toList, hc, List.length_append]
          omega) (hv.one h1)
        have br := splice_BR (e := e) hb hz hc hvs ho hv h1 hle r3
        exact ⟨w', r1, m.write ⟨_, hg⟩ hb r2 br⟩
    · cases hw
  · cases hw
theorem copy_run (tok : TabOk P T) (m : Mem φ s w) {t : TypeId} {d x r : AV} {s' : St} (h : copy T t s d x = some (r, s')) {d' x' : Value} (hd : VR φ d d') (hx : VR φ x x') (ts : Array TypeId) (hts : ts[0]? = some t) (ty : TypeId) :
    ∃ v w', (Builtin.copy_ ts ty #[d', x']).run P w = .ok v w' ∧ VR φ r v ∧ Mem φ s' w' ∧ Mv φ s w φ s' w' := by
  unfold copy at h
  split at h
  · rename_i e _ _ _ _ _ hi
    have hu := (tok.ti _ _ hi).slice rfl
    split at h
    · cases h
    · rename_i ei he
      have te := tok.ti _ _ he
      split at h
      · rename_i x0 hel
        obtain ⟨k, vs⟩ := x0
        cases h
        cases hd
        obtain ⟨us, u1, u2, u3, u4, u5⟩ := elemsOf_run (P := P) m hel hx
        refine ⟨.int .i64 0, w, ?_, .int _ _, m, Mv.refl _ _ _⟩
        have := u5 0 (Nat.zero_le _)
        simp at this
        simp [Builtin.copy_, hts, run_underlying hu, u1, te.run_size, this, goInt]
      · rename_i k vs b o len _ _ sz hel
        obtain ⟨us, u1, u2, u3, u4, u5⟩ := elemsOf_run (P := P) m hel hx
        split at h
        · cases h
        · dsimp only at h
          split at h
          · rename_i h' hw
            cases h
            cases hd with
            | slice hφ h1 h2 h3 h4 =>
              obtain ⟨w', r1, r2, r3⟩ := heapWrite_run (P := P) m hw (u2.take _) (all_take u3 _) hφ
              refine ⟨.int .i64 (min k len : Nat), w', ?_, .int _ _, r2, r3⟩
              have h6 := u5 (min k len) (Nat.min_le_left _ _)
              have h7 : Nat.min k len = min k len := rfl
              simp [Builtin.copy_, hts, run_underlying hu, u1, te.run_size, h7, h6, r1, goInt]
          · cases h
      · cases h
  · cases h

/- what is appended -/
inductive Added (P : Program) (w : World) (e xt : TypeId) (k : Nat) (us : List Value) : Value → Prop
  | zeros {kk kk' inf z} (hu : P.underlying xt = some (.int kk)) (hi : P.info? e = some inf) (hz : inf.zero = some z) (hs : z.cells.size = inf.size) (hb : k * inf.bytes ≤ 140737488355328) (hk : k < 9223372036854775808) (hus : us = (Builtin.zeroCells z.cells k).toList) : Added P w e xt k us (.int kk' k)
  | copy {x' d inf} (hu : P.underlying xt = some d) (hd : (∃ e', d = .slice e') ∨ d = .string) (hl : (Builtin.lenOf x').run P w = .ok k w) (hi : P.info? e = some inf) (hc : (Builtin.firstCells inf.size k x').run P w = .ok us.toArray w) : Added P w e xt k us x'
theorem added_run (tok : TabOk P T) (m : Mem φ s w) {xt e : TypeId} {ei : TI} (he : T.ti e = some ei) {x : AV} {k : Nat} {vs : List AV} (h : addedOf T xt s ei x = some (k, vs)) {x' : Value} (hx : VR φ x x') :
    ∃ us, VRs φ vs us ∧ vs.all AV.one = true ∧ vs.length = k * ei.size ∧ Added P w e xt k us x' := by
  have te := tok.ti _ _ he
  obtain ⟨d, inf, z, t1, t2, t3, t4, t5, t6, t7, t8, t9, t10, _⟩ := te.ex
  unfold addedOf at h
  split at h
  · rename_i hxt
    have hu := (tok.ti _ _ hxt).int rfl
    split at h
    · rename_i k'
      split at h
      · rename_i hc
        simp only [Bool.and_eq_true] at hc
        cases h; cases hx
        have hz : z.cells.size = inf.size := by
          have := (t7 (fun _ => none)).length
          rw [← Array.length_toList, this, t10, t4]
        refine ⟨(Builtin.zeroCells z.cells k).toList, rep_vals (t7 φ) k, rep_all k t9, by rw [rep_length, t10], .zeros hu t3 t6 hz (by rw [t5]; exact Nat.le_of_ble_eq_true hc.1) (by simpa using hc.2) rfl⟩
      · cases h
    · cases h
  · rename_i hxt
    have hu := (tok.ti _ _ hxt).slice rfl
    obtain ⟨us, u1, u2, u3, u4, u5⟩ := elemsOf_run (P := P) m h hx
    have h6 := u5 k (Nat.le_refl _)
    rw [List.take_of_length_le (by rw [u2.length, u4]; exact Nat.le_refl _)] at h6
    exact ⟨us, u2, u3, u4, .copy hu (.inl ⟨_, rfl⟩) u1 t3 (by rw [t4]; exact h6)⟩
  · rename_i hxt
    have hu := (tok.ti _ _ hxt).string rfl
    obtain ⟨us, u1, u2, u3, u4, u5⟩ := elemsOf_run (P := P) m h hx
    have h6 := u5 k (Nat.le_refl _)
    rw [List.take_of_length_le (by rw [u2.length, u4]; exact Nat.le_refl _)] at h6
    exact ⟨us, u2, u3, u4, .copy hu (.inr rfl) u1 t3 (by rw [t4]; exact h6)⟩
  · cases h
end

section
variable {P : Program} {w : World}
set_option maxHeartbeats 2000000 in
theorem append_room {t e xt : TypeId} {inf : TypeInfo} {ts : Array TypeId} (hu : P.underlying t = some (.slice e)) (h0 : ts[0]? = some t) (h1 : ts[1]? = some xt) (ty : TypeId) (hi : P.info? e = some inf)
    {base : Option Addr} {len cap k : Nat} {x' : Value} {us : List Value} (hx : Added P w e xt k us x') (hle : len + k ≤ cap) {w' : World}
    (hst : ((match base with
        | some a => storeCells (a.add (len * inf.size)) us
        | none => pure ()) : Sem Unit).run P w = .ok () w') :
    (Builtin.append_ ts ty #[.slice base len cap, x']).run P w = .ok (.slice base (len + k) cap) w' := by
  cases hx with
  | zeros hxu hi' hz hs hb hk hus =>
    rename_i kk kk' z
    rw [hi] at hi'; cases hi'
    have hneg : ¬ ((k : Int) < 0) := by omega
    have wk : IntKind.i64.wrap (k : Int) = k := IntWalk.i64_in _ (by omega)
    have hb' : ¬ (281474976710656 < (k : Int) * (inf.bytes : Int)) := by rw [← Int.natCast_mul]; omega
    subst hus
    by_cases hk0 : k * inf.size = 0
    · have hnil : (Builtin.zeroCells z.cells k).toList = [] := by unfold Builtin.zeroCells; rw [hs, hk0]; simp
      rw [hnil] at hst
      cases base with
      | none => simp at hst; subst hst; simp [Builtin.append_, h0, h1, run_underlying hu, run_underlying hxu, sizeOf, typeInfo, zeroValue, hi, hz, asInt, asIntOf, wk, hb', hneg, hle]
      | some a => simp [Builtin.append_, h0, h1, run_underlying hu, run_underlying hxu, sizeOf, typeInfo, zeroValue, hi, hz, asInt, asIntOf, wk, hb', hneg, hle, hk0]; simp at hst; simp [hst]
    · cases base with
      | none => simp at hst; subst hst; simp [Builtin.append_, h0, h1, run_underlying hu, run_underlying hxu, sizeOf, typeInfo, zeroValue, hi, hz, asInt, asIntOf, wk, hb', hneg, hle]
      | some a => simp [Builtin.append_, h0, h1, run_underlying hu, run_underlying hxu, sizeOf, typeInfo, zeroValue, hi, hz, asInt, asIntOf, wk, hb', hneg, hle, hk0]; simp at hst; simp [hst]
  | copy hxu hd hl hi' hc =>
    rw [hi] at hi'; cases hi'
    cases base with
    | none => simp at hst; subst hst; rcases hd with ⟨e', rfl⟩ | rfl <;> simp [Builtin.append_, h0, h1, run_underlying hu, run_underlying hxu, sizeOf, typeInfo, hi, hl, hle, hc]
    | some a => simp at hst; rcases hd with ⟨e', rfl⟩ | rfl <;> simp [Builtin.append_, h0, h1, run_underlying hu, run_underlying hxu, sizeOf, typeInfo, hi, hl, hle, hc, hst]
theorem lenOf_any {x' : Value} {k : Nat} {w2 : World} (h : (Builtin.lenOf x').run P w = .ok k w) : (Builtin.lenOf x').run P w2 = .ok k w2 := by
  cases x' <;> simp [Builtin.lenOf] at h ⊢ <;> exact h
set_option maxHeartbeats 2000000 in
theorem append_grow {t e xt : TypeId} {inf : TypeInfo} {z : Value} {ts : Array TypeId} (hu : P.underlying t = some (.slice e)) (h0 : ts[0]? = some t) (h1 : ts[1]? = some xt) (ty : TypeId) (hi : P.info? e = some inf) (hz : inf.zero = some z) (hs : z.cells.size = inf.size)
    {base : Option Addr} {len cap k : Nat} {x' : Value} {us old : List Value} (hx : Added P w.drew e xt k us x') (hg : cap < len + k) (h48 : (len + k) * inf.bytes ≤ 140737488355328) (h63 : len + k < 9223372036854775808)
    (hold : (Builtin.firstCells inf.size len (.slice base len cap)).run P w.drew = .ok old.toArray w.drew) :
    (Builtin.append_ ts ty #[.slice base len cap, x']).run P w = .ok (.slice (some ⟨w.heap.size, 0, none⟩) (len + k) (grownCap w (len + k) cap e))
        (w.drew.alloc (.cells (old.toArray ++ us.toArray ++ Builtin.zeroCells z.cells (grownCap w (len + k) cap e - (len + k))) e)) := by
  have hn : ¬ (len + k ≤ cap) := by omega
  have h63' : ¬ (9223372036854775807 < ((len : Int) + (k : Int))) := by omega
  have h48' : ¬ (281474976710656 < Builtin.nextslicecap (len + k) cap * inf.bytes) := by have := growslice_fits hg h48; omega
  cases hx with
  | zeros hxu hi' hz' hs' hb hk hus =>
    rename_i kk kk' z'
    rw [hi] at hi'; cases hi'
    rw [hz] at hz'; cases hz'
    have hneg : ¬ ((k : Int) < 0) := by omega
    have wk : IntKind.i64.wrap (k : Int) = k := IntWalk.i64_in _ (by omega)
    have hb' : ¬ (281474976710656 < (k : Int) * (inf.bytes : Int)) := by rw [← Int.natCast_mul]; omega
    subst hus
    by_cases hk0 : k * inf.size = 0
    · have hnil : Builtin.zeroCells z.cells k = #[] := by unfold Builtin.zeroCells; rw [hs, hk0]; simp
      rw [hnil]
      simp [Builtin.append_, h0, h1, run_underlying hu, run_underlying hxu, sizeOf, typeInfo, zeroValue, hi, hz, asInt, asIntOf, wk, hb', hneg, hn, h63', h48', Question.forced, hold, newRow, grownCap, hk0]
    · simp [Builtin.append_, h0, h1, run_underlying hu, run_underlying hxu, sizeOf, typeInfo, zeroValue, hi, hz, asInt, asIntOf, wk, hb', hneg, hn, h63', h48', Question.forced, hold, newRow, grownCap, hk0]
  | copy hxu hd hl hi' hc =>
    rw [hi] at hi'; cases hi'
    have hl' := lenOf_any (w2 := w) hl
    rcases hd with ⟨e', rfl⟩ | rfl <;> simp [Builtin.append_, h0, h1, run_underlying hu, run_underlying hxu, sizeOf, typeInfo, zeroValue, hi, hz, hl', hn, h63', h48', Question.forced, hold, hc, newRow, grownCap] <;> (congr 2; apply Array.ext'; simp [List.append_assoc])
end

end Am
end Go.Proofs.YtdmfdclkpdliaaaGreatDoor
