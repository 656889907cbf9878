/- The call of awake answers true in every world and turns nothing that was there, given strings.Join's contract. -/
import Derived.Test.YtdmfdclkpdliaaaGreatDoorEv
import Derived.Test.YtdmfdclkpdliaaaGreatDoorJon
import Derived.Below
import Derived.Lib.Join
namespace Go.Proofs.YtdmfdclkpdliaaaGreatDoor
namespace Am
open Go Go.RowKit

/- strings.Join, as this program has it -/
def JoinC : Prop := ∀ (bk o c : Nat) (xs : List ByteArray) (sep : ByteArray) (w : World), (∀ (j : Nat) x, xs[j]? = some x → w.cell? ⟨bk, o + j, none⟩ = some (.string x)) → bk < w.heap.size → xs.length ≤ 140737488355328 → xs.length ≤ c → (Lib.join (xs.map (·.data.toList)) sep.data.toList).length ≤ 140737488355328 →
  Calls Tryz.prog 72 #[.slice (some ⟨bk, o, none⟩) xs.length c, .string sep] w fun e w' => e = .returned (.string ⟨(Lib.join (xs.map (·.data.toList)) sep.data.toList).toArray⟩) ∧ Below w.heap.size w w'

theorem Mem.below {φ : Phi} {s : St} {w w' : World} (m : Mem φ s w) (b : Below w.heap.size w w') : Mem φ { s with lo := min s.lo s.n } w' ∧ Mv φ s w φ { s with lo := min s.lo s.n } w' := by
  have keep : ∀ b' x, BR φ w b' x → BR φ w' b' x := fun b' x h => h.keep (Phi.le_refl _) (fun B z hB => by
    obtain ⟨B2, z2, h1, h2⟩ := h.at
    rw [hB] at h1; cases h1
    exact b.block B h2)
  refine ⟨⟨fun b' x h => ⟨(m.heap b' x h).1, keep _ _ (m.heap b' x h).2⟩, fun t g cs h => ⟨(m.locs t g cs h).1, (m.locs t g cs h).2.1, keep _ _ (m.locs t g cs h).2.2⟩, m.uniq, m.inj⟩, ⟨Phi.le_refl _, fun _ _ => rfl, Nat.le_refl _, Nat.min_le_left _ _, b.os, b.tape, b.output, b.size, fun B hB _ => b.block B hB, fun b' B z h e => .inr (.inl ⟨h, e⟩), fun b' B z h e => .inr ⟨h, e⟩⟩⟩

theorem joinGo_vals {φ : Phi} {sep : List UInt8} : ∀ {l : List AV} {r : List UInt8} {us : List Value}, joinGo sep l = some r → VRs φ l us → ∃ xs : List (List UInt8), us = xs.map (fun x => Value.string ⟨⟨x⟩⟩) ∧ r = Lib.join xs sep ∧ xs.length = l.length
  | [], r, us, h, hv => by
    cases hv
    simp only [joinGo] at h
    cases h
    exact ⟨[], rfl, rfl, rfl⟩
  | a :: l, r, us, h, hv => by
    cases hv with
    | cons h1 h2 =>
      cases a <;> simp only [joinGo] at h <;> try (cases h; done)
      rename_i s
      cases h1
      cases l with
      | nil =>
        cases h2
        simp only at h
        cases h
        exact ⟨[r], rfl, (Lib.join_one r sep).symm, rfl⟩
      | cons y l =>
        simp only at h
        split at h
        · rename_i t ht
          cases h
          obtain ⟨xs, q1, q2, q3⟩ := joinGo_vals ht h2
          refine ⟨s :: xs, by rw [q1]; rfl, ?_, by simp [q3]⟩
          cases xs with
          | nil => simp at q3
          | cons x xs => rw [q2]; simp [Lib.join, List.intercalate, List.intersperse]
        · cases h

theorem joinPrim_ok (J : JoinC) : CalleeOk Tryz.prog (fun f' => if f' = 72 then joinPrim else fun _ _ _ => none) := by
  intro f args s r h
  dsimp only at h
  split at h
  · rename_i hf
    subst hf
    unfold joinPrim at h
    split at h
    · rename_i b o len cap ex sz sep
      split at h
      · rename_i cs hcs
        split at h
        · rename_i vs hvs
          split at h
          · rename_i t ht
            split at h
            · rename_i hb
              simp only [Bool.and_eq_true] at hb
              cases h
              refine ⟨⟨Tryz.f72, Tryz.func72, by kernel_rfl, by kernel_rfl⟩, Nat.le_refl _, ?_⟩
              intro φ w us m _ hvu
              obtain ⟨us⟩ := us
              simp only at hvu
              cases hvu with
              | cons h1 h2 =>
                cases h2 with
                | cons h2 h3 =>
                  cases h3; cases h2
                  cases h1 with
                  | slice hφ g1 g2 g3 g4 =>
                    rename_i B z c
                    obtain ⟨cc, tt, fr, ws, rest, w1, w2, w3, w4, w5⟩ := cells_at m hcs hφ
                    unfold cellsAt at hvs
                    split at hvs
                    · rename_i hle
                      cases hvs
                      obtain ⟨xs, q1, q2, q3⟩ := joinGo_vals ht ((w4.drop o).take len)
                      have hR := range_of (n := len) (o := o) w1 w3
                      rw [q1] at hR
                      have hlen : xs.length = len := by rw [q3]; simp; omega
                      have hB : B < w.heap.size := (Array.getElem?_eq_some_iff.1 w1).1
                      have hm : (xs.map (fun x => ByteArray.mk ⟨x⟩)).map (·.data.toList) = xs := by
                        rw [List.map_map]
                        simp [Function.comp_def]
                      have hJ := J B o c (xs.map (fun x => ByteArray.mk ⟨x⟩)) ⟨⟨sep⟩⟩ w (fun j x hx => ?_) hB (by rw [List.length_map, hlen]; exact Nat.le_of_ble_eq_true hb.1) (by rw [List.length_map, hlen]; omega) (by rw [hm, ← q2]; exact Nat.le_of_ble_eq_true hb.2)
                      · rw [hm, List.length_map, hlen] at hJ
                        refine hJ.mono ?_
                        rintro e w' ⟨rfl, hbel⟩
                        obtain ⟨m1, m2⟩ := m.below hbel
                        exact ⟨φ, by rw [q2]; exact .str _, m1, m2⟩
                      · rw [List.getElem?_map] at hx
                        cases hq : xs[j]? with
                        | none => rw [hq] at hx; cases hx
                        | some y =>
                          rw [hq] at hx
                          cases hx
                          exact hR j _ (by rw [List.getElem?_map, hq]; rfl)
                    · cases hvs
            · cases h
          · cases h
        · cases h
      · cases h
    · cases h
  · cases h

theorem TrAll.get {α : Type} {p : Nat → α → Prop} : ∀ {t : Tr α} {g : Nat → Nat}, TrAll p t g → ∀ {k : Nat} {x : α}, t.get k = some x → p (g k) x
  | .lf, g, _, k, x, h => by cases h
  | .nd l v r, g, ⟨h1, h2, h3⟩, k, x, h => by
    simp only [Tr.get] at h
    split at h
    · rename_i hk
      subst hk
      exact h2 x h
    · rename_i hk
      split at h
      · rename_i ho
        have := TrAll.get h1 h
        have e : 2 * (k / 2) + 1 = k := by omega
        simp only [e] at this
        exact this
      · rename_i ho
        have := TrAll.get h3 h
        have e : 2 * (k / 2 - 1) + 2 = k := by omega
        simp only [e] at this
        exact this

theorem tab_ok (J : JoinC) : FnOk Tryz.prog tab := {
  ti := ⟨fun t i h => tiGet_ok (TrAll.get tiTab_all h)⟩
  fn := fun f fn esc h => TrAll.get fnTab_all h
  prim := fun f g h => by
    simp only [tab] at h
    split at h
    · rename_i hf
      have hf := Nat.eq_of_beq_eq_true hf
      subst hf
      cases h
      exact joinPrim_ok J
    · cases h }

theorem isTrue_some {x : Option Res} (h : isTrue x = true) : ∃ r, x = some r ∧ r.v = .bool true := by
  unfold isTrue at h
  split at h
  · rename_i b n lo h'
    subst h
    exact ⟨_, rfl, rfl⟩
  · cases h
theorem calls_closed {P : Program} {C : FuncId → Fun} (ck : CalleeOk P C) {f : FuncId} {r : Res} (hr : C f [] 0 noBlocks = some r) (w : World) : Calls P f #[] w fun e w' => match e with
    | .returned v => ∃ φ', VR φ' r.v v ∧ Below w.heap.size w w'
    | _ => False := by
  obtain ⟨_, _, hc⟩ := ck f [] { regs := .lf, locs := .lf, n := 0, lo := 0, h := noBlocks, nt := 0 } r hr
  have m : Mem (fun _ => none) { regs := .lf, locs := .lf, n := 0, lo := 0, h := noBlocks, nt := 0 } w := ⟨fun b x h => (by cases h), fun t g cs h => (by cases h), fun t t' g cs cs' h => (by cases h), fun b b' B z z' _ _ h => (by cases h)⟩
  refine (hc (fun _ => none) w #[] m (fun _ _ _ => rfl) .nil).mono ?_
  intro e w' he
  cases e with
  | returned v =>
    obtain ⟨φ', hv, _, mv⟩ := he
    exact ⟨φ', hv, mv.os, mv.tape, mv.output, mv.size, fun B hB => mv.fr B hB (fun b z _ h => (by cases h))⟩
  | panicked chain => exact he.elim
  | outgrown => exact he.elim
theorem awake_calls (J : JoinC) (w : World) : Calls Tryz.prog 5 #[] w fun e w' => e = .returned (.bool true) ∧ Below w.heap.size w w' := by
  obtain ⟨r, hr, hv⟩ := isTrue_some awake_true
  refine (calls_closed (call_sound (tab_ok J) (by kernel_rfl) 5000 60) hr w).mono ?_
  intro e w' he
  cases e with
  | returned v =>
    obtain ⟨φ', h1, h2⟩ := he
    rw [hv] at h1
    cases h1
    exact ⟨rfl, h2⟩
  | panicked chain => exact he.elim
  | outgrown => exact he.elim

/- awake, in every world -/
theorem awake_returns (w : World) : Calls Tryz.prog 5 #[] w fun e w' => e = .returned (.bool true) ∧ Below w.heap.size w w' := awake_calls join_calls w

end Am
end Go.Proofs.YtdmfdclkpdliaaaGreatDoor
