/- Each operation of the abstract machine is what the model does: part five: slices, indexes, addresses. No condition. -/
import Derived.Test.YtdmfdclkpdliaaaGreatDoorOpn
namespace Go.Proofs.YtdmfdclkpdliaaaGreatDoor
namespace Am
open Go

section
variable {P : Program} {w : World} {T : Tab} {φ : Phi} {s : St}
theorem TiOk.slice {t e : TypeId} {i : TI} (h : TiOk P t i) (hd : i.td = .slice e) : P.underlying t = some (.slice e) := by
  obtain ⟨d, h1, h2, _⟩ := h.under
  rw [hd] at h2
  cases d <;> simp only [tdOf] at h2 <;> cases h2
  exact h1
theorem TiOk.array {t e : TypeId} {n : Nat} {i : TI} (h : TiOk P t i) (hd : i.td = .array n e) : P.underlying t = some (.array n e) := by
  obtain ⟨d, h1, h2, _⟩ := h.under
  rw [hd] at h2
  cases d <;> simp only [tdOf] at h2 <;> cases h2
  exact h1
theorem TiOk.map {t k e : TypeId} {i : TI} (h : TiOk P t i) (hd : i.td = .map k e) : P.underlying t = some (.map k e) := by
  obtain ⟨d, h1, h2, _⟩ := h.under
  rw [hd] at h2
  cases d <;> simp only [tdOf] at h2 <;> cases h2
  exact h1
theorem TiOk.string {t : TypeId} {i : TI} (h : TiOk P t i) (hd : i.td = .string) : P.underlying t = some .string := by
  obtain ⟨d, h1, h2, _⟩ := h.under
  rw [hd] at h2
  cases d <;> simp only [tdOf] at h2 <;> cases h2
  exact h1
theorem TiOk.int {t : TypeId} {k : IntKind} {i : TI} (h : TiOk P t i) (hd : i.td = .int k) : P.underlying t = some (.int k) := by
  obtain ⟨d, h1, h2, _⟩ := h.under
  rw [hd] at h2
  cases d <;> simp only [tdOf] at h2 <;> cases h2
  exact h1
theorem TiOk.struct {t : TypeId} {fs : List (Nat × TypeId × Bool)} {i : TI} (h : TiOk P t i) (hd : i.td = .struct fs) : ∃ fs', P.underlying t = some (.struct fs') ∧ fs = fs'.toList.map fun f => (f.offset, f.type, f.name == "_") := by
  obtain ⟨d, h1, h2, _⟩ := h.under
  rw [hd] at h2
  cases d <;> simp only [tdOf] at h2 <;> cases h2
  exact ⟨_, h1, rfl⟩

theorem zeros_run {e : TypeId} {ei : TI} (tk : TiOk P e ei) (n : Nat) (w : World) : ∃ zc : Array Value, (∀ φ, VRs φ (rep n ei.zero) ((Array.range (n * ei.size)).map (zc[· % zc.size]!)).toList) ∧
    ∀ {β : Type} (K : Array Value → Sem β), (if n * ei.size = 0 then (pure #[] : Sem (Array Value)) >>= K else zeroValue e >>= fun z => (pure z.cells : Sem (Array Value)) >>= K).run P w = (K zc).run P w := by
  obtain ⟨z, z1, z2, z3, z4⟩ := tk.run_zero w
  have hz : z.cells.size = ei.size := by
    have := (z2 (fun _ => none)).length
    rw [← Array.length_toList, this, z4]
  by_cases h0 : n * ei.size = 0
  · refine ⟨#[], fun φ => ?_, fun K => by simp [h0]⟩
    rw [h0]
    have : rep n ei.zero = [] := by
      apply List.eq_nil_of_length_eq_zero
      rw [rep_length, z4]; exact h0
    rw [this]; simp; exact .nil
  · refine ⟨z.cells, fun φ => ?_, fun K => by simp [h0, z1]⟩
    have := rep_vals (z2 φ) n
    rw [hz] at this ⊢
    exact this

theorem buildSlice_run (tok : TabOk P T) (m : Mem φ s w) (hf : φ s.n = none) {t e : TypeId} {i ei : TI} (hi : T.ti t = some i) (htd : i.td = .slice e) (he : T.ti e = some ei) {n : Nat} (hn : n * ei.size ≤ 16777216)
    {l : List (Nat × AV)} {l' : Array (Nat × Value)} (hl : PRs φ l l'.toList) {cs : List AV} (h : fillAt (fun j => some (j * ei.size, ei.size)) (rep n ei.zero) l = some cs) :
    ∃ φ' v w', (Instr.buildSlice t n l').run P w = .ok v w' ∧ VR φ' (.slice s.n 0 n n 2 ei.size) v ∧ Mem φ' (s.new cs e).2 w' ∧ Mv φ s w φ' (s.new cs e).2 w' := by
  have te := tok.ti _ _ he
  obtain ⟨zc, z2, z1⟩ := zeros_run te n w
  obtain ⟨z0, _, _, z3, z5⟩ := te.run_zero w
  obtain ⟨r', f1, f2, f3, f4⟩ := fill_run (fun _ _ h => h) l l'.toList (rep n ei.zero) _ cs h hl (z2 φ) (rep_all n z3)
  obtain ⟨φ', w', b1, b2, b3, b4⟩ := block_run (P := P) m hf (us := r') (vs := r'.toList) (rest := []) (by simp) f2 f3 e e
  refine ⟨φ', .slice (some ⟨w.heap.size, 0, none⟩) n n, w', ?_, ?_, b3, b4⟩
  · have h0 : ¬ (n * ei.size > 2 ^ 24) := by omega
    simp only [Instr.buildSlice, Sem.run_bind, run_underlying ((tok.ti _ _ hi).slice htd), Result.andThen_ok, te.run_size, if_neg h0]
    refine (z1 _).trans ?_
    simp only [f1, Sem.run_bind, b1, Result.andThen_ok, Sem.run_pure]
  · refine .slice b2 (Nat.le_refl _) (Nat.le_refl _) (fun _ => rfl) ?_
    have h1 : r'.size = n * ei.size := by rw [← Array.length_toList, f2.length, f4, rep_length, z5]
    omega

theorem bound_run {v : AV} {v' : Value} (hv : VR φ v v') {y a : Nat} (h : bound v y = some a) {y' : Nat} (hy : y ≤ y') (code : BoundsCode) (w : World) : (Instr.sliceBound v' y' code).run P w = .ok a w ∧ a ≤ y := by
  unfold bound at h
  split at h
  · rename_i k i
    cases hv
    split at h
    · rename_i a' ha
      split at h
      · rename_i hle
        cases h
        have := toNat?_some ha; subst this
        have hle := Nat.le_of_ble_eq_true hle
        refine ⟨?_, hle⟩
        have h0 : (0 : Int) ≤ (a : Int) ∧ (a : Int) ≤ (y' : Int) := by omega
        simp only [Instr.sliceBound, asIntOf, Sem.run_bind, Sem.run_pure, Result.andThen_ok, Sem.run_ite, if_pos h0]
        simp
      · cases h
    · cases h
  · cases h
def OR (φ : Phi) : Option AV → Option Value → Prop
  | none, none => True
  | some a, some v => VR φ a v
  | _, _ => False
theorem bounds_run {len cap cap' l h m : Nat} {lo hi mx : Option AV} {lo' hi' mx' : Option Value} (e : bounds len cap lo hi mx = some (l, h, m)) (hl : OR φ lo lo') (hh : OR φ hi hi') (hm : OR φ mx mx') (hlen : len ≤ cap) (hc : cap ≤ cap') (b : Bool) (w : World) :
    (Instr.sliceBounds b len cap' lo' hi' mx').run P w = .ok (l, h, if mx.isSome then m else cap') w ∧ l ≤ h ∧ h ≤ m ∧ m ≤ cap ∧ (mx = none → m = cap) := by
  unfold bounds at e
  split at e
  · cases e
  · rename_i m0 hm0
    split at e
    · cases e
    · rename_i h0 hh0
      split at e
      · cases e
      · rename_i l0 hl0
        cases e
        unfold Instr.sliceBounds
        cases mx with
        | none =>
          cases mx' with
          | some _ => exact hm.elim
          | none =>
            simp only at hm0; cases hm0
            have hi2 : ((match hi', (none : Option Value) with
                | some v, some _ => Instr.sliceBound v cap' .slice3B
                | some v, none => Instr.sliceBound v cap' (if b then .sliceAcap else .sliceAlen)
                | none, none => pure len
                | none, some _ => stuck "Slice: max without high") : Sem Nat).run P w = .ok h w ∧ h ≤ cap := by
              cases hi with
              | none => cases hi' with
                | some _ => exact hh.elim
                | none => simp at hh0; subst hh0; exact ⟨by simp, hlen⟩
              | some v => cases hi' with
                | none => exact hh.elim
                | some v' => exact bound_run hh hh0 hc _ w
            have lo2 : ((match lo' with
                | some v => Instr.sliceBound v h .sliceB
                | none => pure 0) : Sem Nat).run P w = .ok l w ∧ l ≤ h := by
              cases lo with
              | none => cases lo' with
                | some _ => exact hl.elim
                | none => simp at hl0; subst hl0; exact ⟨by simp, by omega⟩
              | some v => cases lo' with
                | none => exact hl.elim
                | some v' => exact bound_run hl hl0 (Nat.le_refl _) _ w
            refine ⟨?_, lo2.2, hi2.2, Nat.le_refl _, fun _ => rfl⟩
            simp only [Sem.run_bind, Sem.run_pure, Result.andThen_ok]
            have e1 := hi2.1
            have e2 := lo2.1
            cases hi' <;> cases lo' <;> simp_all
        | some vm =>
          cases mx' with
          | none => exact hm.elim
          | some vm' =>
            have hm1 := bound_run (P := P) hm hm0 hc (if b then .slice3Acap else .slice3Alen) w
            cases hi with
            | none => simp at hh0
            | some v => cases hi' with
              | none => exact hh.elim
              | some v' =>
                have hi2 := bound_run (P := P) hh hh0 (Nat.le_refl _) .slice3B w
                have lo2 : ((match lo' with
                    | some v => Instr.sliceBound v h .slice3C
                    | none => pure 0) : Sem Nat).run P w = .ok l w ∧ l ≤ h := by
                  cases lo with
                  | none => cases lo' with
                    | some _ => exact hl.elim
                    | none => simp at hl0; subst hl0; exact ⟨by simp, by omega⟩
                  | some v => cases lo' with
                    | none => exact hl.elim
                    | some v' => exact bound_run hl hl0 (Nat.le_refl _) _ w
                refine ⟨?_, lo2.2, hi2.2, hm1.2, fun h => by cases h⟩
                have e2 := lo2.1
                simp only [Sem.run_bind, hm1.1, Result.andThen_ok, hi2.1]
                cases lo' <;> simp_all
end

section
variable {P : Program} {w : World} {T : Tab} {φ : Phi} {s : St}
theorem extract_bytes (s : List UInt8) (l h : Nat) : (ByteArray.mk ⟨s⟩).extract l h = ByteArray.mk ⟨(s.drop l).take (h - l)⟩ := by
  apply ByteArray.ext
  apply Array.ext'
  simp [ByteArray.data_extract, List.extract]
theorem slice_run (tok : TabOk P T) (m : Mem φ s w) {t : TypeId} {x r : AV} {lo hi mx : Option AV} (e : slice T t s x lo hi mx = some r) {x' : Value} {lo' hi' mx' : Option Value} (hx : VR φ x x') (hl : OR φ lo lo') (hh : OR φ hi hi') (hm : OR φ mx mx') :
    ∃ v, (Instr.sliceAt t x' lo' hi' mx').run P w = .ok v w ∧ VR φ r v := by
  unfold slice at e
  split at e
  · cases e
  · rename_i i hi0
    have tk := tok.ti _ _ hi0
    split at e
    · rename_i xs htd
      split at e
      · cases e
      · rename_i hmx
        cases mx with
        | some _ => simp at hmx
        | none =>
          cases mx' with
          | some _ => exact hm.elim
          | none =>
            cases hx
            split at e
            · rename_i l h m0 hb
              cases e
              have hb' := bounds_run (P := P) hb hl hh (mx' := none) trivial (Nat.le_refl _) (Nat.le_refl _) false w
              have hsz : (ByteArray.mk ⟨xs⟩).size = xs.length := rfl
              refine ⟨_, ?_, .str _⟩
              simp only [Instr.sliceAt, Instr.slice, Sem.run_bind, run_underlying (tk.string htd), Result.andThen_ok, Option.isSome_none, Bool.false_eq_true, if_false, hsz, hb'.1, Sem.run_pure]
              rw [extract_bytes]
            · cases e
    · rename_i el htd
      cases hx
      split at e
      · rename_i ei x0 he hb
        obtain ⟨l, h, m0⟩ := x0
        cases e
        have hb' := bounds_run (P := P) hb hl hh hm (Nat.le_refl _) (Nat.le_refl _) true w
        obtain ⟨hr, h1, h2, h3, h4⟩ := hb'
        have e1 : h = 0 := by omega
        have e2 : l = 0 := by omega
        have e3 : m0 = 0 := by omega
        subst e1; subst e2; subst e3
        have hm0 : (if mx.isSome then 0 else 0) = 0 := by split <;> rfl
        rw [hm0] at hr
        refine ⟨.slice none 0 0, ?_, .nilslice⟩
        simp [Instr.sliceAt, Instr.slice, Sem.run_bind, run_underlying (tk.slice htd), hr, (tok.ti _ _ he).run_size]
      · cases e
    · rename_i el b o len cap ex sz htd
      split at e
      · cases e
      · rename_i ei he
        have te := tok.ti _ _ he
        split at e
        · cases e
        · rename_i l h m0 hb
          cases hx with
          | slice hφ h1 h2 h3 h4 =>
            rename_i B z c
            have hb' := bounds_run (P := P) hb hl hh hm h1 h2 true w
            obtain ⟨hr, hlh, hhm, hmc, hmn⟩ := hb'
            split at e
            · cases e
            · rename_i hsz
              have hsz : sz = ei.size := Nat.eq_of_beq_eq_true (by simpa using hsz)
              subst hsz
              have run : (Instr.sliceAt t (.slice (some ⟨B, o, none⟩) len c) lo' hi' mx').run P w = .ok (.slice (some (if (if mx.isSome then m0 else c) = l then ⟨B, o, none⟩ else ⟨B, o + l * ei.size, none⟩)) (h - l) ((if mx.isSome then m0 else c) - l)) w := by
                simp only [Instr.sliceAt, Instr.slice, Sem.run_bind, run_underlying (tk.slice htd), Result.andThen_ok, hr, te.run_size, Sem.run_pure]
                by_cases hM : (if mx.isSome then m0 else c) = l <;> simp [hM, Addr.add_mid]
              split at e
              · rename_i hk
                cases e
                have hm0 : (if mx.isSome then m0 else c) = m0 := by
                  cases hq : mx.isSome with
                  | true => rfl
                  | false =>
                    rw [hq] at hk
                    have : ex = 2 := by simpa using hk
                    have hmx : mx = none := by simpa using hq
                    simp [hmn hmx, h3 this]
                rw [hm0] at run
                refine ⟨_, run, ?_⟩
                by_cases hml : m0 = l
                · rw [if_pos hml, if_pos (by simpa using hml)]
                  refine .slice hφ (by omega) (Nat.le_refl _) (fun _ => rfl) ?_
                  have : (m0 - l) * ei.size = 0 := by rw [hml]; simp
                  omega
                · rw [if_neg hml, if_neg (by simpa using hml)]
                  refine .slice hφ (by omega) (Nat.le_refl _) (fun _ => rfl) ?_
                  have h5 : l * ei.size + (m0 - l) * ei.size = m0 * ei.size := by rw [← Nat.add_mul]; congr 1; omega
                  have h6 : m0 * ei.size ≤ c * ei.size := Nat.mul_le_mul_right _ (by omega)
                  omega
              · rename_i hk
                split at e
                · rename_i hk2
                  cases e
                  have hmx : mx = none := by
                    cases mx with
                    | none => rfl
                    | some _ => simp at hk
                  have hcl : m0 = cap := hmn hmx
                  subst hmx
                  simp only [Option.isSome_none, Bool.false_eq_true, if_false] at run
                  have haddr : (if c = l then (⟨B, o, none⟩ : Addr) else ⟨B, o + l * ei.size, none⟩) = ⟨B, o + l * ei.size, none⟩ := by
                    split
                    · rename_i hcl2
                      simp only [Bool.or_eq_true, Nat.blt_eq, Nat.beq_eq] at hk2
                      rcases hk2 with h7 | h7
                      · omega
                      · subst h7; simp
                    · rfl
                  rw [haddr] at run
                  refine ⟨_, run, .slice hφ (by omega) (by omega) (fun h8 => ?_) ?_⟩
                  · simp at hk; exact absurd h8 hk
                  · have h5 : l * ei.size + (c - l) * ei.size = c * ei.size := by rw [← Nat.add_mul]; congr 1; omega
                    omega
                · cases e
    · rename_i n el b o htd
      split at e
      · cases e
      · rename_i ei he
        have te := tok.ti _ _ he
        split at e
        · rename_i l h m0 cs hb hcs
          split at e
          · rename_i hle
            have hle := Nat.le_of_ble_eq_true hle
            cases e
            cases hx with
            | ptr hφ =>
              rename_i B z
              obtain ⟨c, tt, fr, vs, rest, w1, w2, w3, w4, w5⟩ := cells_at m hcs hφ
              have hzl : cs.length ≤ z := by
                have := w4.length
                have : c.size = vs.length + rest.length := by rw [← Array.length_toList, w3, List.length_append]
                omega
              obtain ⟨hr, hlh, hhm, hmc, hmn⟩ := bounds_run (P := P) hb hl hh hm (Nat.le_refl _) (Nat.le_refl _) false w
              have hm0 : (if mx.isSome then m0 else n) = m0 := by
                cases hq : mx.isSome with
                | true => rfl
                | false => have hmx : mx = none := by simpa using hq
                           simp [hmn hmx]
              rw [hm0] at hr
              refine ⟨.slice (some (if m0 = l then ⟨B, o, none⟩ else ⟨B, o + l * ei.size, none⟩)) (h - l) (m0 - l), ?_, ?_⟩
              · simp only [Instr.sliceAt, Instr.sureAddr, Sem.run_bind, run_underlying (tk.array htd), Result.andThen_ok, hr, te.run_size, Sem.run_pure]
                by_cases hM : m0 = l <;> simp [hM, Addr.add_mid]
              · by_cases hml : m0 = l
                · rw [if_pos hml, if_pos (by simpa using hml)]
                  refine .slice hφ (by omega) (Nat.le_refl _) (fun _ => rfl) ?_
                  have : (m0 - l) * ei.size = 0 := by rw [hml]; simp
                  omega
                · rw [if_neg hml, if_neg (by simpa using hml)]
                  refine .slice hφ (by omega) (Nat.le_refl _) (fun _ => rfl) ?_
                  have h5 : l * ei.size + (m0 - l) * ei.size = m0 * ei.size := by rw [← Nat.add_mul]; congr 1; omega
                  have h6 : m0 * ei.size ≤ n * ei.size := Nat.mul_le_mul_right _ (by omega)
                  omega
          · cases e
        · cases e
    · cases e
end

end Am
end Go.Proofs.YtdmfdclkpdliaaaGreatDoor
