/- Each operation of the abstract machine is what the model does: part seven: map stores, conversions, len, min, copy, append. No condition. -/
import Derived.Test.YtdmfdclkpdliaaaGreatDoorOpr
import Derived.Laws.Append
namespace Go.Proofs.YtdmfdclkpdliaaaGreatDoor
namespace Am
open Go

section
variable {P : Program} {w : World} {T : Tab} {φ : Phi} {s : St}
theorem ER.append {φ : Phi} : ∀ {a : List (AV × AV)} {v : List MapEntry} {b : List (AV × AV)} {u : List MapEntry}, ER φ a v → ER φ b u → ER φ (a ++ b) (v ++ u)
  | _, _, _, _, .nil, k => k
  | _, _, _, _, .cons h1 h2 e, k => .cons h1 h2 (e.append k)
theorem mapPut_run (tok : TabOk P T) (m : Mem φ s w) {t : TypeId} {mv kv x : AV} {s' : St} (h : mapPut T t s mv kv x = some s') {m' k' x' : Value} (hm : VR φ mv m') (hk : VR φ kv k') (hx : VR φ x x') :
    ∃ w', (Instr.mapUpdate t m' k' x').run P w = .ok () w' ∧ Mem φ s' w' ∧ Mv φ s w φ s' w' := by
  unfold mapPut at h
  split at h
  · rename_i kt et _ _ _ _ _ b hi
    have hu := (tok.ti _ _ hi).map rfl
    split at h
    · rename_i es hg hko
      split at h
      · rename_i hq
        cases h
        cases (m.heap _ _ hg).2 with
        | map hb hw he =>
          rename_i B z entries clock
          cases hm with
          | map hb' =>
            rw [hb] at hb'; cases hb'
            obtain ⟨de, hkt⟩ := keyOk_under tok hko
            have hck := keyOk_run (w := w) tok false 20 kt kv hko 10000 k' (by decide) hk
            obtain ⟨fr, f1, f2⟩ := findKey_run (w := w) tok hkt hk hq he
            cases fr with
            | some _ => exact f2.elim
            | none =>
              have hlt : B < w.heap.size := (Array.getElem?_eq_some_iff.1 hw).1
              have hb2 : ({ w with heap := w.heap.setIfInBounds B (.map (entries.push { key := k', val := x', born := clock }) (clock + 1)) } : World).heap[B]? = some (.map (entries.push { key := k', val := x', born := clock }) (clock + 1)) := by
                simp [hlt]
              refine ⟨{ w with heap := w.heap.setIfInBounds B (.map (entries.push { key := k', val := x', born := clock }) (clock + 1)) }, ?_, m.write ⟨_, hg⟩ hb ⟨fun k hk => ?_, ?_, rfl, rfl, rfl⟩ (.map hb hb2 ?_)⟩
              · simp [Instr.mapUpdate, run_underlying hu, getObj, setObj, Sem.run, hw, hck, f1]
              · simp [Array.getElem?_setIfInBounds_ne (Ne.symm hk)]
              · simp
              · simp only [Array.toList_push]
                exact he.append (.cons hk hx .nil)
      · cases h
    · cases h
  · cases h
theorem makeMap_run (m : Mem φ s w) (hf : φ s.n = none) (t : TypeId) :
    ∃ φ' v w', (Instr.makeMap t none).run P w = .ok v w' ∧ VR φ' (.map s.n) v ∧ Mem φ' { s with n := s.n + 1, h := s.h.put s.n (some (.map [])) } w' ∧ Mv φ s w φ' { s with n := s.n + 1, h := s.h.put s.n (some (.map [])) } w' := by
  have g : Grew w { w with heap := w.heap.push (.map #[] 0) } (.map #[] 0) := ⟨rfl, rfl, rfl, rfl⟩
  have := m.block hf (z := 0) (x := .map []) g (.map (Phi.add_self _ _ _) g.new .nil)
  exact ⟨_, .map (some w.heap.size), _, by simp [Instr.makeMap], .map (Phi.add_self _ _ _), this.1, this.2⟩

/- the elements of a slice or a string -/
theorem loadCells_run {B o n : Nat} {us : List Value} (hR : w.rangeAt B o us) (hn : us.length = n) : (loadCells ⟨B, o, none⟩ n).run P w = .ok us.toArray w := by
  subst hn
  exact run_loadCells_list (P := P) w ⟨B, o, none⟩ us (fun j v hv => by rw [Addr.add_mid]; exact hR j v hv)
theorem elemsOf_run (m : Mem φ s w) {size : Nat} {x : AV} {k : Nat} {vs : List AV} (h : elemsOf s size x = some (k, vs)) {x' : Value} (hx : VR φ x x') :
    ∃ us, (Builtin.lenOf x').run P w = .ok k w ∧ VRs φ vs us ∧ vs.all AV.one = true ∧ vs.length = k * size ∧ (∀ n, n ≤ k → (Builtin.firstCells size n x').run P w = .ok (us.take (n * size)).toArray w) := by
  unfold elemsOf at h
  split at h
  · cases h; cases hx
    exact ⟨[], by simp [Builtin.lenOf], .nil, rfl, by simp, fun n hn => by simp [Builtin.firstCells]⟩
  · rename_i b o len _ _ _
    split at h
    · rename_i cs hcs
      split at h
      · rename_i vs' hc
        cases h
        cases hx with
        | slice hφ h1 h2 h3 h4 =>
          rename_i B z c
          obtain ⟨cc, tt, fr, ws, rest, w1, w2, w3, w4, w5⟩ := cells_at m hcs hφ
          unfold cellsAt at hc
          split at hc
          · rename_i hle
            cases hc
            refine ⟨(ws.drop o).take (k * size), by simp [Builtin.lenOf], (w4.drop o).take _, all_take (all_drop w5 _) _, by simp; omega, fun n hn => ?_⟩
            have hnk : n * size ≤ k * size := Nat.mul_le_mul_right _ hn
            have hR := range_of (n := n * size) (o := o) w1 w3
            have hln : ((ws.drop o).take (n * size)).length = n * size := by
              have := w4.length
              simp; omega
            have e : ((ws.drop o).take (k * size)).take (n * size) = (ws.drop o).take (n * size) := by
              rw [List.take_take]; congr 1; omega
            rw [e]
            simp only [Builtin.firstCells]
            exact loadCells_run hR hln
          · cases hc
      · cases h
    · cases h
  · rename_i l
    split at h
    · rename_i hs
      have hs := Nat.eq_of_beq_eq_true hs
      subst hs
      cases h; cases hx
      have hv : ∀ l : List UInt8, VRs φ (l.map fun c => AV.int .u8 c.toNat) (l.map fun c => Value.int .u8 c.toNat) := fun l => by
        induction l with
        | nil => exact .nil
        | cons a l ih => exact .cons (.int _ _) ih
      refine ⟨_, by simp [Builtin.lenOf]; rfl, hv l, by simp [List.all_eq_true, AV.one], by simp, fun n hn => ?_⟩
      simp only [Builtin.firstCells, Nat.mul_one, Sem.run_pure]
      rw [extract_bytes]
      simp
    · cases h
  · cases h

theorem bytesOf_vals {φ : Phi} : ∀ {vs : List AV} {l : List UInt8} {us : List Value}, bytesOf vs = some l → VRs φ vs us → ∃ ns : List Int, us = ns.map (Value.int .u8) ∧ ns.map (fun n => UInt8.ofNat n.toNat) = l
  | [], l, us, h, hv => by cases hv; simp [bytesOf] at h; subst h; exact ⟨[], rfl, rfl⟩
  | a :: r, l, us, h, hv => by
    unfold bytesOf at h
    split at h
    · rename_i e; cases e
    · rename_i n r' e
      cases e
      split at h
      · rename_i a l' ha hl
        cases h
        have := toNat?_some ha; subst this
        cases hv with
        | cons h1 h2 =>
          cases h1
          obtain ⟨ns, e1, e2⟩ := bytesOf_vals hl h2
          exact ⟨(a : Int) :: ns, by simp [e1], by simp [e2]⟩
      · cases h
    · cases h
theorem push_bytes (l : List Int) : ∀ r : List UInt8, l.foldl (fun (r : ByteArray) n => r.push (UInt8.ofNat n.toNat)) (ByteArray.mk ⟨r⟩) = ByteArray.mk ⟨r ++ l.map fun n => UInt8.ofNat n.toNat⟩ := by
  induction l with
  | nil => intro r; simp
  | cons n l ih =>
    intro r
    have : (ByteArray.mk ⟨r⟩).push (UInt8.ofNat n.toNat) = ByteArray.mk ⟨r ++ [UInt8.ofNat n.toNat]⟩ := by
      apply ByteArray.ext
      simp [ByteArray.push]
    simp only [List.foldl_cons, this, ih]
    simp
theorem convert_run (tok : TabOk P T) (m : Mem φ s w) {src dst : TypeId} {x r : AV} (h : convert T src dst s x = some r) {x' : Value} (hx : VR φ x x') :
    ∃ v, (Go.convert src dst x').run P w = .ok v w ∧ VR φ r v := by
  unfold convert at h
  split at h
  · rename_i si i hsi hi
    obtain ⟨ds, hus, hds, _⟩ := (tok.ti _ _ hsi).under
    have tk := tok.ti _ _ hi
    split at h
    · rename_i htd
      cases h; cases hx
      exact ⟨_, by simp [Go.convert, run_underlying hus, run_underlying (tk.int htd), Conv.intToInt], .int _ _⟩
    · rename_i htd
      cases h; cases hx
      refine ⟨_, ?_, .str _⟩
      simp only [Go.convert, Sem.run_bind, run_underlying hus, run_underlying (tk.string htd), Result.andThen_ok]
      cases ds <;> simp
    · rename_i htd hns
      split at h
      · rename_i e hse
        split at h
        · rename_i he
          split at h
          · rename_i k vs hel
            split at h
            · rename_i l hb
              cases h
              have hu := (tok.ti _ _ hsi).slice hse
              have hue := (tok.ti _ _ he).int rfl
              obtain ⟨us, u1, u2, u3, u4, u5⟩ := elemsOf_run (P := P) m hel hx
              obtain ⟨ns, e1, e2⟩ := bytesOf_vals hb u2
              refine ⟨_, ?_, .str l⟩
              have hlen : us.length = k := by rw [u2.length, u4, Nat.mul_one]
              cases hx with
              | str s0 =>
                exact (hns _ rfl).elim
              | nilslice =>
                have : k = 0 := by simpa [Builtin.lenOf] using u1.symm
                subst this
                have : us = [] := List.eq_nil_of_length_eq_zero hlen
                subst this
                cases ns with
                | cons a b => simp at e1
                | nil =>
                  simp at e2; subst e2
                  simp [Go.convert, run_underlying hu, run_underlying (tk.string htd), run_underlying hue, Conv.bytesToString]
                  rfl
              | slice hφ h1 h2 h3 h4 =>
                rename_i B z c
                have hlk := u1
                simp only [Builtin.lenOf, Sem.run_pure, Result.ok.injEq] at hlk
                obtain ⟨hlk, _⟩ := hlk
                have hf := u5 k (Nat.le_refl _)
                simp only [Builtin.firstCells, Nat.mul_one] at hf
                rw [List.take_of_length_le (by omega), e1] at hf
                have hrun := run_bytesToString (P := P) w _ k c ns hf
                simp only [Go.convert, Sem.run_bind, run_underlying hu, run_underlying (tk.string htd), run_underlying hue, Result.andThen_ok]
                rw [hlk, hrun]
                have := push_bytes ns []
                simp only [List.nil_append, e2] at this
                exact congrArg (fun b => Result.ok (Value.string b) w) this
              | _ => simp [elemsOf] at hel
            · cases h
          · cases h
        · cases h
      · cases h
    · cases h
  · cases h
theorem len_run (tok : TabOk P T) (m : Mem φ s w) {t : TypeId} {x : AV} {n : Nat} (h : lenOf T t s x = some n) {x' : Value} (hx : VR φ x x') (ts : Array TypeId) (hts : ts[0]? = some t) (ty : TypeId) : (Builtin.len_ ts ty #[x']).run P w = .ok (.int .i64 n) w := by
  unfold lenOf at h
  split at h
  · cases h
  · rename_i i hi
    have tk := tok.ti _ _ hi
    split at h
    · rename_i htd; cases h; cases hx
      simp [Builtin.len_, hts, run_underlying (tk.string htd), goInt]; rfl
    · rename_i htd; cases h; cases hx; simp [Builtin.len_, hts, run_underlying (tk.slice htd), goInt]
    · rename_i htd; cases h; cases hx; simp [Builtin.len_, hts, run_underlying (tk.slice htd), goInt]
    · rename_i htd
      split at h
      · rename_i hg
        cases h
        cases (m.heap _ _ hg).2 with
        | map hb hw he =>
          cases hx with
          | map hb' =>
            rw [hb] at hb'; cases hb'
            have : ∀ {a : List (AV × AV)} {v : List MapEntry}, ER φ a v → v.length = a.length := fun h => by
              induction h with
              | nil => rfl
              | cons _ _ _ ih => simp [ih]
            have hl := this he
            rw [Array.length_toList] at hl
            simp [Builtin.len_, hts, run_underlying (tk.map htd), goInt, getObj, Sem.run, hw, hl]
      · cases h
    · rename_i htd; cases h; cases hx; simp [Builtin.len_, hts, run_underlying (tk.map htd), goInt]
    · cases h
theorem minMax_run {mx : Bool} : ∀ {l : List AV} {a r : AV} {l' : List Value} {a' : Value}, minMax mx a l = some r → VR φ a a' → VRs φ l l' → ∃ v, (l'.foldlM (if mx then Builtin.max2 else Builtin.min2) a').run P w = .ok v w ∧ VR φ r v
  | [], a, r, l', a', h, ha, hl => by
    cases hl
    simp only [minMax] at h
    cases h; exact ⟨a', by simp, ha⟩
  | x :: l, a, r, l', a', h, ha, hl => by
    cases hl with
    | cons hx hl =>
      unfold minMax at h
      split at h
      · rename_i e; cases e
      · rename_i k i k' j r' e
        cases e
        cases ha; cases hx
        obtain ⟨v, r1, r2⟩ := minMax_run h (.int _ _) hl
        refine ⟨v, ?_, r2⟩
        simp only [List.foldlM_cons, Sem.run_bind]
        cases mx
        · simp only [Bool.false_eq_true, if_false] at r1 ⊢
          simp only [Builtin.min2, Sem.run_pure, Result.andThen_ok]
          rw [← r1, ilt_iff]; simp
        · simp only [if_true] at r1 ⊢
          simp only [Builtin.max2, Sem.run_pure, Result.andThen_ok]
          rw [← r1, ilt_iff]; simp
      · cases h
end

end Am
end Go.Proofs.YtdmfdclkpdliaaaGreatDoor
