/- Each operation of the abstract machine is what the model does: part six: addresses, indexes, maps, conversions, builtins. No condition. -/
import Derived.Test.YtdmfdclkpdliaaaGreatDoorOpq
import Derived.MapKept
import Derived.IntWalk
namespace Go.Proofs.YtdmfdclkpdliaaaGreatDoor
namespace Am
open Go

section
variable {P : Program} {w : World} {T : Tab} {φ : Phi} {s : St}
theorem move_run {a r : AV} {d : Nat} (h : a.move d = some r) {v : Value} (hv : VR φ a v) : ∃ B o, v = .pointer (some ⟨B, o, none⟩) ∧ VR φ r (.pointer (some ⟨B, o + d, none⟩)) := by
  unfold AV.move at h
  split at h
  · cases h; cases hv with
    | ptr hb => exact ⟨_, _, rfl, .ptr hb⟩
  · cases h; cases hv with
    | loc hb => exact ⟨_, _, rfl, .loc hb⟩
  · cases h
theorem fieldAddr_run (tok : TabOk P T) {t ft : TypeId} {i fi : TI} (hi : T.ti t = some i) {fs : List (Nat × TypeId × Bool)} (htd : i.td = .struct fs) {f off : Nat} {b : Bool} (hf : fs[f]? = some (off, ft, b)) (hfi : T.ti ft = some fi) (h0 : 0 < fi.size)
    {a r : AV} (h : a.move off = some r) {v : Value} (hv : VR φ a v) : ∃ u, (Instr.fieldAt t v f).run P w = .ok u w ∧ VR φ r u := by
  obtain ⟨fs', hu, rfl⟩ := (tok.ti _ _ hi).struct htd
  obtain ⟨B, o, rfl, hr⟩ := move_run h hv
  rw [List.getElem?_map] at hf
  cases hq : fs'.toList[f]? with
  | none => rw [hq] at hf; simp at hf
  | some fd =>
    rw [hq] at hf
    simp only [Option.map_some, Option.some.injEq, Prod.mk.injEq] at hf
    obtain ⟨rfl, rfl, _⟩ := hf
    have hq' : fs'[f]? = some fd := by rw [← Array.getElem?_toList]; exact hq
    refine ⟨_, ?_, hr⟩
    have hne : ¬ fi.size = 0 := by omega
    simp only [Instr.fieldAt, Sem.run_bind, run_underlying hu, Result.andThen_ok, hq', Instr.sureAddr, Sem.run_pure, fieldPlace, (tok.ti _ _ hfi).run_size, if_neg hne, Addr.add_mid]
theorem field_run (tok : TabOk P T) {t ft : TypeId} {i fi : TI} (hi : T.ti t = some i) {fs : List (Nat × TypeId × Bool)} (htd : i.td = .struct fs) {f off : Nat} {b : Bool} (hf : fs[f]? = some (off, ft, b)) (hfi : T.ti ft = some fi)
    {cs : List AV} {r : AV} (h : partOf fi.agg fi.size cs off = some r) {v : Value} (hv : VR φ (.agg cs) v) : ∃ u, (Instr.field t v f).run P w = .ok u w ∧ VR φ r u := by
  obtain ⟨fs', hu, rfl⟩ := (tok.ti _ _ hi).struct htd
  rw [List.getElem?_map] at hf
  cases hq : fs'.toList[f]? with
  | none => rw [hq] at hf; simp at hf
  | some fd =>
    rw [hq] at hf
    simp only [Option.map_some, Option.some.injEq, Prod.mk.injEq] at hf
    obtain ⟨rfl, rfl, _⟩ := hf
    have hq' : fs'[f]? = some fd := by rw [← Array.getElem?_toList]; exact hq
    cases hv with
    | agg hcs h1 =>
      obtain ⟨u, r1, r2⟩ := partOf_run (tok.ti _ _ hfi) hcs h1 h w
      exact ⟨u, by simp only [Instr.field, Sem.run_bind, run_underlying hu, Result.andThen_ok, hq', asAgg, Sem.run_pure, r1], r2⟩
end

section
variable {P : Program} {w : World} {T : Tab} {φ : Phi} {s : St}
theorem indexAddr_slice_run (tok : TabOk P T) {t e : TypeId} {i ei : TI} (hi : T.ti t = some i) (htd : i.td = .slice e) (he : T.ti e = some ei) {b o len cap ex sz n : Nat} (hn : n < len) (hs : ei.size = sz) {k : IntKind}
    {v : Value} (hv : VR φ (.slice b o len cap ex sz) v) : ∃ u, (Instr.indexAt t v (.int k n)).run P w = .ok u w ∧ VR φ (.ptr b (o + n * sz)) u := by
  cases hv with
  | slice hφ h1 h2 h3 h4 =>
    rename_i B z c
    refine ⟨.pointer (some ⟨B, o + n * sz, none⟩), ?_, .ptr hφ⟩
    have h0 : (0 : Int) ≤ (n : Int) ∧ (n : Int) < (len : Int) := by omega
    simp only [Instr.indexAt, asIntOf, Sem.run_bind, Sem.run_pure, Result.andThen_ok, run_underlying ((tok.ti _ _ hi).slice htd)]
    simp [h0.2, (tok.ti _ _ he).run_size, hs, Addr.add_mid]
theorem indexAddr_array_run (tok : TabOk P T) {t e : TypeId} {i ei : TI} (hi : T.ti t = some i) {len : Nat} (htd : i.td = .array len e) (he : T.ti e = some ei) {n : Nat} (hn : n < len) {k : IntKind}
    {a r : AV} (h : a.move (n * ei.size) = some r) {v : Value} (hv : VR φ a v) : ∃ u, (Instr.indexAt t v (.int k n)).run P w = .ok u w ∧ VR φ r u := by
  obtain ⟨B, o, rfl, hr⟩ := move_run h hv
  refine ⟨_, ?_, hr⟩
  have h0 : (0 : Int) ≤ (n : Int) ∧ (n : Int) < (len : Int) := by omega
  simp only [Instr.indexAt, asIntOf, Sem.run_bind, Sem.run_pure, Result.andThen_ok, run_underlying ((tok.ti _ _ hi).array htd), Instr.sureAddr]
  simp [h0.2, (tok.ti _ _ he).run_size, Addr.add_mid]
theorem index_string_run (tok : TabOk P T) {t : TypeId} {i : TI} (hi : T.ti t = some i) (htd : i.td = .string) {l : List UInt8} {n : Nat} {c : UInt8} (hn : l[n]? = some c) {k : IntKind}
    {v : Value} (hv : VR φ (.str l) v) : ∃ u, (Instr.index t v (.int k n)).run P w = .ok u w ∧ VR φ (.int .u8 c.toNat) u := by
  cases hv
  refine ⟨_, ?_, .int _ _⟩
  have hlt := (List.getElem?_eq_some_iff.1 hn).1
  have hb : (ByteArray.mk ⟨l⟩)[n]? = some c := by
    have : n < (ByteArray.mk ⟨l⟩).size := hlt
    rw [getElem?_pos (ByteArray.mk ⟨l⟩) n this]
    have := (List.getElem?_eq_some_iff.1 hn).2
    exact congrArg some this
  simp only [Instr.index, asIntOf, Sem.run_bind, Sem.run_pure, Result.andThen_ok, run_underlying ((tok.ti _ _ hi).string htd)]
  simp [hb]
theorem index_array_run (tok : TabOk P T) {t e : TypeId} {i ei : TI} (hi : T.ti t = some i) {len : Nat} (htd : i.td = .array len e) (he : T.ti e = some ei) {n : Nat} (hn : n < len) {k : IntKind} {cs : List AV}
    {r : AV} (h : partOf ei.agg ei.size cs (n * ei.size) = some r) {v : Value} (hv : VR φ (.agg cs) v) : ∃ u, (Instr.index t v (.int k n)).run P w = .ok u w ∧ VR φ r u := by
  cases hv with
  | agg hcs h1 =>
    obtain ⟨u, r1, r2⟩ := partOf_run (tok.ti _ _ he) hcs h1 h w
    refine ⟨u, ?_, r2⟩
    have h0 : (0 : Int) ≤ (n : Int) ∧ (n : Int) < (len : Int) := by omega
    simp only [Instr.index, asIntOf, Sem.run_bind, Sem.run_pure, Result.andThen_ok, run_underlying ((tok.ti _ _ hi).array htd)]
    simp [h0.2, (tok.ti _ _ he).run_size, r1]

theorem makeSlice_run (tok : TabOk P T) (m : Mem φ s w) (hf : φ s.n = none) {t e : TypeId} {i ei : TI} (hi : T.ti t = some i) (htd : i.td = .slice e) (he : T.ti e = some ei) {l c : Nat} (hlc : l ≤ c) (hb : c * ei.bytes ≤ 140737488355328) (hc : c < 9223372036854775808) :
    ∃ φ' v w', (Instr.makeSlice t (.int .i64 l) (.int .i64 c)).run P w = .ok v w' ∧ VR φ' (.slice s.n 0 l c 2 ei.size) v ∧ Mem φ' (s.new (rep c ei.zero) e).2 w' ∧ Mv φ s w φ' (s.new (rep c ei.zero) e).2 w' := by
  have te := tok.ti _ _ he
  obtain ⟨zc, z2, z1⟩ := zeros_run te c w
  obtain ⟨z0, _, _, z3, z5⟩ := te.run_zero w
  obtain ⟨inf, i1, i2, i3⟩ := te.run_bytes w
  obtain ⟨φ', w', b1, b2, b3, b4⟩ := block_run (P := P) m hf (us := (Array.range (c * ei.size)).map (zc[· % zc.size]!)) (vs := ((Array.range (c * ei.size)).map (zc[· % zc.size]!)).toList) (rest := []) (by simp) (z2 φ) (rep_all c z3) e e
  have wl : IntKind.i64.wrap (l : Int) = l := IntWalk.i64_in _ (by omega)
  have wc : IntKind.i64.wrap (c : Int) = c := IntWalk.i64_in _ (by omega)
  refine ⟨φ', .slice (some ⟨w.heap.size, 0, none⟩) l c, w', ?_, .slice b2 hlc (Nat.le_refl _) (fun _ => rfl) (by simp), b3, b4⟩
  have t1 : ¬ ((c : Int) < 0) := by omega
  have t2 : ¬ ((l : Int) < 0) := by omega
  have t3 : ¬ ((l : Int) > (c : Int)) := by omega
  have t4 : ¬ ((ei.bytes : Int) * (c : Int) > 2 ^ 48) := by
    have : (ei.bytes : Int) * (c : Int) = ((c * ei.bytes : Nat) : Int) := by rw [Nat.mul_comm]; simp
    rw [this]; omega
  simp only [Instr.makeSlice, Sem.run_bind, run_underlying ((tok.ti _ _ hi).slice htd), Result.andThen_ok, asInt, asIntOf, Sem.run_pure, i1, wl, wc, i2]
  have hcond : (decide ((c : Int) < 0) || decide ((ei.bytes : Int) * (c : Int) > 2 ^ 48) || decide ((l : Int) < 0) || decide ((l : Int) > (c : Int))) = false := by
    rw [decide_eq_false t1, decide_eq_false t4, decide_eq_false t2, decide_eq_false t3]; rfl
  rw [if_neg (by rw [hcond]; simp)]
  simp only [Sem.run_bind, run_askRoom, Result.andThen_ok, te.run_size, Int.toNat_natCast]
  refine (z1 _).trans ?_
  simp only [Sem.run_bind, b1, Result.andThen_ok, Sem.run_pure]
end

section
variable {P : Program} {w : World} {T : Tab} {φ : Phi} {s : St}
/- maps -/
theorem keyFields_run {φ : Phi} (tok : TabOk P T) {K : TypeId → AV → Bool} {d : Nat} (em : Bool) (hK : ∀ t x, K t x = true → ∀ x', VR φ x x' → (Instr.checkKey em d t x').run P w = .ok () w) {cs : List AV} {cs' : List Value} (hc : VRs φ cs cs') (h1 : cs.all AV.one = true)
    {B : Field → PUnit → Sem (ForInStep PUnit)} (hB : ∀ f a, f.name ≠ "_" → (part f.type cs'.toArray f.offset).run P w = .ok a w → (Instr.checkKey em d f.type a).run P w = .ok () w → (B f PUnit.unit).run P w = .ok (.yield PUnit.unit) w) :
    ∀ (fs : List Field), keyFields T K cs (fs.map fun f => (f.offset, f.type, f.name == "_")) = true → (forIn fs PUnit.unit B).run P w = .ok PUnit.unit w
  | [], _ => by simp
  | f :: fs, h => by
    simp only [List.map_cons, keyFields, Bool.and_eq_true] at h
    obtain ⟨⟨hb, h2⟩, h3⟩ := h
    have hn : f.name ≠ "_" := by simpa using hb
    split at h2
    · cases h2
    · rename_i fi hfi
      split at h2
      · rename_i a ha
        obtain ⟨u, r1, r2⟩ := partOf_run (tok.ti _ _ hfi) hc h1 ha w
        simp only [List.forIn_cons, Sem.run_bind, hB f u hn r1 (hK _ _ h2 _ r2), Result.andThen_ok]
        exact keyFields_run tok em hK hc h1 hB fs h3
      · cases h2
theorem keyOk_run {φ : Phi} (tok : TabOk P T) (em : Bool) : ∀ (d : Nat) (t : TypeId) (x : AV), keyOk T d t x = true → ∀ D x', d ≤ D → VR φ x x' → (Instr.checkKey em D t x').run P w = .ok () w := by
  intro d
  induction d with
  | zero => intro t x h; simp [keyOk] at h
  | succ d ih =>
    intro t x h D x' hD hx
    obtain ⟨D, rfl⟩ : ∃ k, D = k + 1 := ⟨D - 1, by omega⟩
    simp only [keyOk] at h
    split at h
    · cases h
    · rename_i i hi
      have tk := tok.ti _ _ hi
      split at h
      · rename_i htd; cases hx; simp [Instr.checkKey, run_underlying (tk.int htd)]
      · rename_i htd
        obtain ⟨de, hu, hd, _⟩ := tk.under
        rw [htd] at hd
        cases de <;> simp only [tdOf] at hd <;> cases hd
        cases hx; simp [Instr.checkKey, run_underlying hu]
      · rename_i htd; cases hx; simp [Instr.checkKey, run_underlying (tk.string htd)]
      · rename_i fs cs htd
        cases hx with
        | agg hcs h1 =>
          obtain ⟨fs', hu, rfl⟩ := tk.struct htd
          simp only [Instr.checkKey, Sem.run_bind, run_underlying hu, Result.andThen_ok]
          rw [← Array.forIn_toList]
          refine (congrArg (fun r => Result.andThen r fun _ w' => Sem.run P (pure ()) w') (keyFields_run (w := w) tok em (d := D) (fun t x hk x' hx' => ih t x hk D x' (by omega) hx') hcs h1 ?_ fs'.toList h)).trans rfl
          intro f a hn hp hq
          simp [hn, hp, hq]
      · cases h
def FR (φ : Phi) : Option (Nat × AV) → Option (Nat × Value) → Prop
  | none, none => True
  | some (i, a), some (j, v) => i = j ∧ VR φ a v
  | _, _ => False
theorem findAsking_run {φ : Phi} (tok : TabOk P T) {kt : TypeId} {k : AV} {k' : Value} (hk : VR φ k k') : ∀ (es : List (AV × AV)) (es' : List MapEntry) (i : Nat) (r : Option (Nat × AV)), findIn T kt k es i = some r → ER φ es es' → ∃ r', (Instr.findAsking kt k' es' i).run P w = .ok r' w ∧ FR φ r r'
  | [], [], i, r, h, _ => by simp [findIn] at h; subst h; exact ⟨none, by simp [Instr.findAsking], trivial⟩
  | (x, v) :: es, e :: es', i, r, h, he => by
    cases he with
    | cons hx hv he =>
      simp only [findIn] at h
      simp only [Instr.findAsking, Sem.run_bind, Op.equal]
      split at h
      · rename_i hq
        cases h
        rw [eqAt_run tok 20 kt k x true hq Op.maxDepth _ _ (by decide) hk hx]
        exact ⟨some (i, e.val), by simp, rfl, hv⟩
      · rename_i hq
        rw [eqAt_run tok 20 kt k x false hq Op.maxDepth _ _ (by decide) hk hx]
        obtain ⟨r', h1, h2⟩ := findAsking_run tok hk es es' (i + 1) r h he
        exact ⟨r', by simpa using h1, h2⟩
      · cases h
theorem sameNow_eq {t : TypeId} {d : TypeDesc} {a b : Value} {c : Bool} (h : Instr.sameNow d a b = some c) (hu : P.underlying t = some d) (D : Nat) (w : World) : (Op.equalIn (D + 1) t a b).run P w = .ok c w := by
  unfold Instr.sameNow at h
  split at h
  · split at h
    · rename_i hk; subst hk; cases h; simp [Op.equalIn, run_underlying hu]
    · cases h
  · cases h; simp [Op.equalIn, run_underlying hu]
  · cases h; simp [Op.equalIn, run_underlying hu]
  · cases h
theorem findNow_run {φ : Phi} (tok : TabOk P T) {kt : TypeId} {d : TypeDesc} (hu : P.underlying kt = some d) {k : AV} {k' : Value} (hk : VR φ k k') (w : World) : ∀ (es : List (AV × AV)) (es' : List MapEntry) (i : Nat) (r : Option (Nat × AV)) (r' : Option (Nat × Value)),
    findIn T kt k es i = some r → ER φ es es' → Instr.findNow d k' es' i = some r' → FR φ r r'
  | [], [], i, r, r', h, _, h' => by simp [findIn] at h; simp [Instr.findNow] at h'; subst h; subst h'; trivial
  | (x, v) :: es, e :: es', i, r, r', h, he, h' => by
    cases he with
    | cons hx hv he =>
      simp only [findIn] at h
      simp only [Instr.findNow] at h'
      split at h'
      · rename_i hs
        cases h'
        have h1 := sameNow_eq (P := P) hs hu 9999 w
        split at h
        · cases h; exact ⟨rfl, hv⟩
        · rename_i hq
          rw [eqAt_run tok 20 kt k x false hq 10000 _ _ (by decide) hk hx] at h1
          cases h1
        · cases h
      · rename_i hs
        have h1 := sameNow_eq (P := P) hs hu 9999 w
        split at h
        · rename_i hq
          rw [eqAt_run tok 20 kt k x true hq 10000 _ _ (by decide) hk hx] at h1
          cases h1
        · exact findNow_run tok hu hk w es es' (i + 1) r r' h he h'
        · cases h
      · cases h'
theorem findKey_run {φ : Phi} (tok : TabOk P T) {kt : TypeId} {d : TypeDesc} (hu : P.underlying kt = some d) {k : AV} {k' : Value} (hk : VR φ k k') {es : List (AV × AV)} {es' : List MapEntry} {r : Option (Nat × AV)}
    (h : findIn T kt k es 0 = some r) (he : ER φ es es') : ∃ r', (Instr.findKey kt k' es').run P w = .ok r' w ∧ FR φ r r' := by
  simp only [Instr.findKey, Sem.run_bind, run_underlying hu, Result.andThen_ok]
  cases hq : Instr.findNow d k' es' 0 with
  | some r' => exact ⟨r', by simp, findNow_run tok hu hk w es es' 0 r r' h he hq⟩
  | none => exact findAsking_run tok hk es es' 0 r h he
theorem keyOk_under (tok : TabOk P T) {d : Nat} {t : TypeId} {x : AV} (h : keyOk T d t x = true) : ∃ de, P.underlying t = some de := by
  cases d with
  | zero => simp [keyOk] at h
  | succ d =>
    simp only [keyOk] at h
    split at h
    · cases h
    · rename_i i hi
      obtain ⟨de, hu, _⟩ := (tok.ti _ _ hi).under
      exact ⟨de, hu⟩
theorem shaped_zero {t : TypeId} {i : TI} (tk : TiOk P t i) {r : AV} (h : shaped i.agg i.zero = some r) (w : World) : ∃ z, (zeroValue t).run P w = .ok z w ∧ VR φ r z := by
  obtain ⟨d, inf, z, h1, h2, h3, h4, h5, h6, h7, h8, h9, h10, h11, h12⟩ := tk.ex
  exact ⟨z, by simp [zeroValue, typeInfo, h3, h6], h12 φ r h⟩

theorem lookup_run (tok : TabOk P T) (m : Mem φ s w) {t : TypeId} {mv kv r : AV} {ok : Bool} (h : lookup T t s mv kv ok = some r) {m' k' : Value} (hm : VR φ mv m') (hk : VR φ kv k') :
    ∃ v, (Instr.lookup t m' k' ok).run P w = .ok v w ∧ VR φ r v := by
  unfold lookup at h
  split at h
  · rename_i kt et _ _ _ _ _ hi
    have tk := tok.ti _ _ hi
    have hu := tk.map rfl
    split at h
    · rename_i es ei hes hko hei
      obtain ⟨de, hkt⟩ := keyOk_under tok hko
      have hck : ∀ b, (Instr.checkKey b 10000 kt k').run P w = .ok () w := fun b => keyOk_run (w := w) tok b 20 kt kv hko 10000 k' (by decide) hk
      have fin : ∀ es' : Array MapEntry, ER φ es es'.toList → ∃ fr v, (Instr.findKey kt k' es'.toList).run P w = .ok fr w ∧ VR φ r v ∧
          (match fr with
            | some (_, u) => v = if ok then .tuple #[u, .bool true] else u
            | none => ∃ z, (zeroValue et).run P w = .ok z w ∧ v = if ok then .tuple #[z, .bool false] else z) := by
        intro es' he
        split at h
        · rename_i n v hq
          obtain ⟨fr, f1, f2⟩ := findKey_run (w := w) tok hkt hk hq he
          cases fr with
          | none => exact f2.elim
          | some x =>
            obtain ⟨j, u⟩ := x
            obtain ⟨_, hv⟩ := f2
            cases h
            refine ⟨_, if ok then .tuple #[u, .bool true] else u, f1, ?_, rfl⟩
            cases ok
            · simpa using hv
            · simpa using VR.tup (.cons hv (.cons (.bool true) .nil))
        · rename_i hq
          obtain ⟨fr, f1, f2⟩ := findKey_run (w := w) tok hkt hk hq he
          cases fr with
          | some x => exact f2.elim
          | none =>
            split at h
            · rename_i z hz
              cases h
              obtain ⟨z', z1, z2⟩ := shaped_zero (φ := φ) (tok.ti _ _ hei) hz w
              refine ⟨_, if ok then .tuple #[z', .bool false] else z', f1, ?_, z', z1, rfl⟩
              cases ok
              · simpa using z2
              · simpa using VR.tup (.cons z2 (.cons (.bool false) .nil))
            · cases h
        · cases h
      unfold mapOf at hes
      split at hes
      · cases hes
        cases hm
        obtain ⟨fr, v, f1, f2, f3⟩ := fin #[] .nil
        refine ⟨v, ?_, f2⟩
        have f1' : (Instr.findKey kt k' []).run P w = .ok fr w := by simpa using f1
        cases fr with
        | none =>
          obtain ⟨z, z1, rfl⟩ := f3
          simp [Instr.lookup, run_underlying hu, hck, f1', z1]
        | some x =>
          simp only at f3
          subst f3
          simp [Instr.lookup, run_underlying hu, hck, f1']
      · split at hes
        · rename_i hg
          cases hes
          cases (m.heap _ _ hg).2 with
          | map hb hw he =>
            cases hm with
            | map hb' =>
              rw [hb] at hb'; cases hb'
              obtain ⟨fr, v, f1, f2, f3⟩ := fin _ he
              refine ⟨v, ?_, f2⟩
              cases fr with
              | none =>
                obtain ⟨z, z1, rfl⟩ := f3
                simp [Instr.lookup, run_underlying hu, getObj, Sem.run, hw, hck, f1, z1]
              | some x =>
                simp only at f3
                subst f3
                simp [Instr.lookup, run_underlying hu, getObj, Sem.run, hw, hck, f1]
        · cases hes
      · cases hes
    · cases h
  · cases h
end

end Am
end Go.Proofs.YtdmfdclkpdliaaaGreatDoor
