/- What the two arguments of the law read as: the memory facts that the walk asks. -/
import Derived.Test.YtdmfdclkpdliaaaGreatDoorNet
import Derived.Test.YtdmfdclkpdliaaaGreatDoorRdr
namespace Go.Proofs.YtdmfdclkpdliaaaGreatDoor
open Go Go.ChangeShapes Go.WideShapes Go.RowKit Go.Deep Go.Shelf

theorem Tryz.co3 : Tryz.prog.cellsOf 3 = 1 := by kernel_rfl
theorem Tryz.co9 : Tryz.prog.cellsOf 9 = 1 := by kernel_rfl
theorem Tryz.co22 : Tryz.prog.cellsOf 22 = 1 := by kernel_rfl
theorem Tryz.co24 : Tryz.prog.cellsOf 24 = 1 := by kernel_rfl
theorem Tryz.co25 : Tryz.prog.cellsOf 25 = 1 := by kernel_rfl
theorem Tryz.co26 : Tryz.prog.cellsOf 26 = 1 := by kernel_rfl
theorem Tryz.co36 : Tryz.prog.cellsOf 36 = 5 := by kernel_rfl
theorem Tryz.co46 : Tryz.prog.cellsOf 46 = 2 := by kernel_rfl
theorem Tryz.co58 : Tryz.prog.cellsOf 58 = 7 := by kernel_rfl
theorem Tryz.co59 : Tryz.prog.cellsOf 59 = 1 := by kernel_rfl
theorem Tryz.co61 : Tryz.prog.cellsOf 61 = 16 := by kernel_rfl
theorem Tryz.co62 : Tryz.prog.cellsOf 62 = 1 := by kernel_rfl
theorem Tryz.co81 : Tryz.prog.cellsOf 81 = 25 := by kernel_rfl
theorem Tryz.co83 : Tryz.prog.cellsOf 83 = 12 := by kernel_rfl
theorem Tryz.co95 : Tryz.prog.cellsOf 95 = 8 := by kernel_rfl

theorem take1 {cs : List Value} {j : Nat} {v : Value} (h : (cs.drop j).take 1 = [v]) : cs[j]? = some v := by
  have h1 := congrArg (fun l : List Value => l[0]?) h
  simpa [List.getElem?_take, List.getElem?_drop] using h1

section
variable {H : Type} {enc : TypeId × Value → H} {w : World} {base : Nat} {spare : Nat → Bool} {held : Bool}
theorem trod_field' {t : TypeId} {fs : Array Field} (ht : Tryz.prog.underlying t = some (.struct fs)) {fuel : Nat} {cs : List Value} {x : DataW H × List MemPlace} (h : DataW.trod enc Tryz.prog w base spare held fuel t cs = some x) (i : Nat) (f : Field) (hf : fs[i]? = some f) (ty : TypeId) (off c : Nat) (h1 : f.type = ty) (h2 : f.offset = off) (hc : Tryz.prog.cellsOf ty = c) :
    ∃ n y, DataW.trod enc Tryz.prog w base spare held n ty ((cs.drop off).take c) = some y := by
  subst h1 h2 hc
  exact trod_field ht h i f hf
theorem int_of {k : IntKind} {t : TypeId} (ht : Tryz.prog.underlying t = some (.int k)) {n : Nat} {cs : List Value} {y : DataW H × List MemPlace} (h : DataW.trod enc Tryz.prog w base spare held n t cs = some y) : ∃ i : Int, cs = [.int k i] ∧ (Lit.int k i).wf = true := by
  obtain ⟨i, h1, _, h2⟩ := DataW.trod_int ht h
  exact ⟨i, h1, h2⟩
theorem i64_wf {i : Int} (h : (Lit.int .i64 i).wf = true) : I64 i := by
  have h : (decide (IntKind.i64.min ≤ i) && decide (i ≤ IntKind.i64.max)) = true := h
  rw [Bool.and_eq_true, decide_eq_true_eq, decide_eq_true_eq] at h
  exact h
theorem u32_wf {i : Int} (h : (Lit.int .u32 i).wf = true) : ∃ k : Nat, i = k ∧ k < 4294967296 := by
  have h : (decide (IntKind.u32.min ≤ i) && decide (i ≤ IntKind.u32.max)) = true := h
  rw [Bool.and_eq_true, decide_eq_true_eq, decide_eq_true_eq] at h
  have h1 : (0 : Int) ≤ i := h.1
  have h2 : i ≤ 4294967295 := h.2
  exact ⟨i.toNat, by omega, by omega⟩
theorem list5 (cs : List Value) (h : cs.length = 5) : ∃ c0 c1 c2 c3 c4 : Value, cs = [c0, c1, c2, c3, c4] :=
  match cs, h with
  | [c0, c1, c2, c3, c4], _ => ⟨c0, c1, c2, c3, c4, rfl⟩
theorem list2 (cs : List Value) (h : cs.length = 2) : ∃ c0 c1 : Value, cs = [c0, c1] :=
  match cs, h with
  | [c0, c1], _ => ⟨c0, c1, rfl⟩
theorem pk_of {n : Nat} {cs : List Value} {y : DataW H × List MemPlace} (h : DataW.trod enc Tryz.prog w base spare held n 36 cs = some y) : ∃ p : Pk, p.Ok ∧ cs = p.cells := by
  obtain ⟨_, _, _, _, hl, _, _⟩ := DataW.trod_struct Tryz.underlying36 h
  rw [Tryz.co36] at hl
  obtain ⟨c0, c1, c2, c3, c4, rfl⟩ := list5 cs hl
  obtain ⟨n0, y0, h0⟩ := trod_field' Tryz.underlying36 h 0 _ rfl 26 0 1 rfl rfl Tryz.co26
  obtain ⟨n1, y1, h1⟩ := trod_field' Tryz.underlying36 h 1 _ rfl 26 1 1 rfl rfl Tryz.co26
  obtain ⟨n2, y2, h2⟩ := trod_field' Tryz.underlying36 h 2 _ rfl 3 2 1 rfl rfl Tryz.co3
  obtain ⟨n3, y3, h3⟩ := trod_field' Tryz.underlying36 h 3 _ rfl 3 3 1 rfl rfl Tryz.co3
  obtain ⟨n4, y4, h4⟩ := trod_field' Tryz.underlying36 h 4 _ rfl 3 4 1 rfl rfl Tryz.co3
  obtain ⟨i0, e0, w0⟩ := int_of Tryz.underlying26 h0
  obtain ⟨i1, e1, w1⟩ := int_of Tryz.underlying26 h1
  obtain ⟨i2, e2, w2⟩ := int_of Tryz.underlying3 h2
  obtain ⟨i3, e3, w3⟩ := int_of Tryz.underlying3 h3
  obtain ⟨i4, e4, w4⟩ := int_of Tryz.underlying3 h4
  replace e0 := take1 e0
  replace e1 := take1 e1
  replace e2 := take1 e2
  replace e3 := take1 e3
  replace e4 := take1 e4
  simp at e0 e1 e2 e3 e4
  obtain ⟨k0, rfl, hk0⟩ := u32_wf w0
  obtain ⟨k1, rfl, hk1⟩ := u32_wf w1
  subst e0 e1 e2 e3 e4
  exact ⟨⟨k0, k1, i2, i3, i4⟩, ⟨hk0, hk1, i64_wf w2, i64_wf w3, i64_wf w4⟩, rfl⟩
theorem end_of {n : Nat} {cs : List Value} {y : DataW H × List MemPlace} (h : DataW.trod enc Tryz.prog w base spare held n 46 cs = some y) : ∃ r i : Int, cs = [.int .i64 r, .int .i64 i] := by
  obtain ⟨_, _, _, _, hl, _, _⟩ := DataW.trod_struct Tryz.underlying46 h
  rw [Tryz.co46] at hl
  obtain ⟨c0, c1, rfl⟩ := list2 cs hl
  obtain ⟨n0, y0, h0⟩ := trod_field' Tryz.underlying46 h 0 _ rfl 3 0 1 rfl rfl Tryz.co3
  obtain ⟨n1, y1, h1⟩ := trod_field' Tryz.underlying46 h 1 _ rfl 3 1 1 rfl rfl Tryz.co3
  obtain ⟨i0, e0, _⟩ := int_of Tryz.underlying3 h0
  obtain ⟨i1, e1, _⟩ := int_of Tryz.underlying3 h1
  replace e0 := take1 e0
  replace e1 := take1 e1
  simp at e0 e1
  subst e0 e1
  exact ⟨i0, i1, rfl⟩
theorem list8 (cs : List Value) (h : cs.length = 8) : ∃ c0 c1 c2 c3 c4 c5 c6 c7 : Value, cs = [c0, c1, c2, c3, c4, c5, c6, c7] :=
  match cs, h with
  | [c0, c1, c2, c3, c4, c5, c6, c7], _ => ⟨c0, c1, c2, c3, c4, c5, c6, c7, rfl⟩
theorem mov_of {n : Nat} {cs : List Value} {y : DataW H × List MemPlace} (h : DataW.trod enc Tryz.prog w base spare held n 95 cs = some y) : ∃ m : Mov, m.p.Ok ∧ cs = m.cells := by
  obtain ⟨_, _, _, _, hl, _, _⟩ := DataW.trod_struct Tryz.underlying95 h
  rw [Tryz.co95] at hl
  obtain ⟨c0, c1, c2, c3, c4, c5, c6, c7, rfl⟩ := list8 cs hl
  obtain ⟨n0, y0, h0⟩ := trod_field' Tryz.underlying95 h 0 _ rfl 3 0 1 rfl rfl Tryz.co3
  obtain ⟨n1, y1, h1⟩ := trod_field' Tryz.underlying95 h 1 _ rfl 46 1 2 rfl rfl Tryz.co46
  obtain ⟨n2, y2, h2⟩ := trod_field' Tryz.underlying95 h 2 _ rfl 36 3 5 rfl rfl Tryz.co36
  obtain ⟨i0, e0, _⟩ := int_of Tryz.underlying3 h0
  obtain ⟨r, i, e1⟩ := end_of h1
  obtain ⟨p, hp, e2⟩ := pk_of h2
  replace e0 := take1 e0
  simp at e0 e1
  obtain ⟨rfl, rfl⟩ := e1
  subst e0
  have e2 : [c3, c4, c5, c6, c7] = p.cells := by simpa using e2
  exact ⟨⟨i0, r, i, p⟩, hp, by show _ = _ ++ p.cells; rw [← e2]; rfl⟩
theorem rt_of {n b o : Nat} {cs : List Value} {y : DataW H × List MemPlace} (hcs : cs.length = 25) (hb : b < w.heap.size) (hr : w.rangeAt b o cs) (h : DataW.trod enc Tryz.prog w base spare held n 81 cs = some y) :
    ∃ r : Rt, RtAt w.heap.size w b o r ∧ r.name.size ≤ maxLen ∧ r.ifs.length ≤ maxLen ∧ ∀ x ∈ r.ifs, x.size ≤ maxLen := by
  obtain ⟨n0, y0, h0⟩ := trod_field' Tryz.underlying81 h 0 _ rfl 9 0 1 rfl rfl Tryz.co9
  obtain ⟨n2, y2, h2⟩ := trod_field' Tryz.underlying81 h 2 _ rfl 62 2 1 rfl rfl Tryz.co62
  obtain ⟨s, e0, _, hs⟩ := DataW.trod_string Tryz.underlying9 h0
  obtain ⟨ao, len, cap, e2, hlen, hel⟩ := trod_rows Tryz.underlying62 Tryz.co83 (by omega) h2
  replace e0 := take1 e0
  replace e2 := take1 e2
  obtain ⟨l, hl, hp⟩ := list_of (p := fun i (x : ByteArray) => x.size ≤ maxLen ∧ ∃ b' o', ao = some ⟨b', o', none⟩ ∧ b' < w.heap.size ∧ w.cell? ⟨b', o' + i * 12, none⟩ = some (.string x)) len (fun i hi => by
    obtain ⟨b', o', cs', n', y', ea, hb', hc', hr', ht'⟩ := hel i hi
    obtain ⟨n3, y3, h3⟩ := trod_field' Tryz.underlying83 ht' 0 _ rfl 9 0 1 rfl rfl Tryz.co9
    obtain ⟨z, e3, _, hz⟩ := DataW.trod_string Tryz.underlying9 h3
    replace e3 := take1 e3
    have := hr' 0 _ e3
    rw [Nat.add_zero] at this
    exact ⟨z, hz, b', o', ea, hb', this⟩)
  refine ⟨⟨s, l⟩, ⟨hb, cs, hcs, ?_, hr, e0, ao, cap, by rw [hl]; exact e2, fun k x hx => (hp k x hx).2⟩, hs, by rw [hl]; exact hlen, fun x hx => ?_⟩
  · refine trod_one Tryz.underlying81 (by kernel_rfl) (fun f hf n' cs' y' hy => ?_) h
    simp only [List.mem_cons, List.not_mem_nil, or_false] at hf
    rcases hf with rfl | rfl | rfl | rfl | rfl | rfl | rfl | rfl | rfl | rfl | rfl
    · exact trod_leaf Tryz.underlying9 rfl hy
    · exact trod_leaf Tryz.underlying3 rfl hy
    · exact trod_leaf Tryz.underlying62 rfl hy
    · exact trod_leaf Tryz.underlying63 rfl hy
    · exact trod_leaf Tryz.underlying64 rfl hy
    · exact trod_leaf Tryz.underlying65 rfl hy
    · exact trod_leaf Tryz.underlying66 rfl hy
    · exact trod_leaf Tryz.underlying67 rfl hy
    · exact trod_leaves Tryz.underlying71 (by kernel_rfl) (by kernel_rfl) hy
    · exact trod_leaves Tryz.underlying73 (by kernel_rfl) (by kernel_rfl) hy
    · exact trod_leaves Tryz.underlying79 (by kernel_rfl) (by kernel_rfl) hy
  · obtain ⟨i, hi, rfl⟩ := List.getElem_of_mem hx
    exact (hp i _ (List.getElem?_eq_getElem hi)).1
end
end Go.Proofs.YtdmfdclkpdliaaaGreatDoor
