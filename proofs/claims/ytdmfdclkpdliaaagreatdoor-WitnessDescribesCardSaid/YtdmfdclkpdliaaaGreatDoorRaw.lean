/- What the law's two arguments are, whatever they read as. -/
import Derived.Test.YtdmfdclkpdliaaaGreatDoorDes
import Derived.Test.YtdmfdclkpdliaaaGreatDoorRds
namespace Go.Proofs.YtdmfdclkpdliaaaGreatDoor
open Go Go.RowKit Go.Shelf

/- what reads of the arguments, their sizes left open -/
structure Raw (w : World) (no : Option Addr) (R ncap : Nat) (ao : Option Addr) (n cap : Nat) (po : Option Addr) (q pcap : Nat) (rs : List Rt) (a : An) : Prop where
  rlen : rs.length = R
  len : a.down.length = n
  plen : a.path.length = q
  rts : ∀ (k : Nat) r, rs[k]? = some r → ∃ b o, no = some ⟨b, o, none⟩ ∧ RtAt w.heap.size w b (o + k * 25) r
  cells : ∀ (k : Nat) d, a.down[k]? = some d → ∃ b o, ao = some ⟨b, o, none⟩ ∧ b < w.heap.size ∧ w.cell? ⟨b, o + k, none⟩ = some (.int .i64 d)
  moves : ∀ (k : Nat) m, a.path[k]? = some m → ∃ b o, po = some ⟨b, o, none⟩ ∧ b < w.heap.size ∧ w.rangeAt b (o + k * 8) m.cells
  tabs : Tabs w
  downs : ∀ d ∈ a.down, I64 d
  pk : a.p.Ok
  opk : a.other.Ok
  mpk : ∀ m ∈ a.path, m.p.Ok
  loop : I64 a.loop
  rmax : R ≤ maxLen
  nmax : n ≤ maxLen
  qmax : q ≤ maxLen
  nms : ∀ r ∈ rs, r.name.size ≤ maxLen ∧ r.ifs.length ≤ maxLen ∧ ∀ x ∈ r.ifs, x.size ≤ maxLen

theorem RtAt.mono {B B' : Nat} {w : World} {b o : Nat} {r : Rt} (h : RtAt B w b o r) (hB : B ≤ B') : RtAt B' w b o r := by
  obtain ⟨h2, cs, a1, a2, a3, a4, ao', cap', a5, a6⟩ := h
  refine ⟨by omega, cs, a1, a2, a3, a4, ao', cap', a5, fun k x hx => ?_⟩
  obtain ⟨b', o', e, hb', hc⟩ := a6 k x hx
  exact ⟨b', o', e, by omega, hc⟩
theorem Raw.below {w w' : World} {no : Option Addr} {R ncap : Nat} {ao : Option Addr} {n cap : Nat} {po : Option Addr} {q pcap : Nat} {rs : List Rt} {a : An} (h : Raw w no R ncap ao n cap po q pcap rs a) (hb : Below w.heap.size w w') : Raw w' no R ncap ao n cap po q pcap rs a :=
  { rlen := h.rlen, len := h.len, plen := h.plen, downs := h.downs, pk := h.pk, opk := h.opk, mpk := h.mpk, loop := h.loop, rmax := h.rmax, nmax := h.nmax, qmax := h.qmax, nms := h.nms, rts := fun k r hr => (by obtain ⟨b, o, e, h1⟩ := h.rts k r hr; exact ⟨b, o, e, (h1.below hb).mono hb.size⟩), cells := fun k d hd => (by obtain ⟨b, o, e, h1, h2⟩ := h.cells k d hd; exact ⟨b, o, e, Nat.lt_of_lt_of_le h1 hb.size, (hb.cell (p := ⟨b, o + k, none⟩) h1).trans h2⟩), moves := fun k m hm => (by obtain ⟨b, o, e, h1, h2⟩ := h.moves k m hm; exact ⟨b, o, e, Nat.lt_of_lt_of_le h1 hb.size, rangeAt_below h2 h1 hb⟩), tabs := h.tabs.below rfl hb }
theorem Raw.args {w : World} {no : Option Addr} {R ncap : Nat} {ao : Option Addr} {n cap : Nat} {po : Option Addr} {q pcap : Nat} {rs : List Rt} {a : An} (h : Raw w no R ncap ao n cap po q pcap rs a) (ho : NetOk rs) (hn : n ≤ 20) (hq : q ≤ 20) :
    Args' w (.slice no R ncap) ao n cap po q pcap rs a :=
  { len := h.len, plen := h.plen, moves := h.moves, cells := h.cells
    args := { net := ⟨no, ncap, by rw [h.rlen], h.rts⟩, down := ⟨ao, cap, by rw [h.len], h.cells⟩, path := ⟨po, pcap, by rw [h.plen], h.moves⟩, tabs := h.tabs, ok := ho, downs := h.downs, nd := by rw [h.len]; exact hn, np := by rw [h.plen]; exact hq, pk := h.pk, opk := h.opk, moves := h.mpk, loop := h.loop } }

theorem list16 (cs : List Value) (h : cs.length = 16) : ∃ c0 c1 c2 c3 c4 c5 c6 c7 c8 c9 c10 c11 c12 c13 c14 c15 : Value, cs = [c0, c1, c2, c3, c4, c5, c6, c7, c8, c9, c10, c11, c12, c13, c14, c15] :=
  match cs, h with
  | [c0, c1, c2, c3, c4, c5, c6, c7, c8, c9, c10, c11, c12, c13, c14, c15], _ => ⟨c0, c1, c2, c3, c4, c5, c6, c7, c8, c9, c10, c11, c12, c13, c14, c15, rfl⟩
set_option maxRecDepth 100000 in
open Go.ChangeShapes Go.WideShapes Go.Deep in
theorem raw_of {H : Type} {enc : TypeId × Value → H} {W : World} {base : Nat} {v0 v1 : Value} {d0 d1 : DataW H} {p0 p1 : List MemPlace} {sp : Nat → Bool} {held : Bool} (ok0 : Value.okWide Tryz.prog W .any base 24 v0) (h0 : DataW.Trod enc Tryz.prog W 0 sp held 24 v0 d0 p0)
    (ok1 : Value.okWide Tryz.prog W .any base 61 v1) (h1 : DataW.Trod enc Tryz.prog W 0 sp held 61 v1 d1 p1) (HT : Tabs W) :
    ∃ no R ncap ao n cap po q pcap rs a, v0 = .agg #[.slice no R ncap] ∧ v1 = .agg #[.int .i64 a.verdict, .slice ao n cap, .int .i64 a.r, .int .i64 a.i, .int .u32 a.p.src, .int .u32 a.p.dst, .int .i64 a.p.proto, .int .i64 a.p.sport, .int .i64 a.p.dport, .slice po q pcap, .int .i64 a.loop, .int .u32 a.other.src, .int .u32 a.other.dst, .int .i64 a.other.proto, .int .i64 a.other.sport, .int .i64 a.other.dport] ∧ Raw W no R ncap ao n cap po q pcap rs a := by
  obtain ⟨⟨l0⟩, rfl, hs0⟩ := okWide_struct Tryz.underlying24 ok0
  obtain ⟨⟨l1⟩, rfl, hs1⟩ := okWide_struct Tryz.underlying61 ok1
  obtain ⟨fuel0, t0⟩ := h0
  obtain ⟨fuel1, t1⟩ := h1
  have t0 : DataW.trod enc Tryz.prog W 0 sp held fuel0 24 l0 = some (d0, p0) := t0
  have t1 : DataW.trod enc Tryz.prog W 0 sp held fuel1 61 l1 = some (d1, p1) := t1
  have hs0 : l0.length = 1 := by rw [Tryz.co24] at hs0; exact hs0
  have hs1 : l1.length = 16 := by rw [Tryz.co61] at hs1; exact hs1
  obtain ⟨x0, rfl⟩ := List.length_eq_one_iff.1 hs0
  obtain ⟨c0, c1, c2, c3, c4, c5, c6, c7, c8, c9, c10, c11, c12, c13, c14, c15, rfl⟩ := list16 l1 hs1
  -- the network
  obtain ⟨_, _, f0⟩ := trod_field' Tryz.underlying24 t0 0 _ rfl 22 0 1 rfl rfl Tryz.co22
  obtain ⟨no, R, ncap, e0, hR, hel⟩ := trod_rows Tryz.underlying22 Tryz.co81 (by omega) f0
  replace e0 := take1 e0
  simp at e0
  subst e0
  obtain ⟨rs, hrs, hrp⟩ := list_of (p := fun k (r : Rt) => (∃ b o, no = some ⟨b, o, none⟩ ∧ RtAt W.heap.size W b (o + k * 25) r) ∧ r.name.size ≤ maxLen ∧ r.ifs.length ≤ maxLen ∧ ∀ x ∈ r.ifs, x.size ≤ maxLen) R (fun k hk => by
    obtain ⟨b, o, cs', n', y', ea, hb', hc', hr', ht'⟩ := hel k hk
    obtain ⟨r, hr1, hr2⟩ := rt_of hc' hb' hr' ht'
    exact ⟨r, ⟨b, o, ea, hr1⟩, hr2⟩)
  -- the answer
  obtain ⟨_, _, g0⟩ := trod_field' Tryz.underlying61 t1 0 _ rfl 3 0 1 rfl rfl Tryz.co3
  obtain ⟨_, _, g1⟩ := trod_field' Tryz.underlying61 t1 1 _ rfl 25 1 1 rfl rfl Tryz.co25
  obtain ⟨_, _, g2⟩ := trod_field' Tryz.underlying61 t1 2 _ rfl 58 2 7 rfl rfl Tryz.co58
  obtain ⟨_, _, g3⟩ := trod_field' Tryz.underlying61 t1 3 _ rfl 59 9 1 rfl rfl Tryz.co59
  obtain ⟨_, _, g4⟩ := trod_field' Tryz.underlying61 t1 4 _ rfl 3 10 1 rfl rfl Tryz.co3
  obtain ⟨_, _, g5⟩ := trod_field' Tryz.underlying61 t1 5 _ rfl 36 11 5 rfl rfl Tryz.co36
  obtain ⟨ve, a0, _⟩ := int_of Tryz.underlying3 g0
  obtain ⟨ao, n, cap, a1, hn, hde⟩ := trod_rows Tryz.underlying25 Tryz.co3 (by omega) g1
  obtain ⟨_, _, k0⟩ := trod_field' Tryz.underlying58 g2 0 _ rfl 46 0 2 rfl rfl Tryz.co46
  obtain ⟨_, _, k1⟩ := trod_field' Tryz.underlying58 g2 1 _ rfl 36 2 5 rfl rfl Tryz.co36
  obtain ⟨r, i, a2⟩ := end_of k0
  obtain ⟨pk, hpk, a3⟩ := pk_of k1
  obtain ⟨po, q, pcap, a4, hq, hpe⟩ := trod_rows Tryz.underlying59 Tryz.co95 (by omega) g3
  obtain ⟨lo, a5, wlo⟩ := int_of Tryz.underlying3 g4
  obtain ⟨ok, hok, a6⟩ := pk_of g5
  replace a0 := take1 a0
  replace a1 := take1 a1
  replace a4 := take1 a4
  replace a5 := take1 a5
  simp at a0 a1 a2 a4 a5
  obtain ⟨rfl, rfl⟩ := a2
  subst a0 a1 a4 a5
  have a3 : [c4, c5, c6, c7, c8] = pk.cells := by simpa using a3
  have a6 : [c11, c12, c13, c14, c15] = ok.cells := by simpa using a6
  unfold Pk.cells at a3 a6
  simp only [List.cons.injEq, and_true] at a3 a6
  obtain ⟨rfl, rfl, rfl, rfl, rfl⟩ := a3
  obtain ⟨rfl, rfl, rfl, rfl, rfl⟩ := a6
  obtain ⟨ds, hds, hdp⟩ := list_of (p := fun k (d : Int) => I64 d ∧ ∃ b o, ao = some ⟨b, o, none⟩ ∧ b < W.heap.size ∧ W.cell? ⟨b, o + k, none⟩ = some (.int .i64 d)) n (fun k hk => by
    obtain ⟨b, o, cs', n', y', ea, hb', hc', hr', ht'⟩ := hde k hk
    obtain ⟨d, ed, wd⟩ := int_of Tryz.underlying3 ht'
    subst ed
    have := hr' 0 _ rfl
    rw [Nat.add_zero, Nat.mul_one] at this
    exact ⟨d, i64_wf wd, b, o, ea, hb', this⟩)
  obtain ⟨ms, hms, hmp⟩ := list_of (p := fun k (m : Mov) => m.p.Ok ∧ ∃ b o, po = some ⟨b, o, none⟩ ∧ b < W.heap.size ∧ W.rangeAt b (o + k * 8) m.cells) q (fun k hk => by
    obtain ⟨b, o, cs', n', y', ea, hb', hc', hr', ht'⟩ := hpe k hk
    obtain ⟨m, hm, em⟩ := mov_of ht'
    subst em
    exact ⟨m, hm, b, o, ea, hb', hr'⟩)
  refine ⟨no, R, ncap, ao, n, cap, po, q, pcap, rs, ⟨ve, ds, r, i, pk, ms, lo, ok⟩, rfl, rfl, ?_⟩
  exact { rlen := hrs, len := hds, plen := hms, rts := fun k r hr => (hrp k r hr).1, cells := fun k d hd => (hdp k d hd).2, moves := fun k m hm => (hmp k m hm).2, tabs := HT, downs := fun d hd => (by obtain ⟨j, hj, rfl⟩ := List.getElem_of_mem hd; exact (hdp j _ (List.getElem?_eq_getElem hj)).1), pk := hpk, opk := hok, mpk := fun m hm => (by obtain ⟨j, hj, rfl⟩ := List.getElem_of_mem hm; exact (hmp j _ (List.getElem?_eq_getElem hj)).1), loop := i64_wf wlo, rmax := hR, nmax := hn, qmax := hq, nms := fun r hr => (by obtain ⟨j, hj, rfl⟩ := List.getElem_of_mem hr; exact (hrp j _ (List.getElem?_eq_getElem hj)).2) }

end Go.Proofs.YtdmfdclkpdliaaaGreatDoor
