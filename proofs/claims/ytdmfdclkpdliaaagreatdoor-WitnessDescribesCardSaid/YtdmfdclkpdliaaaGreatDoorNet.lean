/- What the memory of a network and of an answer shows, and that it stays so while the call makes memory of its own; two small laws of the walk (a struct stored whole into the block made last). No condition. -/
import Derived.Test.YtdmfdclkpdliaaaGreatDoorSay
import Derived.Test.YtdmfdclkpdliaaaGreatDoorBld
import Derived.Deep.WholeRow
import Derived.Lib.LaidTab
import Derived.Lib.Hide
namespace Go.Proofs.YtdmfdclkpdliaaaGreatDoor
open Go Go.RowKit Go.Shelf

def RtAt (B : Nat) (w : World) (b o : Nat) (r : Rt) : Prop :=
  b < B ∧ ∃ cs : List Value, cs.length = 25 ∧ (∀ v ∈ cs, v.oneCell' = true) ∧ w.rangeAt b o cs ∧ cs[0]? = some (.string r.name) ∧
    ∃ ao cap, cs[2]? = some (.slice ao r.ifs.length cap) ∧ ∀ (k : Nat) x, r.ifs[k]? = some x → ∃ b' o', ao = some ⟨b', o', none⟩ ∧ b' < B ∧ w.cell? ⟨b', o' + k * 12, none⟩ = some (.string x)
def NetAt (B : Nat) (w : World) (v : Value) (rs : List Rt) : Prop :=
  ∃ ao cap, v = .slice ao rs.length cap ∧ ∀ (k : Nat) r, rs[k]? = some r → ∃ b o, ao = some ⟨b, o, none⟩ ∧ RtAt B w b (o + k * 25) r
def DownAt (B : Nat) (w : World) (v : Value) (ds : List Int) : Prop :=
  ∃ ao cap, v = .slice ao ds.length cap ∧ ∀ (k : Nat) d, ds[k]? = some d → ∃ b o, ao = some ⟨b, o, none⟩ ∧ b < B ∧ w.cell? ⟨b, o + k, none⟩ = some (.int .i64 d)
def PathAt (B : Nat) (w : World) (v : Value) (ms : List Mov) : Prop :=
  ∃ ao cap, v = .slice ao ms.length cap ∧ ∀ (k : Nat) m, ms[k]? = some m → ∃ b o, ao = some ⟨b, o, none⟩ ∧ b < B ∧ w.rangeAt b (o + k * 8) m.cells
def Tabs (w : World) : Prop := Lib.TabIs Tryz.prog w "internal/strconv.uint64pow10" .u64 Lib.pow10Tab

theorem rangeAt_below {B b o : Nat} {w w' : World} {cs : List Value} (h : w.rangeAt b o cs) (hb : b < B) (hw : Below B w w') : w'.rangeAt b o cs := fun j v hv => (hw.cell (p := ⟨b, o + j, none⟩) hb).trans (h j v hv)
theorem RtAt.below {B b o : Nat} {w w' : World} {r : Rt} (h : RtAt B w b o r) (hw : Below B w w') : RtAt B w' b o r := by
  obtain ⟨hb, cs, h1, h2, h3, h4, ao, cap, h5, h6⟩ := h
  refine ⟨hb, cs, h1, h2, rangeAt_below h3 hb hw, h4, ao, cap, h5, fun k x hx => ?_⟩
  obtain ⟨b', o', e, hb', hc⟩ := h6 k x hx
  exact ⟨b', o', e, hb', (hw.cell (p := ⟨b', o' + k * 12, none⟩) hb').trans hc⟩
theorem NetAt.below {B : Nat} {w w' : World} {v : Value} {rs : List Rt} (h : NetAt B w v rs) (hw : Below B w w') : NetAt B w' v rs := by
  obtain ⟨ao, cap, e, h1⟩ := h
  exact ⟨ao, cap, e, fun k r hr => by obtain ⟨b, o, q, h2⟩ := h1 k r hr; exact ⟨b, o, q, h2.below hw⟩⟩
theorem DownAt.below {B : Nat} {w w' : World} {v : Value} {ds : List Int} (h : DownAt B w v ds) (hw : Below B w w') : DownAt B w' v ds := by
  obtain ⟨ao, cap, e, h1⟩ := h
  exact ⟨ao, cap, e, fun k r hr => by obtain ⟨b, o, q, hb, h2⟩ := h1 k r hr; exact ⟨b, o, q, hb, (hw.cell (p := ⟨b, o + k, none⟩) hb).trans h2⟩⟩
theorem PathAt.below {B : Nat} {w w' : World} {v : Value} {ms : List Mov} (h : PathAt B w v ms) (hw : Below B w w') : PathAt B w' v ms := by
  obtain ⟨ao, cap, e, h1⟩ := h
  exact ⟨ao, cap, e, fun k r hr => by obtain ⟨b, o, q, hb, h2⟩ := h1 k r hr; exact ⟨b, o, q, hb, rangeAt_below h2 hb hw⟩⟩
theorem Tabs.lt {w : World} (h : Tabs w) : ∃ g, Tryz.prog.globalNamed "internal/strconv.uint64pow10" = some g ∧ g < w.heap.size := by
  unfold Tabs Lib.TabIs World.var? at h
  cases hg : Tryz.prog.globalNamed "internal/strconv.uint64pow10" with
  | none => rw [hg] at h; cases h
  | some g =>
    rw [hg] at h
    refine ⟨g, rfl, ?_⟩
    rcases Nat.lt_or_ge g w.heap.size with hlt | hge
    · exact hlt
    · simp only [Option.bind_some] at h
      rw [Array.getElem?_eq_none hge] at h
      cases h
theorem Tabs.below {B : Nat} {w w' : World} (h : Tabs w) (hB : B = w.heap.size) (hw : Below B w w') : Tabs w' := by
  subst hB
  obtain ⟨g, hg, hlt⟩ := h.lt
  unfold Tabs Lib.TabIs World.var? at h ⊢
  rw [hg] at h ⊢
  simp only [Option.bind_some] at h ⊢
  rw [hw.block g hlt]
  exact h
theorem NetAt.mono {B B' : Nat} {w : World} {v : Value} {rs : List Rt} (h : NetAt B w v rs) (hB : B ≤ B') : NetAt B' w v rs := by
  obtain ⟨ao, cap, e, h1⟩ := h
  refine ⟨ao, cap, e, fun k r hr => ?_⟩
  obtain ⟨b, o, q, h2, cs, a1, a2, a3, a4, ao', cap', a5, a6⟩ := h1 k r hr
  refine ⟨b, o, q, by omega, cs, a1, a2, a3, a4, ao', cap', a5, fun k x hx => ?_⟩
  obtain ⟨b', o', e, hb', hc⟩ := a6 k x hx
  exact ⟨b', o', e, by omega, hc⟩

/- a struct stored whole into the block that was made last -/
theorem wpList_store_new {P : Program} {ops : Array Oper} {rest : List Oper} {op : Oper} {a : Act} {w : World} {Q : Exit → Act → World → Prop} (hgd : op.guard = none) (ty : TypeId) (x y : Operand) (ho : op.op = .store ty x y)
    (W : World) (c c' : Array Value) (hw : w = W.alloc (.cells c ty)) (H : Nat) (hH : W.heap.size = H) (hx : a.eval x = .pointer (some ⟨H, 0, none⟩)) (hy : a.eval y = .agg c')
    (hi : (P.info? ty).map (·.size) = some c'.size) (hs : c.size = c'.size) (h1 : c'.all (·.oneCell') = true)
    (h : wpList P ops Q rest (a.put op.dst undef) (W.alloc (.cells c' ty))) : wpList P ops Q (op :: rest) a w := by
  subst hw hH
  refine wpList_plain hgd fun _ hK => ?_
  unfold Oper.wp execOp
  simp only [ho, hx, hy, Instr.storeAt, Instr.sureAddr, Sem.run_bind, Sem.run_pure, Result.andThen_ok, run_storeVar_new W ty c c' hi hs h1]
  exact hK _ _ h

end Go.Proofs.YtdmfdclkpdliaaaGreatDoor
