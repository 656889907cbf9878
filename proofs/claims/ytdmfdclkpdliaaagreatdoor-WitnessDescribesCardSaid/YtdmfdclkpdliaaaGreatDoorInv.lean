/- What both writers of an answer keep: their two boxes, old memory; lemmas on the texts. No program's walk stands here. -/
import Derived.Test.YtdmfdclkpdliaaaGreatDoorPka
import Derived.Test.YtdmfdclkpdliaaaGreatDoorWkc
namespace Go.Proofs.YtdmfdclkpdliaaaGreatDoor
open Go Go.RowKit Go.Shelf

/- the boxes of the network and of the answer in the blocks B and B + 1; below B all is as in w -/
def Inv (w : World) (nv dv pv : Value) (a : An) (wr : World) : Prop :=
  wr.heap[w.heap.size]? = some (.cells #[nv] 24 (0, 0)) ∧
  wr.heap[w.heap.size + 1]? = some (.cells #[.int .i64 a.verdict, dv, .int .i64 a.r, .int .i64 a.i, .int .u32 a.p.src, .int .u32 a.p.dst, .int .i64 a.p.proto, .int .i64 a.p.sport, .int .i64 a.p.dport, pv, .int .i64 a.loop, .int .u32 a.other.src, .int .u32 a.other.dst, .int .i64 a.other.proto, .int .i64 a.other.sport, .int .i64 a.other.dport] 61 (0, 0)) ∧
  Below w.heap.size w wr ∧ w.heap.size + 2 ≤ wr.heap.size
section
variable {w wr w' : World} {nv dv pv : Value} {a : An}
theorem Inv.below (h : Inv w nv dv pv a wr) : Below w.heap.size w wr := h.2.2.1
theorem Inv.size (h : Inv w nv dv pv a wr) : w.heap.size + 2 ≤ wr.heap.size := h.2.2.2
theorem Inv.upto (h : Inv w nv dv pv a wr) (hb : Below (w.heap.size + 2) wr w') : Inv w nv dv pv a w' :=
  ⟨(hb.block _ (by omega)).trans h.1, (hb.block _ (by omega)).trans h.2.1, h.below.trans (hb.mono (by omega)), Nat.le_trans h.size hb.size⟩
theorem Inv.call (h : Inv w nv dv pv a wr) (hb : Below wr.heap.size wr w') : Inv w nv dv pv a w' := h.upto (hb.mono h.size)
theorem Inv.alloc (h : Inv w nv dv pv a wr) (o : Obj) : Inv w nv dv pv a (wr.alloc o) := h.call ((Below.refl _ _).alloc (Nat.le_refl _) o)
theorem Inv.drew (h : Inv w nv dv pv a wr) : Inv w nv dv pv a wr.drew := h.call (Below.refl _ _).drew
theorem Inv.drewN (h : Inv w nv dv pv a wr) (n : Nat) : Inv w nv dv pv a (wr.drewN n) := h.call (belowN (Below.refl _ _) n)
theorem Inv.grown {row : Option Nat} (h : Inv w nv dv pv a wr) (hg : wr.grownBy w' row) (hr : ∀ k, row = some k → w.heap.size + 2 ≤ k) : Inv w nv dv pv a w' :=
  h.upto ((Below.refl _ _).grown hg h.size hr)
theorem Inv.start (w : World) (nv dv pv : Value) (a : An) : Inv w nv dv pv a ((w.alloc (.cells #[nv] 24)).alloc (.cells #[.int .i64 a.verdict, dv, .int .i64 a.r, .int .i64 a.i, .int .u32 a.p.src, .int .u32 a.p.dst, .int .i64 a.p.proto, .int .i64 a.p.sport, .int .i64 a.p.dport, pv, .int .i64 a.loop, .int .u32 a.other.src, .int .u32 a.other.dst, .int .i64 a.other.proto, .int .i64 a.other.sport, .int .i64 a.other.dport] 61)) :=
  ⟨heap_alloc2_old _ _ _, heap_alloc2_new _ _ _, below2 _ _ _, by simp⟩
theorem Inv.n (h : Inv w nv dv pv a wr) : wr.cell? ⟨w.heap.size, 0, none⟩ = some nv := by rw [cell_of_row _ _ _ _ _ _ h.1]; rfl
theorem Inv.c0 (h : Inv w nv dv pv a wr) : wr.cell? ⟨w.heap.size + 1, 0, none⟩ = some (.int .i64 a.verdict) := by rw [cell_of_row _ _ _ _ _ _ h.2.1]; rfl
theorem Inv.c1 (h : Inv w nv dv pv a wr) : wr.cell? ⟨w.heap.size + 1, 1, none⟩ = some (dv) := by rw [cell_of_row _ _ _ _ _ _ h.2.1]; rfl
theorem Inv.c2 (h : Inv w nv dv pv a wr) : wr.cell? ⟨w.heap.size + 1, 2, none⟩ = some (.int .i64 a.r) := by rw [cell_of_row _ _ _ _ _ _ h.2.1]; rfl
theorem Inv.c3 (h : Inv w nv dv pv a wr) : wr.cell? ⟨w.heap.size + 1, 3, none⟩ = some (.int .i64 a.i) := by rw [cell_of_row _ _ _ _ _ _ h.2.1]; rfl
theorem Inv.c4 (h : Inv w nv dv pv a wr) : wr.cell? ⟨w.heap.size + 1, 4, none⟩ = some (.int .u32 a.p.src) := by rw [cell_of_row _ _ _ _ _ _ h.2.1]; rfl
theorem Inv.c5 (h : Inv w nv dv pv a wr) : wr.cell? ⟨w.heap.size + 1, 5, none⟩ = some (.int .u32 a.p.dst) := by rw [cell_of_row _ _ _ _ _ _ h.2.1]; rfl
theorem Inv.c6 (h : Inv w nv dv pv a wr) : wr.cell? ⟨w.heap.size + 1, 6, none⟩ = some (.int .i64 a.p.proto) := by rw [cell_of_row _ _ _ _ _ _ h.2.1]; rfl
theorem Inv.c7 (h : Inv w nv dv pv a wr) : wr.cell? ⟨w.heap.size + 1, 7, none⟩ = some (.int .i64 a.p.sport) := by rw [cell_of_row _ _ _ _ _ _ h.2.1]; rfl
theorem Inv.c8 (h : Inv w nv dv pv a wr) : wr.cell? ⟨w.heap.size + 1, 8, none⟩ = some (.int .i64 a.p.dport) := by rw [cell_of_row _ _ _ _ _ _ h.2.1]; rfl
theorem Inv.c9 (h : Inv w nv dv pv a wr) : wr.cell? ⟨w.heap.size + 1, 9, none⟩ = some (pv) := by rw [cell_of_row _ _ _ _ _ _ h.2.1]; rfl
theorem Inv.c10 (h : Inv w nv dv pv a wr) : wr.cell? ⟨w.heap.size + 1, 10, none⟩ = some (.int .i64 a.loop) := by rw [cell_of_row _ _ _ _ _ _ h.2.1]; rfl
theorem Inv.c11 (h : Inv w nv dv pv a wr) : wr.cell? ⟨w.heap.size + 1, 11, none⟩ = some (.int .u32 a.other.src) := by rw [cell_of_row _ _ _ _ _ _ h.2.1]; rfl
theorem Inv.c12 (h : Inv w nv dv pv a wr) : wr.cell? ⟨w.heap.size + 1, 12, none⟩ = some (.int .u32 a.other.dst) := by rw [cell_of_row _ _ _ _ _ _ h.2.1]; rfl
theorem Inv.c13 (h : Inv w nv dv pv a wr) : wr.cell? ⟨w.heap.size + 1, 13, none⟩ = some (.int .i64 a.other.proto) := by rw [cell_of_row _ _ _ _ _ _ h.2.1]; rfl
theorem Inv.c14 (h : Inv w nv dv pv a wr) : wr.cell? ⟨w.heap.size + 1, 14, none⟩ = some (.int .i64 a.other.sport) := by rw [cell_of_row _ _ _ _ _ _ h.2.1]; rfl
theorem Inv.c15 (h : Inv w nv dv pv a wr) : wr.cell? ⟨w.heap.size + 1, 15, none⟩ = some (.int .i64 a.other.dport) := by rw [cell_of_row _ _ _ _ _ _ h.2.1]; rfl
end

theorem firstT_succ {v d : Int} {ds : List Int} {k : Nat} (h : ds[k]? = some d) : cat (firstT v ds k) (cat [32] (Lib.itoa d)) = firstT v ds (k + 1) := by
  unfold cat firstT
  rw [List.take_add_one, h, Option.toList_some, downT_append]
  simp [List.append_assoc]
theorem downT_le (ds : List Int) (h : ∀ d ∈ ds, I64 d) : (downT ds).length ≤ 22 * ds.length := by
  induction ds with
  | nil => simp [downT]
  | cons d l ih =>
    have h1 := ih fun x hx => h x (List.mem_cons_of_mem _ hx)
    have h2 := Lib.itoa_length_le d (h d List.mem_cons_self).1 (h d List.mem_cons_self).2
    simp [downT]
    omega
theorem headT_le (v : Int) : (headT v).length ≤ 8 := by
  unfold headT
  split
  · simp
  · split <;> simp
theorem firstT_le (v : Int) (ds : List Int) (k : Nat) (h : ∀ d ∈ ds, I64 d) (hl : ds.length ≤ 20) : (firstT v ds k).length ≤ 460 := by
  have h1 := headT_le v
  have h2 := downT_le (ds.take k) fun d hd => h d (List.mem_of_mem_take hd)
  have h3 : (ds.take k).length ≤ ds.length := by rw [List.length_take]; exact Nat.min_le_right _ _
  unfold firstT
  simp only [List.length_append]
  split <;> simp <;> omega
theorem pkT_le (p : Pk) (h : p.Ok) : (pkT p).length ≤ 120 := by
  have h1 := fmtA_le p.src
  have h2 := fmtA_le p.dst
  have h3 := Lib.itoa_length_le p.proto h.proto.1 h.proto.2
  have h4 := Lib.itoa_length_le p.sport h.sport.1 h.sport.2
  have h5 := Lib.itoa_length_le p.dport h.dport.1 h.dport.2
  unfold pkT
  simp only [List.length_append, List.length_singleton]
  omega
theorem wordT_le (k : Int) : (wordT k).length ≤ 11 := by
  unfold wordT
  repeat (split; · simp)
  simp
theorem placeT_le {rs : List Rt} {r i : Int} (hn : NetOk rs) (h : placeOk rs r i = true) : (placeT rs r i).length ≤ 101 := by
  obtain ⟨k, x, rfl, hx, hi⟩ := placeOk_cases h
  obtain ⟨h1, h2, h3⟩ := hn.2 x (List.mem_of_getElem? hx)
  rcases hi with rfl | ⟨j, y, rfl, hy⟩
  · rw [placeT_name hx]
    have e : x.name.data.toList.length = x.name.size := by rw [Array.length_toList]; rfl
    omega
  · rw [placeT_full hx hy]
    have := h3 y (List.mem_of_getElem? hy)
    have e : x.name.data.toList.length = x.name.size := by rw [Array.length_toList]; rfl
    have e' : y.data.toList.length = y.size := by rw [Array.length_toList]; rfl
    rw [List.length_append, List.length_append, List.length_singleton]
    omega

/- the last packet of an answer, held against the packet of zeros -/
theorem neq_other (p : Pk) (w : World) : (binOp .neq 36 (.agg #[.int .u32 p.src, .int .u32 p.dst, .int .i64 p.proto, .int .i64 p.sport, .int .i64 p.dport]) (.agg #[.int .u32 0, .int .u32 0, .int .i64 0, .int .i64 0, .int .i64 0])).run Tryz.prog w = .ok (.bool (!otherZero p)) w := by
  obtain ⟨src, dst, proto, sport, dport⟩ := p
  unfold otherZero
  simp only
  by_cases h1 : src = 0
  · by_cases h2 : dst = 0
    · by_cases h3 : proto = 0
      · by_cases h4 : sport = 0
        · by_cases h5 : dport = 0
          · subst h1 h2 h3 h4 h5
            go_simp
          · go_simp
        · go_simp
      · go_simp
    · go_simp
  · go_simp

end Go.Proofs.YtdmfdclkpdliaaaGreatDoor
