/- witness.Describe: the walk. -/
import Derived.Test.YtdmfdclkpdliaaaGreatDoorInv
import Derived.Deep.AppendLies
import Derived.Deep.DeepCutAuto
namespace Go.Proofs.YtdmfdclkpdliaaaGreatDoor
open Go Go.RowKit Go.Shelf

/- what is known of the arguments -/
structure Args (w : World) (nv dv pv : Value) (rs : List Rt) (a : An) : Prop where
  net : NetAt w.heap.size w nv rs
  down : DownAt w.heap.size w dv a.down
  path : PathAt w.heap.size w pv a.path
  tabs : Tabs w
  ok : NetOk rs
  downs : ∀ d ∈ a.down, I64 d
  nd : a.down.length ≤ 20
  np : a.path.length ≤ 20
  pk : a.p.Ok
  opk : a.other.Ok
  moves : ∀ m ∈ a.path, m.p.Ok
  loop : I64 a.loop

/- the same, the slice of the links written out -/
structure Args' (w : World) (nv : Value) (ao : Option Addr) (n cap : Nat) (po : Option Addr) (q pcap : Nat) (rs : List Rt) (a : An) : Prop where
  len : a.down.length = n
  plen : a.path.length = q
  moves : ∀ (k : Nat) m, a.path[k]? = some m → ∃ b o, po = some ⟨b, o, none⟩ ∧ b < w.heap.size ∧ w.rangeAt b (o + k * 8) m.cells
  cells : ∀ (k : Nat) d, a.down[k]? = some d → ∃ b o, ao = some ⟨b, o, none⟩ ∧ b < w.heap.size ∧ w.cell? ⟨b, o + k, none⟩ = some (.int .i64 d)
  args : Args w nv (.slice ao n cap) (.slice po q pcap) rs a

theorem first_zero (v : Int) (ds : List Int) (n : Nat) (h : ds.length = n) : firstT v ds 0 = if 0 < n then headT v ++ [32, 100, 111, 119, 110] else headT v := by
  unfold firstT
  subst h
  cases ds with
  | nil => simp [downT]
  | cons d l => simp [downT]

/- what Describe leaves -/
def strs (l : List (List UInt8)) : List Value := l.map fun x => Value.string ⟨x.toArray⟩
def DPost (w : World) (rs : List Rt) (a : An) (e : Ending) (w' : World) : Prop :=
  Below w.heap.size w w' ∧ ((ansOk rs a = true ∧ ∃ g cap, e = .returned (.tuple #[.slice (some ⟨g, 0, none⟩) (ansT rs a).length cap, .int .i64 0]) ∧ w'.ownsRow w.heap.size 9 1 (.slice (some ⟨g, 0, none⟩) (ansT rs a).length cap) (ansT rs a).length (strs (ansT rs a))) ∨
    (ansOk rs a = false ∧ e = .returned (.tuple #[.slice none 0 0, .int .i64 1])))
theorem Tryz.info9 : (Tryz.prog.info? 9).map (fun i => (i.zero, i.size, i.bytes)) = some (some (.string ⟨#[]⟩), 1, 16) := by kernel_rfl
theorem own_call {B n : Nat} {v : Value} {xs : List Value} {W w' : World} (hb : Below W.heap.size W w') (h : W.ownsRow B 9 1 v n xs) : w'.ownsRow B 9 1 v n xs := by
  refine ⟨h.1, ?_⟩
  rcases h.2 with h2 | ⟨g, cap, cur, hv, hg, hh, r⟩
  · exact .inl h2
  · exact .inr ⟨g, cap, cur, hv, hg, (hb.block g (Array.getElem?_eq_some_iff.1 hh).1).trans hh, r⟩
theorem own_first {B : Nat} (W : World) (x : ByteArray) (hB : B ≤ W.heap.size) : (W.alloc (.cells #[.string x] 9)).ownsRow B 9 1 (.slice (some ⟨W.heap.size, 0, none⟩) 1 1) 1 [.string x] :=
  ⟨rfl, .inr ⟨W.heap.size, 1, _, rfl, hB, heap_alloc_new _ _, Nat.le_refl _, by decide, rfl, rfl⟩⟩
/- the lines so far -/
def Lines (w : World) (nv dv pv : Value) (a : An) (xs : List (List UInt8)) (s9 : Value) (wx : World) : Prop := wx.ownsRow (w.heap.size + 2) 9 1 s9 xs.length (strs xs) ∧ Inv w nv dv pv a wx
def linesK (rs : List Rt) (a : An) (nd k : Nat) : List (List UInt8) := firstT 2 a.down nd :: startT rs a :: (a.path.take k).map (movT rs)
theorem j3_start (rs : List Rt) (a : An) : j3 [115, 116, 97, 114, 116] (placeT rs a.r a.i) (pkT a.p) = startT rs a := by simp [j3, startT]
theorem j3_mov (rs : List Rt) (m : Mov) : j3 (wordT m.kind) (placeT rs m.r m.i) (pkT m.p) = movT rs m := rfl
theorem linesK_zero (rs : List Rt) (a : An) (nd : Nat) : linesK rs a nd 0 = [firstT 2 a.down nd, startT rs a] := rfl
theorem linesK_succ {rs : List Rt} {a : An} {nd k : Nat} {m : Mov} (h : a.path[k]? = some m) : linesK rs a nd (k + 1) = linesK rs a nd k ++ [movT rs m] := by
  unfold linesK
  rw [List.take_add_one, h]
  simp
theorem linesK_len (rs : List Rt) (a : An) (nd k : Nat) (h : k ≤ a.path.length) : (linesK rs a nd k).length = k + 2 := by
  unfold linesK
  simp
  omega
/- and the block X that holds a move -/
def Inv2 (w : World) (nv dv pv : Value) (a : An) (X : Nat) (m : Mov) (wr : World) : Prop := Inv w nv dv pv a wr ∧ wr.heap[X]? = some (.cells #[.int .i64 m.kind, .int .i64 m.r, .int .i64 m.i, .int .u32 m.p.src, .int .u32 m.p.dst, .int .i64 m.p.proto, .int .i64 m.p.sport, .int .i64 m.p.dport] 95 (0, 0))
section
variable {w wr w' : World} {nv dv pv : Value} {a : An} {X : Nat} {m : Mov}
theorem Inv2.call (h : Inv2 w nv dv pv a X m wr) (hb : Below wr.heap.size wr w') : Inv2 w nv dv pv a X m w' := ⟨h.1.call hb, (hb.block X (Array.getElem?_eq_some_iff.1 h.2).1).trans h.2⟩
theorem Inv2.alloc (h : Inv2 w nv dv pv a X m wr) (o : Obj) : Inv2 w nv dv pv a X m (wr.alloc o) := h.call ((Below.refl _ _).alloc (Nat.le_refl _) o)
theorem Inv2.drew (h : Inv2 w nv dv pv a X m wr) : Inv2 w nv dv pv a X m wr.drew := h.call (Below.refl _ _).drew
theorem Inv2.grown {row : Option Nat} (h : Inv2 w nv dv pv a X m wr) (hg : wr.grownBy w' row) (hr : ∀ k, row = some k → w.heap.size + 2 ≤ k ∧ k < X) : Inv2 w nv dv pv a X m w' :=
  ⟨h.1.grown hg fun k hk => (hr k hk).1, (hg.block X (Array.getElem?_eq_some_iff.1 h.2).1 fun e => Nat.lt_irrefl _ (hr X e.symm).2).trans h.2⟩
theorem Inv2.x0 (h : Inv2 w nv dv pv a X m wr) : wr.cell? ⟨X, 0, none⟩ = some (.int .i64 m.kind) := by rw [cell_of_row _ _ _ _ _ _ h.2]; rfl
theorem Inv2.x1 (h : Inv2 w nv dv pv a X m wr) : wr.cell? ⟨X, 1, none⟩ = some (.int .i64 m.r) := by rw [cell_of_row _ _ _ _ _ _ h.2]; rfl
theorem Inv2.x2 (h : Inv2 w nv dv pv a X m wr) : wr.cell? ⟨X, 2, none⟩ = some (.int .i64 m.i) := by rw [cell_of_row _ _ _ _ _ _ h.2]; rfl
theorem Inv2.x3 (h : Inv2 w nv dv pv a X m wr) : wr.cell? ⟨X, 3, none⟩ = some (.int .u32 m.p.src) := by rw [cell_of_row _ _ _ _ _ _ h.2]; rfl
theorem Inv2.x4 (h : Inv2 w nv dv pv a X m wr) : wr.cell? ⟨X, 4, none⟩ = some (.int .u32 m.p.dst) := by rw [cell_of_row _ _ _ _ _ _ h.2]; rfl
theorem Inv2.x5 (h : Inv2 w nv dv pv a X m wr) : wr.cell? ⟨X, 5, none⟩ = some (.int .i64 m.p.proto) := by rw [cell_of_row _ _ _ _ _ _ h.2]; rfl
theorem Inv2.x6 (h : Inv2 w nv dv pv a X m wr) : wr.cell? ⟨X, 6, none⟩ = some (.int .i64 m.p.sport) := by rw [cell_of_row _ _ _ _ _ _ h.2]; rfl
theorem Inv2.x7 (h : Inv2 w nv dv pv a X m wr) : wr.cell? ⟨X, 7, none⟩ = some (.int .i64 m.p.dport) := by rw [cell_of_row _ _ _ _ _ _ h.2]; rfl
end
theorem moveS {w w' : World} {nv dv pv : Value} {a : An} {X : Nat} {m : Mov} (h : Inv2 w nv dv pv a X m w') : w'.cell? ⟨w.heap.size, 0, none⟩ = some nv ∧ w'.cell? ⟨X, 1, none⟩ = some (.int .i64 m.r) ∧ w'.cell? ⟨X, 2, none⟩ = some (.int .i64 m.i) ∧ w'.cell? ⟨X, 3, none⟩ = some (.int .u32 m.p.src) ∧ w'.cell? ⟨X, 4, none⟩ = some (.int .u32 m.p.dst) ∧
    w'.cell? ⟨X, 5, none⟩ = some (.int .i64 m.p.proto) ∧ w'.cell? ⟨X, 6, none⟩ = some (.int .i64 m.p.sport) ∧ w'.cell? ⟨X, 7, none⟩ = some (.int .i64 m.p.dport) ∧ Hid (Inv2 w nv dv pv a X m w') :=
  ⟨h.1.n, h.x1, h.x2, h.x3, h.x4, h.x5, h.x6, h.x7, Lib.hid h⟩
def MovesOk (rs : List Rt) (a : An) (k : Nat) : Prop := ∀ (j : Nat) m, j < k → a.path[j]? = some m → movOk rs m = true
theorem MovesOk.step {rs : List Rt} {a : An} {k : Nat} {m : Mov} (h : MovesOk rs a k) (hm : Hid (a.path[k]? = some m)) (hk : Hid (1 ≤ m.kind ∧ m.kind ≤ 8)) (hp : Hid (placeOk rs m.r m.i = true)) : MovesOk rs a (k + 1) := fun j x hj hx => by
  by_cases he : j = k
  · subst he
    have hm := hm.out
    rw [hx] at hm
    cases hm
    unfold movOk
    rw [hp.out, decide_eq_true hk.out.1, decide_eq_true hk.out.2]
    rfl
  · exact h j x (by omega) hx
theorem own_next {rs : List Rt} {a : An} {nd k B : Nat} {m : Mov} {v : Value} {W : World} (hm : a.path[k]? = some m) (h : W.ownsRow B 9 1 v ((linesK rs a nd k).length + 1) (strs (linesK rs a nd k) ++ [.string ⟨(j3 (wordT m.kind) (placeT rs m.r m.i) (pkT m.p)).toArray⟩])) :
    W.ownsRow B 9 1 v (linesK rs a nd (k + 1)).length (strs (linesK rs a nd (k + 1))) := by
  rw [linesK_succ hm, ← j3_mov]
  simpa [strs] using h
theorem loopT_some {n : Int} (h : n ≠ -1) : loopT n = [j2 [108, 111, 111, 112] (Lib.itoa n)] := by
  unfold loopT
  rw [if_neg h]
  simp [j2]
theorem otherT_some {p : Pk} (h : otherZero p = false) : otherT p = [j2 [111, 116, 104, 101, 114] (pkT p)] := by
  unfold otherT
  rw [if_neg (by rw [h]; exact Bool.false_ne_true)]
  simp [j2]
theorem own_app {B : Nat} {l : List (List UInt8)} {x : List UInt8} {v : Value} {W : World} (h : W.ownsRow B 9 1 v (l.length + 1) (strs l ++ [.string ⟨x.toArray⟩])) : W.ownsRow B 9 1 v (l ++ [x]).length (strs (l ++ [x])) := by
  rw [List.length_append, List.length_singleton]
  simpa [strs] using h
def lines2 (rs : List Rt) (a : An) (nd q : Nat) : List (List UInt8) := linesK rs a nd q ++ loopT a.loop
theorem loopT_le (n : Int) : (loopT n).length ≤ 1 := by
  unfold loopT
  split <;> simp
theorem ansOk_good {rs : List Rt} {a : An} {q : Nat} (hv : a.verdict = 2) (hp : placeOk rs a.r a.i = true) (h : MovesOk rs a q) (hq : a.path.length = q) : ansOk rs a = true := by
  unfold ansOk
  rw [if_pos hv, hp, Bool.true_and, List.all_eq_true]
  intro m hm
  obtain ⟨j, hj, rfl⟩ := List.getElem_of_mem hm
  exact h j _ (by omega) (List.getElem?_eq_getElem hj)
theorem ansT_two {rs : List Rt} {a : An} {n q : Nat} (hv : a.verdict = 2) (hn : a.down.length = n) (hq : a.path.length = q) : ansT rs a = lines2 rs a n q ++ otherT a.other := by
  unfold ansT lines2 linesK
  rw [if_pos hv, hv, hn, List.take_of_length_le (by omega)]
  simp
theorem DPost_of {w wr : World} {nv dv pv : Value} {rs : List Rt} {a : An} {v : Value} {l : List (List UInt8)} (h : wr.ownsRow (w.heap.size + 2) 9 1 v l.length (strs l)) (hi : Inv w nv dv pv a wr) (ho : ansOk rs a = true) (hl : ansT rs a = l) : DPost w rs a (.returned (.tuple #[v, .int .i64 0])) wr := by
  subst hl
  refine ⟨hi.below, .inl ⟨ho, ?_⟩⟩
  rcases h.2 with ⟨_, h0⟩ | ⟨g, cap, cur, rfl, hg, r⟩
  · unfold ansT at h0
    simp at h0
  · exact ⟨g, cap, rfl, h.1, .inr ⟨g, cap, cur, rfl, by omega, r⟩⟩
theorem ansOk_bad {rs : List Rt} {a : An} {k : Nat} {m : Mov} (hv : a.verdict = 2) (hm : a.path[k]? = some m) (h : movOk rs m = false) : ansOk rs a = false := by
  unfold ansOk
  rw [if_pos hv, Bool.and_eq_false_iff]
  right
  rw [List.all_eq_false]
  exact ⟨m, List.mem_of_getElem? hm, by rw [h]; exact Bool.false_ne_true⟩
theorem word_ne {k : Int} (h : 1 ≤ k ∧ k ≤ 8) : wordT k ≠ [] := by
  unfold wordT
  repeat (split; · simp)
  omega
theorem startS {w w' : World} {nv dv pv : Value} {a : An} (h : Inv w nv dv pv a w') : w'.cell? ⟨w.heap.size, 0, none⟩ = some nv ∧ w'.cell? ⟨w.heap.size + 1, 2, none⟩ = some (.int .i64 a.r) ∧ w'.cell? ⟨w.heap.size + 1, 3, none⟩ = some (.int .i64 a.i) ∧ w'.cell? ⟨w.heap.size + 1, 4, none⟩ = some (.int .u32 a.p.src) ∧ w'.cell? ⟨w.heap.size + 1, 5, none⟩ = some (.int .u32 a.p.dst) ∧ w'.cell? ⟨w.heap.size + 1, 6, none⟩ = some (.int .i64 a.p.proto) ∧ w'.cell? ⟨w.heap.size + 1, 7, none⟩ = some (.int .i64 a.p.sport) ∧ w'.cell? ⟨w.heap.size + 1, 8, none⟩ = some (.int .i64 a.p.dport) ∧ Hid (Inv w nv dv pv a w') :=
  ⟨h.n, h.c2, h.c3, h.c4, h.c5, h.c6, h.c7, h.c8, Lib.hid h⟩

set_option maxRecDepth 100000 in
set_option maxHeartbeats 8000000 in
theorem describe_no (w : World) (nv : Value) (ao : Option Addr) (n cap : Nat) (po : Option Addr) (q pcap : Nat) (rs : List Rt) (a : An) (HA : Hid (Args' w nv ao n cap po q pcap rs a)) (hn : n ≤ 20) (hq : q ≤ 20) (HV : Hid (a.verdict = 2)) :
    Calls Tryz.prog 10 #[.agg #[nv], .agg #[.int .i64 2, .slice ao n cap, .int .i64 a.r, .int .i64 a.i, .int .u32 a.p.src, .int .u32 a.p.dst, .int .i64 a.p.proto, .int .i64 a.p.sport, .int .i64 a.p.dport, .slice po q pcap, .int .i64 a.loop, .int .u32 a.other.src, .int .u32 a.other.dst, .int .i64 a.other.proto, .int .i64 a.other.sport, .int .i64 a.other.dport]] w (DPost w rs a) := by
  have H0 := Lib.hid (first_zero 2 a.down n HA.out.len)
  have HF := Lib.hid (fun k => firstT_le 2 a.down k HA.out.args.downs HA.out.args.nd)
  have HI0 := Lib.hid (Inv.start w nv (.slice ao n cap) (.slice po q pcap) a)
  have HI0 : Hid (Inv w nv (.slice ao n cap) (.slice po q pcap) a ((w.alloc (.cells #[nv] 24)).alloc (.cells #[.int .i64 2, .slice ao n cap, .int .i64 a.r, .int .i64 a.i, .int .u32 a.p.src, .int .u32 a.p.dst, .int .i64 a.p.proto, .int .i64 a.p.sport, .int .i64 a.p.dport, .slice po q pcap, .int .i64 a.loop, .int .u32 a.other.src, .int .u32 a.other.dst, .int .i64 a.other.proto, .int .i64 a.other.sport, .int .i64 a.other.dport] 61))) := by
    have h := HI0.out
    rw [HV.out] at h
    exact Lib.hid h
  go_enter Tryz.func10, Tryz.ntmps10
  go_upto_if 24 with fail
  go_cut [6] (fun s6 wx => s6 = .string ⟨(firstT 2 a.down 0).toArray⟩ ∧ Hid (Inv w nv (.slice ao n cap) (.slice po q pcap) a wx))
  case first =>
    by_cases h : 0 < n
    · have a1 := add_str (a := headT 2) (b := [32, 100, 111, 119, 110]) (m := 8) (n := 5) (by decide) (by decide) (by omega)
      go_wp2
      go_meet
      case rel => exact ⟨by rw [H0.out, if_pos h]; rfl, HI0⟩
    · go_wp2
      go_meet
      case rel => exact ⟨by rw [H0.out, if_neg h]; rfl, HI0⟩
  case rest =>
    obtain ⟨rfl, HI⟩ := hcut
    have c1 := HI.out.c1
    go_wp2_with fail
    clear c1
    go_loopw [6, 30] (fun s6 i wr => ∃ k : Nat, k ≤ n ∧ i = .int .i64 k ∧ s6 = .string ⟨(firstT 2 a.down k).toArray⟩ ∧ Hid (Inv w nv (.slice ao n cap) (.slice po q pcap) a wr)) (fun _ i _ => n - (intOf i).toNat)
    case atStart => exact ⟨0, Nat.zero_le _, rfl, rfl, HI⟩
    case round =>
      clear HI HI0
      obtain ⟨k, hk, rfl, rfl, HI⟩ := hrel
      by_cases hkn : k < n
      · obtain ⟨d, hd⟩ : ∃ d, a.down[k]? = some d := ⟨a.down[k]'(by rw [HA.out.len]; exact hkn), List.getElem?_eq_getElem _⟩
        have HI5 := Lib.hid (HA.out.args.downs d (List.mem_of_getElem? hd))
        have HS := Lib.hid (firstT_succ (v := 2) hd)
        obtain ⟨b, o, rfl, hb, hc⟩ := HA.out.cells k d hd
        have hc' := (HI.out.below.cell (p := ⟨b, o + k, none⟩) hb).trans hc
        have L2 := Lib.hid (Lib.itoa_length_le d HI5.out.1 HI5.out.2)
        have l0 := Lib.hid (show ([32] : List UInt8).length ≤ 1 from Nat.le_refl _)
        have a1 := add_str l0.out L2.out (by omega)
        have a2 := add_str (HF.out k) (cat_le l0.out L2.out) (by omega)
        rw [HS.out] at a2
        clear hd hc hb
        go_wp2_with (go_at_call 35; refine (itoa_calls _ HI5.out _ (Lib.hid (HA.out.args.tabs.below rfl HI.out.below))).mono ?_; rintro e w' ⟨rfl, hb⟩)
        have HI6 := Lib.hid (HI.out.call hb)
        clear hb
        go_wp2
        go_roundw
        case rel => exact ⟨k + 1, by omega, by go_num, rfl, HI6⟩
        case measure => simp [intOf]; omega
      · have hke : k = n := by omega
        subst hke
        have c0 : wr.cell? ⟨w.heap.size + 1, 0, none⟩ = some (.int .i64 2) := by have h := HI.out.c0; rw [HV.out] at h; exact h
        have cn := HI.out.n
        have c2 := HI.out.c2
        have c3 := HI.out.c3
        have hs := HI.out.size
        have hs0 : w.heap.size < wr.heap.size := by omega
        have hs1 : w.heap.size + 1 < wr.heap.size := by omega
        have HI1 := Lib.hid (HI.out.alloc (.cells #[.string ⟨(firstT 2 a.down k).toArray⟩] 9))
        have hown0 := Lib.hid (own_first (B := w.heap.size + 2) wr ⟨(firstT 2 a.down k).toArray⟩ hs)
        clear HF
        by_cases HP : placeOk rs a.r a.i = true
        · have HPh := Lib.hid HP
          clear HP
          go_upto_region 22 with (go_at_call 36; refine (exists_calls w.heap.size rs nv a.r a.i _ (Lib.hid (HA.out.args.net.below HI1.out.below)) (by simp; omega)).mono ?_; rw [HPh.out]; rintro e w1 ⟨rfl, hb⟩)
          have hown := own_call hb hown0.out
          have HI2 := Lib.hid (HI1.out.call hb)
          clear hb hown0 HI1 c0 c2 c3 cn hs hs0 hs1 HI
          have LP := Lib.hid (placeT_le HA.out.args.ok HPh.out)
          have LK := Lib.hid (pkT_le a.p HA.out.args.pk)
          obtain ⟨i0, hi, hz0, hz1, hz2⟩ := info_parts Tryz.info9
          go_cut [9] (fun s9 wx => Hid (Lines w nv (.slice ao k cap) (.slice po q pcap) a (linesK rs a k 0) s9 wx))
          case first =>
            go_region_held3 (fun w' => w'.cell? ⟨w.heap.size, 0, none⟩ = some nv ∧ w'.cell? ⟨w.heap.size + 1, 2, none⟩ = some (.int .i64 a.r) ∧ w'.cell? ⟨w.heap.size + 1, 3, none⟩ = some (.int .i64 a.i) ∧ w'.cell? ⟨w.heap.size + 1, 4, none⟩ = some (.int .u32 a.p.src) ∧ w'.cell? ⟨w.heap.size + 1, 5, none⟩ = some (.int .u32 a.p.dst) ∧ w'.cell? ⟨w.heap.size + 1, 6, none⟩ = some (.int .i64 a.p.proto) ∧ w'.cell? ⟨w.heap.size + 1, 7, none⟩ = some (.int .i64 a.p.sport) ∧ w'.cell? ⟨w.heap.size + 1, 8, none⟩ = some (.int .i64 a.p.dport) ∧ Hid (Inv w nv (.slice ao k cap) (.slice po q pcap) a w'))
              (first
                | (go_split_ands; exact startS (Inv.grown (Hid.out (by assumption)) hgrow (fun k hk => (hown.lt k hk).1)))
                | (go_split_ands; exact startS (Inv.call (Hid.out (by assumption)) hb))
                | (go_split_ands; exact startS (Inv.alloc (Hid.out (by assumption)) _))
                | exact startS HI2.out.drew
                | go_keep)
              (first
                | (go_split_ands; refine step_append_lies _ (by rfl) _ _ _ (by rfl) (w.heap.size + 2) 9 i0 _ 1 16 Tryz.underlying84 hi hz0 hz1 hz2 rfl (by omega) _ 1 _ (by rfl) (hown.alloc _) ⟨_, 0, none⟩ 1 1 [.string ⟨(j3 [115, 116, 97, 114, 116] (placeT rs a.r a.i) (pkT a.p)).toArray⟩] (by rfl) (by rfl) (World.news_of_block (heap_alloc_new _ _)) (by simp [Value.oneCell']) (by omega) (by unfold maxLen; omega) (by omega) (Inv.size (Hid.out (by assumption))) _ rfl ?_; intro gg capx w1 hown1 hgrow hat hlt)
                | (go_at_call 38; go_split_ands; refine (place_calls w.heap.size rs nv a.r a.i _ (Lib.hid (HA.out.args.net.below (Inv.below (Hid.out (by assumption))))) (Nat.le_of_add_right_le (Inv.size (Hid.out (by assumption)))) (Lib.hid HA.out.args.ok) HPh).mono ?_; rintro e w' ⟨rfl, hb⟩; have hown := own_call hb hown)
                | (go_at_call 39; go_split_ands; refine (packet_calls a.p (Lib.hid HA.out.args.pk) _ (Lib.hid (HA.out.args.tabs.below rfl (Inv.below (Hid.out (by assumption)))))).mono ?_; rintro e w' ⟨rfl, hb⟩; have hown := own_call hb hown)
                | (go_at_call 37; go_split_ands; refine (line3 _ _ _ _ 3 _ (by omega) (heap_alloc_new _ _) (by decide) (by have := LP.out; omega) (by have := LK.out; omega)).mono ?_; rintro e w' ⟨rfl, hb⟩; have hown := own_call hb (hown.alloc _)))
            go_wp2
            go_meet
            go_split_ands
            case rel => exact Lib.hid ⟨by rw [linesK_zero, ← j3_start]; exact hown1, Hid.out (by assumption)⟩
          case rest =>
            have HL := Lib.hid hcut.out
            clear hcut hown HI2
            have c9 := HL.out.2.c9
            go_wp2_with fail
            clear c9
            go_loopw [9, 69] (fun s9 i wr => ∃ kk : Nat, kk ≤ q ∧ i = .int .i64 kk ∧ MovesOk rs a kk ∧ Hid (Lines w nv (.slice ao k cap) (.slice po q pcap) a (linesK rs a k kk) s9 wr)) (fun _ i _ => q - (intOf i).toNat)
            case atStart => exact ⟨0, Nat.zero_le _, rfl, (fun j m h => absurd h (Nat.not_lt_zero _)), HL⟩
            case round =>
              clear HL
              obtain ⟨kk, hkk, rfl, HOK, HL⟩ := hrel
              by_cases hkn : kk < q
              · obtain ⟨m, hm⟩ : ∃ m, a.path[kk]? = some m := ⟨a.path[kk]'(by rw [HA.out.plen]; exact hkn), List.getElem?_eq_getElem _⟩
                obtain ⟨b, o, rfl, hb, hrng⟩ := HA.out.moves kk m hm
                have HR : Hid (wr.rangeAt b (o + kk * 8) [.int .i64 m.kind, .int .i64 m.r, .int .i64 m.i, .int .u32 m.p.src, .int .u32 m.p.dst, .int .i64 m.p.proto, .int .i64 m.p.sport, .int .i64 m.p.dport]) := Lib.hid (rangeAt_below hrng hb HL.out.2.below)
                have HJ : Hid (Inv2 w nv (.slice ao k cap) (.slice (some ⟨b, o, none⟩) q pcap) a wr.heap.size m (wr.alloc (.cells #[.int .i64 m.kind, .int .i64 m.r, .int .i64 m.i, .int .u32 m.p.src, .int .u32 m.p.dst, .int .i64 m.p.proto, .int .i64 m.p.sport, .int .i64 m.p.dport] 95))) := Lib.hid ⟨HL.out.2.alloc _, heap_alloc_new _ _⟩
                have hown := HL.out.1
                have HX := Lib.hid (fun g hg => hown.lt g hg)
                have cn := HL.out.2.n
                have hs := HL.out.2.size
                have hs0 : w.heap.size < wr.heap.size := by omega
                have HM := Lib.hid hm
                clear hrng hb hm
                by_cases hK : 1 ≤ m.kind ∧ m.kind ≤ 8
                · have HW := Lib.hid (word_ne hK)
                  have HK := Lib.hid hK
                  have hne : (wordT m.kind).isEmpty = false := by rw [List.isEmpty_eq_false_iff]; exact HW.out
                  clear hK
                  by_cases hp : placeOk rs m.r m.i = true
                  · have HP := Lib.hid hp
                    clear hp
                    go_upto_region 29 with (first
                    | (with_reducible refine wpList_load_mid rfl 95 (.tmp 71) rfl b (o + kk * 8) rfl _ _ HR.out Tryz.underlying95 rfl (by kernel_rfl) ?_)
                    | (refine wpList_store_new rfl 95 (.tmp 11) (.tmp 72) rfl _ _ _ rfl wr.heap.size (by simp) rfl rfl (by kernel_rfl) rfl rfl ?_)
                    | (go_at_call 40; refine (word_calls _ _).mono ?_; rintro e w' ⟨rfl, rfl⟩)
                    | (go_at_call 36; refine (exists_calls w.heap.size rs nv m.r m.i _ (Lib.hid (HA.out.args.net.below HJ.out.1.below)) (by simp; omega)).mono ?_; rw [HP.out]; rintro e w1 ⟨rfl, hb⟩))
                    have hown := own_call hb (hown.alloc _)
                    have HJ2 := Lib.hid (HJ.out.call hb)
                    clear hb cn hs hs0 HR HJ HL hne
                    have LP := Lib.hid (placeT_le HA.out.args.ok HP.out)
                    have LK := Lib.hid (pkT_le m.p (HA.out.args.moves m (List.mem_of_getElem? HM.out)))
                    have LW := Lib.hid (wordT_le m.kind)
                    have hlk : (linesK rs a k kk).length ≤ 22 := by rw [linesK_len _ _ _ _ (by rw [HA.out.plen]; omega)]; omega
                    go_region_held3 (fun w' => w'.cell? ⟨w.heap.size, 0, none⟩ = some nv ∧ w'.cell? ⟨wr.heap.size, 1, none⟩ = some (.int .i64 m.r) ∧ w'.cell? ⟨wr.heap.size, 2, none⟩ = some (.int .i64 m.i) ∧ w'.cell? ⟨wr.heap.size, 3, none⟩ = some (.int .u32 m.p.src) ∧ w'.cell? ⟨wr.heap.size, 4, none⟩ = some (.int .u32 m.p.dst) ∧ w'.cell? ⟨wr.heap.size, 5, none⟩ = some (.int .i64 m.p.proto) ∧ w'.cell? ⟨wr.heap.size, 6, none⟩ = some (.int .i64 m.p.sport) ∧ w'.cell? ⟨wr.heap.size, 7, none⟩ = some (.int .i64 m.p.dport) ∧ Hid (Inv2 w nv (.slice ao k cap) (.slice (some ⟨b, o, none⟩) q pcap) a wr.heap.size m w'))
                      (first
                        | (go_split_ands; exact moveS (Inv2.grown (Hid.out (by assumption)) hgrow HX.out))
                        | (go_split_ands; exact moveS (Inv2.call (Hid.out (by assumption)) hb))
                        | (go_split_ands; exact moveS (Inv2.alloc (Hid.out (by assumption)) _))
                        | exact moveS HJ2.out.drew
                        | go_keep)
                      (first
                        | (go_split_ands; refine step_append_lies _ (by rfl) _ _ _ (by rfl) (w.heap.size + 2) 9 i0 _ 1 16 Tryz.underlying84 hi hz0 hz1 hz2 rfl (by omega) _ (linesK rs a k kk).length _ (by rfl) (hown.alloc _) ⟨_, 0, none⟩ 1 1 [.string ⟨(j3 (wordT m.kind) (placeT rs m.r m.i) (pkT m.p)).toArray⟩] (by rfl) (by rfl) (World.news_of_block (heap_alloc_new _ _)) (by simp [Value.oneCell']) (by omega) (by unfold maxLen; omega) (by omega) (Inv.size (Hid.out (by assumption : Hid (Inv2 w nv (.slice ao k cap) (.slice (some ⟨b, o, none⟩) q pcap) a wr.heap.size m _))).1) _ rfl ?_; intro gg capx w1 hown1 hgrow hat hlt)
                        | (go_at_call 38; go_split_ands; refine (place_calls w.heap.size rs nv m.r m.i _ (Lib.hid (HA.out.args.net.below (Inv.below (Hid.out (by assumption : Hid (Inv2 w nv (.slice ao k cap) (.slice (some ⟨b, o, none⟩) q pcap) a wr.heap.size m _))).1))) (Nat.le_of_add_right_le (Inv.size (Hid.out (by assumption : Hid (Inv2 w nv (.slice ao k cap) (.slice (some ⟨b, o, none⟩) q pcap) a wr.heap.size m _))).1)) (Lib.hid HA.out.args.ok) HP).mono ?_; rintro e w' ⟨rfl, hb⟩; have hown := own_call hb hown)
                        | (go_at_call 39; go_split_ands; refine (packet_calls m.p (Lib.hid (HA.out.args.moves m (List.mem_of_getElem? HM.out))) _ (Lib.hid (HA.out.args.tabs.below rfl (Inv.below (Hid.out (by assumption : Hid (Inv2 w nv (.slice ao k cap) (.slice (some ⟨b, o, none⟩) q pcap) a wr.heap.size m _))).1)))).mono ?_; rintro e w' ⟨rfl, hb⟩; have hown := own_call hb hown)
                        | (go_at_call 37; go_split_ands; refine (line3 _ _ _ _ 3 _ (by omega) (heap_alloc_new _ _) (by have := LW.out; omega) (by have := LP.out; omega) (by have := LK.out; omega)).mono ?_; rintro e w' ⟨rfl, hb⟩; have hown := own_call hb (hown.alloc _)))
                    go_wp2
                    go_split_ands
                    go_roundw
                    case rel => exact ⟨kk + 1, by omega, by go_num, HOK.step HM HK HP, Lib.hid ⟨own_next HM.out hown1, (Hid.out (by assumption : Hid (Inv2 w nv (.slice ao k cap) (.slice (some ⟨b, o, none⟩) q pcap) a wr.heap.size m _))).1⟩⟩
                    case measure => simp [intOf]; omega
                  · have HP := Lib.hid (show placeOk rs m.r m.i = false by simpa using hp)
                    clear hp
                    go_wp2_with (first
                    | (with_reducible refine wpList_load_mid rfl 95 (.tmp 71) rfl b (o + kk * 8) rfl _ _ HR.out Tryz.underlying95 rfl (by kernel_rfl) ?_)
                    | (refine wpList_store_new rfl 95 (.tmp 11) (.tmp 72) rfl _ _ _ rfl wr.heap.size (by simp) rfl rfl (by kernel_rfl) rfl rfl ?_)
                    | (go_at_call 40; refine (word_calls _ _).mono ?_; rintro e w' ⟨rfl, rfl⟩)
                    | (go_at_call 36; refine (exists_calls w.heap.size rs nv m.r m.i _ (Lib.hid (HA.out.args.net.below HJ.out.1.below)) (by simp; omega)).mono ?_; rw [HP.out]; rintro e w1 ⟨rfl, hb⟩))
                    go_ret2
                    exact ⟨(HJ.out.1.call hb).below, .inr ⟨ansOk_bad HV.out HM.out (by unfold movOk; rw [HP.out, Bool.and_false]), rfl⟩⟩
                · have HW : Hid (wordT m.kind = []) := by
                    refine Lib.hid ?_
                    unfold wordT
                    repeat (rw [if_neg (by omega)])
                  go_wp2_with (first
                    | (with_reducible refine wpList_load_mid rfl 95 (.tmp 71) rfl b (o + kk * 8) rfl _ _ HR.out Tryz.underlying95 rfl (by kernel_rfl) ?_)
                    | (refine wpList_store_new rfl 95 (.tmp 11) (.tmp 72) rfl _ _ _ rfl wr.heap.size (by simp) rfl rfl (by kernel_rfl) rfl rfl ?_)
                    | (go_at_call 40; refine (word_calls _ _).mono ?_; rw [HW.out]; rintro e w' ⟨rfl, rfl⟩)
                    | (go_at_call 36; refine (exists_calls w.heap.size rs nv m.r m.i _ (Lib.hid (HA.out.args.net.below HJ.out.1.below)) (by simp; omega)).mono ?_; skip; rintro e w1 ⟨rfl, hb⟩))
                  go_ret2
                  exact ⟨HJ.out.1.below, .inr ⟨ansOk_bad HV.out HM.out (by unfold movOk; simp; omega), rfl⟩⟩
              · have hkq : kk = q := by omega
                subst hkq
                have c10 := HL.out.2.c10
                have HN := Lib.hid (linesK_len rs a k kk (by rw [HA.out.plen]; exact Nat.le_refl _))
                have hs := HL.out.2.size
                have hs0 : w.heap.size < wr.heap.size := by omega
                have hs1 : w.heap.size + 1 < wr.heap.size := by omega
                go_upto_if 101 with fail
                go_cut [9] (fun s9 wx => Hid (Lines w nv (.slice ao k cap) (.slice po kk pcap) a (lines2 rs a k kk) s9 wx))
                case first =>
                  by_cases hl : a.loop = -1
                  · have HLL := Lib.hid (show loopT a.loop = [] by unfold loopT; rw [if_pos hl])
                    go_wp2
                    go_meet
                    case rel => unfold lines2; rw [HLL.out, List.append_nil]; exact HL
                  · have HLL := Lib.hid (loopT_some hl)
                    have hown := HL.out.1
                    have L2 := Lib.hid (Lib.itoa_length_le a.loop HA.out.args.loop.1 HA.out.args.loop.2)
                    go_wp2_with (first
                      | (at_builtin; refine wpList_append_lies _ (by rfl) _ _ _ (by rfl) (w.heap.size + 2) 9 i0 _ 1 16 Tryz.underlying84 hi hz0 hz1 hz2 rfl (by omega) _ (linesK rs a k kk).length _ (by rfl) (hown.alloc _) ⟨_, 0, none⟩ 1 1 [.string ⟨(j2 [108, 111, 111, 112] (Lib.itoa a.loop)).toArray⟩] (by rfl) (by rfl) (World.news_of_block (heap_alloc_new _ _)) (by simp [Value.oneCell']) (by omega) (by have := HN.out; unfold maxLen; omega) (by have := HN.out; omega) (by have := hsz; simp; omega) _ rfl ?_; intro gg capx w1 hown1 hgrow hat hlt)
                      | (go_at_call 35; refine (itoa_calls _ HA.out.args.loop _ (Lib.hid (HA.out.args.tabs.below rfl HL.out.2.below))).mono ?_; rintro e w' ⟨rfl, hb⟩; have hown := own_call hb hown; have HI7 := Lib.hid (HL.out.2.call hb))
                      | (go_at_call 37; refine (line2 _ _ _ 2 _ (by omega) (heap_alloc_new _ _) (by decide) (by have := L2.out; omega)).mono ?_; rintro e w' ⟨rfl, hb⟩; have hown := own_call hb (hown.alloc _); have HI8 := Lib.hid ((HI7.out.alloc _).call hb); have hsz := HI8.out.size))
                    go_meet
                    case rel => unfold lines2; rw [HLL.out]; exact Lib.hid ⟨own_app hown1, (HI8.out.alloc _).grown hgrow (fun g hg => (hown.lt g hg).1)⟩
                case rest =>
                  have HM := Lib.hid hcut.out
                  clear hcut HL c10
                  have c11 := HM.out.2.c11
                  have c12 := HM.out.2.c12
                  have c13 := HM.out.2.c13
                  have c14 := HM.out.2.c14
                  have c15 := HM.out.2.c15
                  have hneq := neq_other a.other
                  have hs := HM.out.2.size
                  have hs0 : w.heap.size < wc.heap.size := by omega
                  have hs1 : w.heap.size + 1 < wc.heap.size := by omega
                  have HLen : Hid ((lines2 rs a k kk).length ≤ 23) := Lib.hid (by unfold lines2; rw [List.length_append, HN.out]; have h := HA.out.plen; have h1 := loopT_le a.loop; omega)
                  have hfin := Lib.hid (ansOk_good HV.out HPh.out HOK HA.out.plen)
                  by_cases hz : otherZero a.other = true
                  · have HO := Lib.hid (show otherT a.other = [] by unfold otherT; rw [if_pos hz])
                    have HT := Lib.hid (ansT_two (rs := rs) HV.out HA.out.len HA.out.plen)
                    rw [hz] at hneq
                    clear hz
                    go_wp2
                    go_ret2
                    exact DPost_of HM.out.1 HM.out.2 hfin.out (by rw [HT.out, HO.out, List.append_nil])
                  · have HO := Lib.hid (otherT_some (show otherZero a.other = false by simpa using hz))
                    have HT := Lib.hid (ansT_two (rs := rs) HV.out HA.out.len HA.out.plen)
                    rw [show otherZero a.other = false by simpa using hz] at hneq
                    clear hz
                    have hown := HM.out.1
                    have LK := Lib.hid (pkT_le a.other HA.out.args.opk)
                    go_wp2_with (first
                      | (at_builtin; refine wpList_append_lies _ (by rfl) _ _ _ (by rfl) (w.heap.size + 2) 9 i0 _ 1 16 Tryz.underlying84 hi hz0 hz1 hz2 rfl (by omega) _ (lines2 rs a k kk).length _ (by rfl) (hown.alloc _) ⟨_, 0, none⟩ 1 1 [.string ⟨(j2 [111, 116, 104, 101, 114] (pkT a.other)).toArray⟩] (by rfl) (by rfl) (World.news_of_block (heap_alloc_new _ _)) (by simp [Value.oneCell']) (by omega) (by have := HLen.out; unfold maxLen; omega) (by have := HLen.out; omega) (by have := hsz; simp; omega) _ rfl ?_; intro gg capx w1 hown1 hgrow hat hlt)
                      | (go_at_call 39; refine (packet_calls a.other (Lib.hid HA.out.args.opk) _ (Lib.hid (HA.out.args.tabs.below rfl HM.out.2.below))).mono ?_; rintro e w' ⟨rfl, hb⟩; have hown := own_call hb hown; have HI7 := Lib.hid (HM.out.2.call hb))
                      | (go_at_call 37; refine (line2 _ _ _ 2 _ (by omega) (heap_alloc_new _ _) (by decide) (by have := LK.out; omega)).mono ?_; rintro e w' ⟨rfl, hb⟩; have hown := own_call hb (hown.alloc _); have HI8 := Lib.hid ((HI7.out.alloc _).call hb); have hsz := HI8.out.size))
                    go_ret2
                    exact DPost_of (own_app hown1) ((HI8.out.alloc _).grown hgrow (fun g hg => (hown.lt g hg).1)) hfin.out (by rw [HT.out, HO.out])
        · have HPh := Lib.hid (show placeOk rs a.r a.i = false by simpa using HP)
          clear HP
          go_wp2_with (go_at_call 36; refine (exists_calls w.heap.size rs nv a.r a.i _ (Lib.hid (HA.out.args.net.below HI1.out.below)) (by simp; omega)).mono ?_; rw [HPh.out]; rintro e w1 ⟨rfl, hb⟩)
          go_ret2
          exact ⟨(HI1.out.call hb).below, .inr ⟨by unfold ansOk; rw [if_pos HV.out, HPh.out]; rfl, rfl⟩⟩

end Go.Proofs.YtdmfdclkpdliaaaGreatDoor
