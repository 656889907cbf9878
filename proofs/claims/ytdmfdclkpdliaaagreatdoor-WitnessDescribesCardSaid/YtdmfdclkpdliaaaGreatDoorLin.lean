/- netverifylaw38.lines: the walk. -/
import Derived.Test.YtdmfdclkpdliaaaGreatDoorDes
import Derived.Deep.RegionLaw
import Derived.BigRegion
namespace Go.Proofs.YtdmfdclkpdliaaaGreatDoor
open Go Go.RowKit Go.Shelf

/- what lines leaves -/
def LPost (w : World) (rs : List Rt) (a : An) (e : Ending) (w' : World) : Prop :=
  Below w.heap.size w w' ∧ ((ansOk rs a = true ∧ ∃ g cap, e = .returned (.tuple #[.slice (some ⟨g, 0, none⟩) (ansT rs a).length cap, .bool true]) ∧ w'.ownsRow w.heap.size 9 1 (.slice (some ⟨g, 0, none⟩) (ansT rs a).length cap) (ansT rs a).length (strs (ansT rs a))) ∨
    (ansOk rs a = false ∧ e = .returned (.tuple #[.slice none 0 0, .bool false])))
theorem LPost_of {w wr : World} {nv dv pv : Value} {rs : List Rt} {a : An} {v : Value} {l : List (List UInt8)} (h : wr.ownsRow (w.heap.size + 2) 9 1 v l.length (strs l)) (hi : Inv w nv dv pv a wr) (ho : ansOk rs a = true) (hl : ansT rs a = l) : LPost w rs a (.returned (.tuple #[v, .bool true])) wr := by
  subst hl
  refine ⟨hi.below, .inl ⟨ho, ?_⟩⟩
  rcases h.2 with ⟨_, h0⟩ | ⟨g, cap, cur, rfl, hg, r⟩
  · unfold ansT at h0
    simp at h0
  · exact ⟨g, cap, rfl, h.1, .inr ⟨g, cap, cur, rfl, by omega, r⟩⟩
theorem lplace_yes (B : Nat) (rs : List Rt) (nv : Value) (r i : Int) (w : World) (HN : Hid (NetAt B w nv rs)) (hB : B ≤ w.heap.size) (HO : Hid (NetOk rs)) (HP : Hid (placeOk rs r i = true)) :
    Calls Tryz.prog 42 #[.agg #[nv], .agg #[.int .i64 r, .int .i64 i]] w fun e w' => e = .returned (.tuple #[.string ⟨(placeT rs r i).toArray⟩, .bool true]) ∧ Below w.heap.size w w' := by
  have h := lplace_calls B rs nv r i w HN hB HO
  rw [if_pos HP.out, HP.out] at h
  exact h
theorem lplace_no (B : Nat) (rs : List Rt) (nv : Value) (r i : Int) (w : World) (HN : Hid (NetAt B w nv rs)) (hB : B ≤ w.heap.size) (HO : Hid (NetOk rs)) (HP : Hid (placeOk rs r i = false)) :
    Calls Tryz.prog 42 #[.agg #[nv], .agg #[.int .i64 r, .int .i64 i]] w fun e w' => e = .returned (.tuple #[.string ⟨#[]⟩, .bool false]) ∧ Below w.heap.size w w' := by
  have h := lplace_calls B rs nv r i w HN hB HO
  rw [HP.out] at h
  exact h
theorem firstT_succ' {v d : Int} {ds : List Int} {k : Nat} (h : ds[k]? = some d) : cat (cat (firstT v ds k) [32]) (Lib.itoa d) = firstT v ds (k + 1) := by
  rw [← firstT_succ h]
  simp [cat]
theorem words_at {k : Nat} (h1 : 1 ≤ k) (h2 : k ≤ 8) : (#[.string ⟨#[]⟩, .string ⟨#[115, 101, 110, 116]⟩, .string ⟨#[97, 99, 99, 101, 112, 116, 101, 100]⟩, .string ⟨#[101, 120, 105, 116, 101, 100]⟩, .string ⟨#[100, 101, 110, 105, 101, 100, 45, 105, 110]⟩, .string ⟨#[100, 101, 110, 105, 101, 100, 45, 111, 117, 116]⟩, .string ⟨#[110, 111, 45, 114, 111, 117, 116, 101]⟩, .string ⟨#[100, 105, 115, 99, 97, 114, 100, 101, 100]⟩, .string ⟨#[110, 111, 45, 110, 101, 105, 103, 104, 98, 111, 114]⟩] : Array Value)[k]? = some (.string ⟨(wordT (k : Int)).toArray⟩) := by
  obtain rfl | rfl | rfl | rfl | rfl | rfl | rfl | rfl : k = 1 ∨ k = 2 ∨ k = 3 ∨ k = 4 ∨ k = 5 ∨ k = 6 ∨ k = 7 ∨ k = 8 := by omega
  all_goals rfl
/- behind a call that turns nothing old, every old cell reads as before it -/
theorem olds {W Z : World} (h : Below W.heap.size W Z) (g i : Nat) (hg : g < W.heap.size) : Z.cell? ⟨g, i, none⟩ = W.cell? ⟨g, i, none⟩ := Below.cell h (p := ⟨g, i, none⟩) hg
theorem heap_alloc_at (W : World) (o : Obj) (n : Nat) (h : n = W.heap.size) : (W.alloc o).heap[n]? = some o := by
  subst h
  exact heap_alloc_new W o
theorem own_nextC {rs : List Rt} {a : An} {nd k B kn : Nat} {m : Mov} {v : Value} {W : World} (hm : a.path[k]? = some m) (hk : m.kind = kn) (h : W.ownsRow B 9 1 v ((linesK rs a nd k).length + 1) (strs (linesK rs a nd k) ++ [.string ⟨(cat (cat (cat (cat (wordT (kn : Int)) [32]) (placeT rs m.r m.i)) [32]) (pkT m.p)).toArray⟩])) :
    W.ownsRow B 9 1 v (linesK rs a nd (k + 1)).length (strs (linesK rs a nd (k + 1))) := by
  rw [← hk] at h
  exact own_next hm h
theorem loopT_cat {n : Int} (h : n ≠ -1) : loopT n = [cat [108, 111, 111, 112, 32] (Lib.itoa n)] := by
  unfold loopT
  rw [if_neg h]
  rfl
theorem otherT_cat {p : Pk} (h : otherZero p = false) : otherT p = [cat [111, 116, 104, 101, 114, 32] (pkT p)] := by
  unfold otherT
  rw [if_neg (by rw [h]; exact Bool.false_ne_true)]
  rfl
theorem cat_start (rs : List Rt) (a : An) : cat (cat (cat [115, 116, 97, 114, 116, 32] (placeT rs a.r a.i)) [32]) (pkT a.p) = startT rs a := rfl

set_option maxRecDepth 100000 in
set_option maxHeartbeats 8000000 in
theorem lines_no (w : World) (nv : Value) (ao : Option Addr) (n cap : Nat) (po : Option Addr) (q pcap : Nat) (rs : List Rt) (a : An) (HA : Hid (Args' w nv ao n cap po q pcap rs a)) (hn : n ≤ 20) (hq : q ≤ 20) (HV : Hid (a.verdict = 2)) :
    Calls Tryz.prog 11 #[.agg #[nv], .agg #[.int .i64 2, .slice ao n cap, .int .i64 a.r, .int .i64 a.i, .int .u32 a.p.src, .int .u32 a.p.dst, .int .i64 a.p.proto, .int .i64 a.p.sport, .int .i64 a.p.dport, .slice po q pcap, .int .i64 a.loop, .int .u32 a.other.src, .int .u32 a.other.dst, .int .i64 a.other.proto, .int .i64 a.other.sport, .int .i64 a.other.dport]] w (LPost w rs a) := by
  have H0 := Lib.hid (first_zero 2 a.down n HA.out.len)
  have HF := Lib.hid (fun k => firstT_le 2 a.down k HA.out.args.downs HA.out.args.nd)
  have HI0 := Lib.hid (Inv.start w nv (.slice ao n cap) (.slice po q pcap) a)
  have HI0 : Hid (Inv w nv (.slice ao n cap) (.slice po q pcap) a (((w.alloc (.cells #[nv] 24)).alloc (.cells #[.int .i64 2, .slice ao n cap, .int .i64 a.r, .int .i64 a.i, .int .u32 a.p.src, .int .u32 a.p.dst, .int .i64 a.p.proto, .int .i64 a.p.sport, .int .i64 a.p.dport, .slice po q pcap, .int .i64 a.loop, .int .u32 a.other.src, .int .u32 a.other.dst, .int .i64 a.other.proto, .int .i64 a.other.sport, .int .i64 a.other.dport] 61)).alloc (.cells #[.string ⟨#[]⟩, .string ⟨#[121, 101, 115]⟩, .string ⟨#[110, 111]⟩, .string ⟨#[117, 110, 115, 116, 97, 98, 108, 101]⟩] 9))) := by
    have h := HI0.out
    rw [HV.out] at h
    exact Lib.hid (h.alloc _)
  go_enter Tryz.func11, Tryz.ntmps11
  go_upto_if 31 with fail
  go_cut [6] (fun s6 wx => s6 = .string ⟨(firstT 2 a.down 0).toArray⟩ ∧ Hid (Inv w nv (.slice ao n cap) (.slice po q pcap) a wx))
  case first =>
    by_cases h : 0 < n
    · have a1 := add_str (a := headT 2) (b := [32, 100, 111, 119, 110]) (m := 8) (n := 5) (by decide) (by decide) (by omega)
      go_wp2
      go_meet
      case rel => exact ⟨by rw [H0.out, if_pos h]; rfl, HI0⟩
    · go_wp2
      go_meet
      case rel => exact ⟨by rw [H0.out, if_neg h]; rfl, HI0⟩
  case rest =>
    obtain ⟨rfl, HI⟩ := hcut
    go_wp2_with fail
    go_loopw [6, 7] (fun s6 i wr => ∃ k : Nat, k ≤ n ∧ i = .int .i64 k ∧ s6 = .string ⟨(firstT 2 a.down k).toArray⟩ ∧ Hid (Inv w nv (.slice ao n cap) (.slice po q pcap) a wr)) (fun _ i _ => n - (intOf i).toNat)
    case atStart => exact ⟨0, Nat.zero_le _, rfl, rfl, HI⟩
    case round =>
      clear HI HI0
      obtain ⟨k, hk, rfl, rfl, HI⟩ := hrel
      have c1 := HI.out.c1
      by_cases hkn : k < n
      · obtain ⟨d, hd⟩ : ∃ d, a.down[k]? = some d := ⟨a.down[k]'(by rw [HA.out.len]; exact hkn), List.getElem?_eq_getElem _⟩
        have HI5 := Lib.hid (HA.out.args.downs d (List.mem_of_getElem? hd))
        have HS := Lib.hid (firstT_succ' (v := 2) hd)
        obtain ⟨b, o, rfl, hb, hc⟩ := HA.out.cells k d hd
        have hc' := (HI.out.below.cell (p := ⟨b, o + k, none⟩) hb).trans hc
        have L2 := Lib.hid (Lib.itoa_length_le d HI5.out.1 HI5.out.2)
        have l0 := Lib.hid (show ([32] : List UInt8).length ≤ 1 from Nat.le_refl _)
        have a1 := add_str (HF.out k) l0.out (by omega)
        have a2 := add_str (cat_le (HF.out k) l0.out) L2.out (by omega)
        rw [HS.out] at a2
        clear hd hc hb
        go_wp2_with (go_at_call 41; refine (decimal_i64 _ HI5.out _).mono ?_; rintro e w' ⟨rfl, hb⟩)
        have HI6 := Lib.hid (HI.out.call hb)
        clear hb
        go_wp2
        go_roundw
        case rel => exact ⟨k + 1, by omega, by go_num, rfl, HI6⟩
        case measure => simp [intOf]; omega
      · have hke : k = n := by omega
        subst hke
        have c0 : wr.cell? ⟨w.heap.size + 1, 0, none⟩ = some (.int .i64 2) := by have h := HI.out.c0; rw [HV.out] at h; exact h
        have cn := HI.out.n
        have c2 := HI.out.c2
        have c3 := HI.out.c3
        have hs := HI.out.size
        have hs0 : w.heap.size < wr.heap.size := by omega
        have hs1 : w.heap.size + 1 < wr.heap.size := by omega
        have HI1 := Lib.hid (HI.out.alloc (.cells #[.string ⟨(firstT 2 a.down k).toArray⟩] 9))
        have hown0 := Lib.hid (own_first (B := w.heap.size + 2) wr ⟨(firstT 2 a.down k).toArray⟩ hs)
        clear HF
        by_cases HP : placeOk rs a.r a.i = true
        · have HPh := Lib.hid HP
          clear HP
          go_upto_region 15 with (go_at_call 42; refine (lplace_yes w.heap.size rs nv a.r a.i _ (Lib.hid (HA.out.args.net.below HI1.out.below)) (by simp; omega) (Lib.hid HA.out.args.ok) HPh).mono ?_; rintro e w1 ⟨rfl, hb⟩)
          have hown := own_call hb hown0.out
          have HI2 := Lib.hid (HI1.out.call hb)
          clear hb hown0 HI1 c0 c1 c2 c3 cn hs hs0 hs1 HI
          have d4 := HI2.out.c4
          have d5 := HI2.out.c5
          have d6 := HI2.out.c6
          have d7 := HI2.out.c7
          have d8 := HI2.out.c8
          have LP := Lib.hid (placeT_le HA.out.args.ok HPh.out)
          have LK := Lib.hid (pkT_le a.p HA.out.args.pk)
          have ls := Lib.hid (show ([115, 116, 97, 114, 116, 32] : List UInt8).length ≤ 6 from Nat.le_refl _)
          have l0 := Lib.hid (show ([32] : List UInt8).length ≤ 1 from Nat.le_refl _)
          have a1 := add_str ls.out LP.out (by omega)
          have a2 := add_str (cat_le ls.out LP.out) l0.out (by omega)
          have a3 := add_str (cat_le (cat_le ls.out LP.out) l0.out) LK.out (by omega)
          rw [cat_start] at a3
          obtain ⟨i0, hi, hz0, hz1, hz2⟩ := info_parts Tryz.info9
          go_wp2_with (first
            | (at_builtin; refine wpList_append_lies _ (by rfl) _ _ _ (by rfl) (w.heap.size + 2) 9 i0 _ 1 16 Tryz.underlying84 hi hz0 hz1 hz2 rfl (by omega) _ 1 _ (by rfl) (hown.alloc _) ⟨_, 0, none⟩ 1 1 [.string ⟨(startT rs a).toArray⟩] (by rfl) (by rfl) (World.news_of_block (heap_alloc_new _ _)) (by simp [Value.oneCell']) (by omega) (by unfold maxLen; omega) (by omega) (by have := HI3.out.size; simp; omega) _ rfl ?_; intro gg capx w1 hown1 hgrow hat hlt)
            | (go_at_call 43; refine (lpacket_calls a.p (Lib.hid HA.out.args.pk) _ (Lib.hid (HA.out.args.tabs.below rfl HI2.out.below))).mono ?_; rintro e w' ⟨rfl, hb⟩; have hown := own_call hb hown; have HI3 := Lib.hid (HI2.out.call hb)))
          have HL : Hid (Lines w nv (.slice ao k cap) (.slice po q pcap) a (linesK rs a k 0) (.slice (some ⟨gg, 0, none⟩) 2 capx) w1) := Lib.hid ⟨hown1, (HI3.out.alloc _).grown hgrow (fun g hg => (hown.lt g hg).1)⟩
          clear hown1 hown hgrow HI3 HI2 d4 d5 d6 d7 d8 a1 a2 a3
          have c9 := HL.out.2.c9
          go_loopw [8, 11] (fun s8 i wr => ∃ kk : Nat, kk ≤ q ∧ i = .int .i64 kk ∧ MovesOk rs a kk ∧ Hid (Lines w nv (.slice ao k cap) (.slice po q pcap) a (linesK rs a k kk) s8 wr)) (fun _ i _ => q - (intOf i).toNat)
          case atStart => exact ⟨0, Nat.zero_le _, rfl, (fun j m h => absurd h (Nat.not_lt_zero _)), HL⟩
          case round =>
            clear HL c9
            obtain ⟨kk, hkk, rfl, HOK, HL⟩ := hrel
            have c9 := HL.out.2.c9
            by_cases hkn : kk < q
            · obtain ⟨m, hm⟩ : ∃ m, a.path[kk]? = some m := ⟨a.path[kk]'(by rw [HA.out.plen]; exact hkn), List.getElem?_eq_getElem _⟩
              obtain ⟨b, o, rfl, hb, hrng⟩ := HA.out.moves kk m hm
              have HR : Hid (wr.rangeAt b (o + kk * 8) [.int .i64 m.kind, .int .i64 m.r, .int .i64 m.i, .int .u32 m.p.src, .int .u32 m.p.dst, .int .i64 m.p.proto, .int .i64 m.p.sport, .int .i64 m.p.dport]) := Lib.hid (rangeAt_below hrng hb HL.out.2.below)
              have HJ : Hid (Inv2 w nv (.slice ao k cap) (.slice (some ⟨b, o, none⟩) q pcap) a wr.heap.size m (wr.alloc (.cells #[.int .i64 m.kind, .int .i64 m.r, .int .i64 m.i, .int .u32 m.p.src, .int .u32 m.p.dst, .int .i64 m.p.proto, .int .i64 m.p.sport, .int .i64 m.p.dport] 95))) := Lib.hid ⟨HL.out.2.alloc _, heap_alloc_new _ _⟩
              have hown := HL.out.1
              have HX := Lib.hid (fun g hg => hown.lt g hg)
              have cn := HL.out.2.n
              have hs := HL.out.2.size
              have hs0 : w.heap.size < wr.heap.size := by omega
              have HM := Lib.hid hm
              clear hrng hb hm
              by_cases hp : placeOk rs m.r m.i = true
              · have HP := Lib.hid hp
                clear hp
                by_cases hK : 1 ≤ m.kind ∧ m.kind ≤ 8
                · have HK := Lib.hid hK
                  obtain ⟨hK1, hK2⟩ := hK
                  go_upto_region 23 with (first
                    | (with_reducible refine wpList_load_mid rfl 95 (.tmp 86) rfl b (o + kk * 8) rfl _ _ HR.out Tryz.underlying95 rfl (by kernel_rfl) ?_)
                    | (refine wpList_store_new rfl 95 (.tmp 12) (.tmp 87) rfl _ _ _ rfl wr.heap.size (by simp) rfl rfl (by kernel_rfl) rfl rfl ?_)
                    | (go_at_call 42; refine (lplace_yes w.heap.size rs nv m.r m.i _ (Lib.hid (HA.out.args.net.below HJ.out.1.below)) (by simp; omega) (Lib.hid HA.out.args.ok) HP).mono ?_; rintro e w1 ⟨rfl, hb⟩; have HJ2 := Lib.hid (HJ.out.call hb); have y0 := HJ2.out.x0; have hown := own_call hb (hown.alloc _); clear hb))
                  obtain ⟨kn, hkn⟩ : ∃ kn : Nat, m.kind = kn := ⟨m.kind.toNat, by omega⟩
                  have hkn1 : 1 ≤ kn := by omega
                  have hkn2 : kn ≤ 8 := by omega
                  have hki : (kn : Int) < 9 := by omega
                  have HKN := Lib.hid hkn
                  rw [hkn] at y0
                  clear hkn hK1 hK2
                  have hw := words_at hkn1 hkn2
                  have y3 := HJ2.out.x3
                  have y4 := HJ2.out.x4
                  have y5 := HJ2.out.x5
                  have y6 := HJ2.out.x6
                  have y7 := HJ2.out.x7
                  have hsX : wr.heap.size < w1.heap.size := (Array.getElem?_eq_some_iff.1 HJ2.out.2).1
                  have hsX1 : wr.heap.size < w1.heap.size + 1 := by omega
                  have hsz := HJ2.out.1.size
                  have LP := Lib.hid (placeT_le HA.out.args.ok HP.out)
                  have LK := Lib.hid (pkT_le m.p (HA.out.args.moves m (List.mem_of_getElem? HM.out)))
                  have LW := Lib.hid (wordT_le (kn : Int))
                  have l0 := Lib.hid (show ([32] : List UInt8).length ≤ 1 from Nat.le_refl _)
                  have b1 := add_str LW.out l0.out (by omega)
                  have b2 := add_str (cat_le LW.out l0.out) LP.out (by omega)
                  have b3 := add_str (cat_le (cat_le LW.out l0.out) LP.out) l0.out (by omega)
                  have b4 := add_str (cat_le (cat_le (cat_le LW.out l0.out) LP.out) l0.out) LK.out (by omega)
                  have hlk : (linesK rs a k kk).length ≤ 22 := by rw [linesK_len _ _ _ _ (by rw [HA.out.plen]; omega)]; omega
                  clear cn hs hs0 HR HJ HL c9
                  go_region_law (first
                    | (go_simp; go_at_call 43; refine (lpacket_calls m.p (Lib.hid (HA.out.args.moves m (List.mem_of_getElem? HM.out))) _ (Lib.hid (HA.out.args.tabs.below rfl (by first | exact HJ2.out.drew.1.below | exact (HJ2.out.drew.alloc _).1.below)))).mono ?_; rintro e w' ⟨rfl, hb⟩; have hown := own_call hb (by first | exact hown | exact hown.alloc _); have HJ2 := Lib.hid (Inv2.call (by first | exact HJ2.out.drew | exact HJ2.out.drew.alloc _) hb); have hsz := HJ2.out.1.size; have hsX := (Array.getElem?_eq_some_iff.1 HJ2.out.2).1; have hcc := olds hb; have y0 := HJ2.out.x0; rw [HKN.out] at y0)
                    | (refine step_append_lies _ (by rfl) _ _ _ (by rfl) (w.heap.size + 2) 9 i0 _ 1 16 Tryz.underlying84 hi hz0 hz1 hz2 rfl (by omega) _ (linesK rs a k kk).length _ (by rfl) (by first | exact hown.alloc _ | exact (hown.alloc _).alloc _) ⟨_, 0, none⟩ 1 1 [.string ⟨(cat (cat (cat (cat (wordT (kn : Int)) [32]) (placeT rs m.r m.i)) [32]) (pkT m.p)).toArray⟩] (by rfl) (by rfl) (World.news_of_block (heap_alloc_at _ _ _ (by simp))) (by simp [Value.oneCell']) (by omega) (by unfold maxLen; omega) (by omega) (by simp; omega) _ rfl ?_; intro gg capx w1 hown1 hgrow hat hlt))
                  all_goals
                    go_wp2
                    go_roundw
                    case rel => exact ⟨kk + 1, by omega, by go_num, HOK.step HM HK HP, Lib.hid ⟨own_nextC HM.out HKN.out hown1, by first | exact (HJ2.out.1.alloc _).grown hgrow (fun g hg => (HX.out g hg).1) | exact ((HJ2.out.1.alloc _).alloc _).grown hgrow (fun g hg => (HX.out g hg).1)⟩⟩
                    case measure => simp [intOf]; omega
                · by_cases hK1 : m.kind < 1
                  · have hK3 := Lib.hid hK
                    clear hK
                    go_wp2_with (first
                    | (with_reducible refine wpList_load_mid rfl 95 (.tmp 86) rfl b (o + kk * 8) rfl _ _ HR.out Tryz.underlying95 rfl (by kernel_rfl) ?_)
                    | (refine wpList_store_new rfl 95 (.tmp 12) (.tmp 87) rfl _ _ _ rfl wr.heap.size (by simp) rfl rfl (by kernel_rfl) rfl rfl ?_)
                    | (go_at_call 42; refine (lplace_yes w.heap.size rs nv m.r m.i _ (Lib.hid (HA.out.args.net.below HJ.out.1.below)) (by simp; omega) (Lib.hid HA.out.args.ok) HP).mono ?_; rintro e w1 ⟨rfl, hb⟩; have HJ2 := Lib.hid (HJ.out.call hb); have y0 := HJ2.out.x0; have hown := own_call hb (hown.alloc _); clear hb))
                    go_ret2
                    exact ⟨HJ2.out.1.below, .inr ⟨ansOk_bad HV.out HM.out (by have := hK3.out; unfold movOk; simp; omega), rfl⟩⟩
                  · have hK2 : 8 < m.kind := by omega
                    have hK3 := Lib.hid hK
                    clear hK
                    go_wp2_with (first
                    | (with_reducible refine wpList_load_mid rfl 95 (.tmp 86) rfl b (o + kk * 8) rfl _ _ HR.out Tryz.underlying95 rfl (by kernel_rfl) ?_)
                    | (refine wpList_store_new rfl 95 (.tmp 12) (.tmp 87) rfl _ _ _ rfl wr.heap.size (by simp) rfl rfl (by kernel_rfl) rfl rfl ?_)
                    | (go_at_call 42; refine (lplace_yes w.heap.size rs nv m.r m.i _ (Lib.hid (HA.out.args.net.below HJ.out.1.below)) (by simp; omega) (Lib.hid HA.out.args.ok) HP).mono ?_; rintro e w1 ⟨rfl, hb⟩; have HJ2 := Lib.hid (HJ.out.call hb); have y0 := HJ2.out.x0; have hown := own_call hb (hown.alloc _); clear hb))
                    go_ret2
                    exact ⟨HJ2.out.1.below, .inr ⟨ansOk_bad HV.out HM.out (by have := hK3.out; unfold movOk; simp; omega), rfl⟩⟩
              · have HP := Lib.hid (show placeOk rs m.r m.i = false by simpa using hp)
                clear hp
                have HB := Lib.hid (ansOk_bad (rs := rs) HV.out HM.out (by unfold movOk; rw [HP.out, Bool.and_false]))
                by_cases hK1 : m.kind < 1
                · go_wp2_with (first
                    | (with_reducible refine wpList_load_mid rfl 95 (.tmp 86) rfl b (o + kk * 8) rfl _ _ HR.out Tryz.underlying95 rfl (by kernel_rfl) ?_)
                    | (refine wpList_store_new rfl 95 (.tmp 12) (.tmp 87) rfl _ _ _ rfl wr.heap.size (by simp) rfl rfl (by kernel_rfl) rfl rfl ?_)
                    | (go_at_call 42; refine (lplace_no w.heap.size rs nv m.r m.i _ (Lib.hid (HA.out.args.net.below HJ.out.1.below)) (by simp; omega) (Lib.hid HA.out.args.ok) HP).mono ?_; rintro e w1 ⟨rfl, hb⟩; have HJ2 := Lib.hid (HJ.out.call hb); have y0 := HJ2.out.x0; have hown := own_call hb (hown.alloc _); clear hb))
                  go_ret2
                  exact ⟨HJ2.out.1.below, .inr ⟨HB.out, rfl⟩⟩
                · by_cases hK2 : 8 < m.kind
                  · go_wp2_with (first
                    | (with_reducible refine wpList_load_mid rfl 95 (.tmp 86) rfl b (o + kk * 8) rfl _ _ HR.out Tryz.underlying95 rfl (by kernel_rfl) ?_)
                    | (refine wpList_store_new rfl 95 (.tmp 12) (.tmp 87) rfl _ _ _ rfl wr.heap.size (by simp) rfl rfl (by kernel_rfl) rfl rfl ?_)
                    | (go_at_call 42; refine (lplace_no w.heap.size rs nv m.r m.i _ (Lib.hid (HA.out.args.net.below HJ.out.1.below)) (by simp; omega) (Lib.hid HA.out.args.ok) HP).mono ?_; rintro e w1 ⟨rfl, hb⟩; have HJ2 := Lib.hid (HJ.out.call hb); have y0 := HJ2.out.x0; have hown := own_call hb (hown.alloc _); clear hb))
                    go_ret2
                    exact ⟨HJ2.out.1.below, .inr ⟨HB.out, rfl⟩⟩
                  · go_wp2_with (first
                    | (with_reducible refine wpList_load_mid rfl 95 (.tmp 86) rfl b (o + kk * 8) rfl _ _ HR.out Tryz.underlying95 rfl (by kernel_rfl) ?_)
                    | (refine wpList_store_new rfl 95 (.tmp 12) (.tmp 87) rfl _ _ _ rfl wr.heap.size (by simp) rfl rfl (by kernel_rfl) rfl rfl ?_)
                    | (go_at_call 42; refine (lplace_no w.heap.size rs nv m.r m.i _ (Lib.hid (HA.out.args.net.below HJ.out.1.below)) (by simp; omega) (Lib.hid HA.out.args.ok) HP).mono ?_; rintro e w1 ⟨rfl, hb⟩; have HJ2 := Lib.hid (HJ.out.call hb); have y0 := HJ2.out.x0; have hown := own_call hb (hown.alloc _); clear hb))
                    go_ret2
                    exact ⟨HJ2.out.1.below, .inr ⟨HB.out, rfl⟩⟩
            · have hkq : kk = q := by omega
              subst hkq
              have c10 := HL.out.2.c10
              have HN := Lib.hid (linesK_len rs a k kk (by rw [HA.out.plen]; exact Nat.le_refl _))
              have hs := HL.out.2.size
              have hs0 : w.heap.size < wr.heap.size := by omega
              have hs1 : w.heap.size + 1 < wr.heap.size := by omega
              go_upto_if 125 with fail
              go_cut [8] (fun s8 wx => Hid (Lines w nv (.slice ao k cap) (.slice po kk pcap) a (lines2 rs a k kk) s8 wx))
              case first =>
                by_cases hl : a.loop = -1
                · have HLL := Lib.hid (show loopT a.loop = [] by unfold loopT; rw [if_pos hl])
                  go_wp2
                  go_meet
                  case rel => unfold lines2; rw [HLL.out, List.append_nil]; exact HL
                · have HLL := Lib.hid (loopT_cat hl)
                  have hown := HL.out.1
                  have L2 := Lib.hid (Lib.itoa_length_le a.loop HA.out.args.loop.1 HA.out.args.loop.2)
                  have l5 := Lib.hid (show ([108, 111, 111, 112, 32] : List UInt8).length ≤ 5 from Nat.le_refl _)
                  have b1 := add_str l5.out L2.out (by omega)
                  go_wp2_with (first
                    | (at_builtin; refine wpList_append_lies _ (by rfl) _ _ _ (by rfl) (w.heap.size + 2) 9 i0 _ 1 16 Tryz.underlying84 hi hz0 hz1 hz2 rfl (by omega) _ (linesK rs a k kk).length _ (by rfl) (hown.alloc _) ⟨_, 0, none⟩ 1 1 [.string ⟨(cat [108, 111, 111, 112, 32] (Lib.itoa a.loop)).toArray⟩] (by rfl) (by rfl) (World.news_of_block (heap_alloc_new _ _)) (by simp [Value.oneCell']) (by omega) (by have := HN.out; unfold maxLen; omega) (by have := HN.out; omega) (by have := hsz; simp; omega) _ rfl ?_; intro gg capx w1 hown1 hgrow hat hlt)
                    | (go_at_call 41; refine (decimal_i64 _ HA.out.args.loop _).mono ?_; rintro e w' ⟨rfl, hb⟩; have hown := own_call hb hown; have HI7 := Lib.hid (HL.out.2.call hb); have hsz := HI7.out.size))
                  go_meet
                  case rel => unfold lines2; rw [HLL.out]; exact Lib.hid ⟨own_app hown1, (HI7.out.alloc _).grown hgrow (fun g hg => (hown.lt g hg).1)⟩
              case rest =>
                have HM := Lib.hid hcut.out
                clear hcut HL c10
                have c11 := HM.out.2.c11
                have c12 := HM.out.2.c12
                have c13 := HM.out.2.c13
                have c14 := HM.out.2.c14
                have c15 := HM.out.2.c15
                have hneq := neq_other a.other
                have hs := HM.out.2.size
                have hs0 : w.heap.size < wc.heap.size := by omega
                have hs1 : w.heap.size + 1 < wc.heap.size := by omega
                have HLen : Hid ((lines2 rs a k kk).length ≤ 23) := Lib.hid (by unfold lines2; rw [List.length_append, HN.out]; have h := HA.out.plen; have h1 := loopT_le a.loop; omega)
                have hfin := Lib.hid (ansOk_good HV.out HPh.out HOK HA.out.plen)
                have HT := Lib.hid (ansT_two (rs := rs) HV.out HA.out.len HA.out.plen)
                by_cases hz : otherZero a.other = true
                · have HO := Lib.hid (show otherT a.other = [] by unfold otherT; rw [if_pos hz])
                  rw [hz] at hneq
                  clear hz
                  go_wp2
                  go_ret2
                  exact LPost_of HM.out.1 HM.out.2 hfin.out (by rw [HT.out, HO.out, List.append_nil])
                · have HO := Lib.hid (otherT_cat (show otherZero a.other = false by simpa using hz))
                  rw [show otherZero a.other = false by simpa using hz] at hneq
                  clear hz
                  have hown := HM.out.1
                  have LK := Lib.hid (pkT_le a.other HA.out.args.opk)
                  have l6 := Lib.hid (show ([111, 116, 104, 101, 114, 32] : List UInt8).length ≤ 6 from Nat.le_refl _)
                  have b1 := add_str l6.out LK.out (by omega)
                  go_wp2_with (first
                    | (at_builtin; refine wpList_append_lies _ (by rfl) _ _ _ (by rfl) (w.heap.size + 2) 9 i0 _ 1 16 Tryz.underlying84 hi hz0 hz1 hz2 rfl (by omega) _ (lines2 rs a k kk).length _ (by rfl) (hown.alloc _) ⟨_, 0, none⟩ 1 1 [.string ⟨(cat [111, 116, 104, 101, 114, 32] (pkT a.other)).toArray⟩] (by rfl) (by rfl) (World.news_of_block (heap_alloc_new _ _)) (by simp [Value.oneCell']) (by omega) (by have := HLen.out; unfold maxLen; omega) (by have := HLen.out; omega) (by have := hsz; simp; omega) _ rfl ?_; intro gg capx w1 hown1 hgrow hat hlt)
                    | (go_at_call 43; refine (lpacket_calls a.other (Lib.hid HA.out.args.opk) _ (Lib.hid (HA.out.args.tabs.below rfl HM.out.2.below))).mono ?_; rintro e w' ⟨rfl, hb⟩; have hown := own_call hb hown; have HI7 := Lib.hid (HM.out.2.call hb); have hsz := HI7.out.size))
                  go_ret2
                  exact LPost_of (own_app hown1) ((HI7.out.alloc _).grown hgrow (fun g hg => (hown.lt g hg).1)) hfin.out (by rw [HT.out, HO.out])
        · have HPh := Lib.hid (show placeOk rs a.r a.i = false by simpa using HP)
          clear HP
          go_wp2_with (go_at_call 42; refine (lplace_no w.heap.size rs nv a.r a.i _ (Lib.hid (HA.out.args.net.below HI1.out.below)) (by simp; omega) (Lib.hid HA.out.args.ok) HPh).mono ?_; rintro e w1 ⟨rfl, hb⟩)
          go_ret2
          exact ⟨(HI1.out.call hb).below, .inr ⟨by unfold ansOk; rw [if_pos HV.out, HPh.out]; rfl, rfl⟩⟩

end Go.Proofs.YtdmfdclkpdliaaaGreatDoor
