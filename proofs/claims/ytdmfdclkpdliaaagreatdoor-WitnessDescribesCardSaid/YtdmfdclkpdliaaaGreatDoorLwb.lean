/- netverifylaw38.WitnessDescribes: the law's walk: it answers true. -/
import Derived.Test.YtdmfdclkpdliaaaGreatDoorLwa
namespace Go.Proofs.YtdmfdclkpdliaaaGreatDoor
open Go Go.RowKit Go.Shelf

set_option maxRecDepth 100000 in
set_option maxHeartbeats 8000000 in
theorem law_r (w : World) (no : Option Addr) (R ncap : Nat) (ao : Option Addr) (n cap : Nat) (po : Option Addr) (q pcap : Nat) (a : An) (h1 : 8 < R) :
    Calls Tryz.prog 4 #[.agg #[.slice no R ncap], .agg #[.int .i64 a.verdict, .slice ao n cap, .int .i64 a.r, .int .i64 a.i, .int .u32 a.p.src, .int .u32 a.p.dst, .int .i64 a.p.proto, .int .i64 a.p.sport, .int .i64 a.p.dport, .slice po q pcap, .int .i64 a.loop, .int .u32 a.other.src, .int .u32 a.other.dst, .int .i64 a.other.proto, .int .i64 a.other.sport, .int .i64 a.other.dport]] w fun e w' => e = .returned (.bool true) ∧ Below w.heap.size w w' := by
  have HI0 := Lib.hid (Inv.start w (.slice no R ncap) (.slice ao n cap) (.slice po q pcap) a)
  go_enter Tryz.func4, Tryz.ntmps4
  go_wp2_with (go_at_call 5; refine (Am.awake_returns _).mono ?_; rintro e w1 ⟨rfl, hb⟩; have HI1 := Lib.hid (HI0.out.call hb); have cn := HI1.out.n; have c1 := HI1.out.c1; have c9 := HI1.out.c9; clear hb)
  go_ret
  exact ⟨rfl, HI1.out.below⟩

set_option maxRecDepth 100000 in
set_option maxHeartbeats 8000000 in
theorem law_n (w : World) (no : Option Addr) (R ncap : Nat) (ao : Option Addr) (n cap : Nat) (po : Option Addr) (q pcap : Nat) (a : An) (h1 : R ≤ 8) (h2 : 20 < n) :
    Calls Tryz.prog 4 #[.agg #[.slice no R ncap], .agg #[.int .i64 a.verdict, .slice ao n cap, .int .i64 a.r, .int .i64 a.i, .int .u32 a.p.src, .int .u32 a.p.dst, .int .i64 a.p.proto, .int .i64 a.p.sport, .int .i64 a.p.dport, .slice po q pcap, .int .i64 a.loop, .int .u32 a.other.src, .int .u32 a.other.dst, .int .i64 a.other.proto, .int .i64 a.other.sport, .int .i64 a.other.dport]] w fun e w' => e = .returned (.bool true) ∧ Below w.heap.size w w' := by
  have HI0 := Lib.hid (Inv.start w (.slice no R ncap) (.slice ao n cap) (.slice po q pcap) a)
  go_enter Tryz.func4, Tryz.ntmps4
  go_wp2_with (go_at_call 5; refine (Am.awake_returns _).mono ?_; rintro e w1 ⟨rfl, hb⟩; have HI1 := Lib.hid (HI0.out.call hb); have cn := HI1.out.n; have c1 := HI1.out.c1; have c9 := HI1.out.c9; clear hb)
  go_ret
  exact ⟨rfl, HI1.out.below⟩

set_option maxRecDepth 100000 in
set_option maxHeartbeats 8000000 in
theorem law_q (w : World) (no : Option Addr) (R ncap : Nat) (ao : Option Addr) (n cap : Nat) (po : Option Addr) (q pcap : Nat) (a : An) (h1 : R ≤ 8) (h2 : n ≤ 20) (h3 : 20 < q) :
    Calls Tryz.prog 4 #[.agg #[.slice no R ncap], .agg #[.int .i64 a.verdict, .slice ao n cap, .int .i64 a.r, .int .i64 a.i, .int .u32 a.p.src, .int .u32 a.p.dst, .int .i64 a.p.proto, .int .i64 a.p.sport, .int .i64 a.p.dport, .slice po q pcap, .int .i64 a.loop, .int .u32 a.other.src, .int .u32 a.other.dst, .int .i64 a.other.proto, .int .i64 a.other.sport, .int .i64 a.other.dport]] w fun e w' => e = .returned (.bool true) ∧ Below w.heap.size w w' := by
  have HI0 := Lib.hid (Inv.start w (.slice no R ncap) (.slice ao n cap) (.slice po q pcap) a)
  go_enter Tryz.func4, Tryz.ntmps4
  go_wp2_with (go_at_call 5; refine (Am.awake_returns _).mono ?_; rintro e w1 ⟨rfl, hb⟩; have HI1 := Lib.hid (HI0.out.call hb); have cn := HI1.out.n; have c1 := HI1.out.c1; have c9 := HI1.out.c9; clear hb)
  go_ret
  exact ⟨rfl, HI1.out.below⟩

set_option maxRecDepth 100000 in
set_option maxHeartbeats 16000000 in
theorem law_in (w : World) (no : Option Addr) (R ncap : Nat) (ao : Option Addr) (n cap : Nat) (po : Option Addr) (q pcap : Nat) (rs : List Rt) (a : An) (HR : Hid (Raw w no R ncap ao n cap po q pcap rs a)) (h1 : R ≤ 8) (h2 : n ≤ 20) (h3 : q ≤ 20) :
    Calls Tryz.prog 4 #[.agg #[.slice no R ncap], .agg #[.int .i64 a.verdict, .slice ao n cap, .int .i64 a.r, .int .i64 a.i, .int .u32 a.p.src, .int .u32 a.p.dst, .int .i64 a.p.proto, .int .i64 a.p.sport, .int .i64 a.p.dport, .slice po q pcap, .int .i64 a.loop, .int .u32 a.other.src, .int .u32 a.other.dst, .int .i64 a.other.proto, .int .i64 a.other.sport, .int .i64 a.other.dport]] w fun e w' => e = .returned (.bool true) ∧ Below w.heap.size w w' := by
  have HI0 := Lib.hid (Inv.start w (.slice no R ncap) (.slice ao n cap) (.slice po q pcap) a)
  go_enter Tryz.func4, Tryz.ntmps4
  go_wp2_with (go_at_call 5; refine (Am.awake_returns _).mono ?_; rintro e w1 ⟨rfl, hb⟩; have HI1 := Lib.hid (HI0.out.call hb); have cn := HI1.out.n; have c1 := HI1.out.c1; have c9 := HI1.out.c9; clear hb)
  clear HI0 c1 c9
  have HR1 := Lib.hid (HR.out.below HI1.out.below)
  clear HR
  go_loop [5] (fun i => ∃ j : Nat, j ≤ R ∧ i = .int .i64 j ∧ Hid (∀ (k : Nat) r, k < j → rs[k]? = some r → r.Ok)) (fun i => R - (intOf i).toNat)
  case atStart => exact ⟨0, Nat.zero_le _, rfl, Lib.hid (fun k r h => absurd h (Nat.not_lt_zero _))⟩
  case round =>
    obtain ⟨j, hj, rfl, HK⟩ := hrel
    by_cases hjR : j < R
    · obtain ⟨x, hx⟩ : ∃ x, rs[j]? = some x := ⟨rs[j]'(by rw [HR1.out.rlen]; exact hjR), List.getElem?_eq_getElem _⟩
      obtain ⟨b, o, rfl, hb, cs, hcl, _, hr, hc0, ao', cap', hc2, hifs⟩ := HR1.out.rts j x hx
      have e0 := hr 0 _ hc0
      have e2 := hr 2 _ hc2
      rw [Nat.add_zero] at e0
      have hms := HR1.out.nms x (List.mem_of_getElem? hx)
      have hm1 := hms.1
      have hm2 := hms.2.1
      have HIF := Lib.hid hifs
      have HX := Lib.hid hx
      unfold maxLen at hm1 hm2
      clear hifs hx hms hr hcl hc0 hc2
      generalize hmm : x.ifs.length = mm at e2 hm2
      have HMM := Lib.hid hmm
      clear hmm
      by_cases g1 : 50 < x.name.size
      · go_wp2
        go_ret
        exact ⟨rfl, HI1.out.below⟩
      · by_cases g2 : 20 < mm
        · go_wp2
          go_ret
          exact ⟨rfl, HI1.out.below⟩
        · go_wp2_with fail
          go_loop [6] (fun i => ∃ l : Nat, l ≤ mm ∧ i = .int .i64 l ∧ Hid (∀ (k : Nat) y, k < l → x.ifs[k]? = some y → y.size ≤ 50)) (fun i => mm - (intOf i).toNat)
          case atStart => exact ⟨0, Nat.zero_le _, rfl, Lib.hid (fun k r h => absurd h (Nat.not_lt_zero _))⟩
          case round =>
            obtain ⟨l, hl, rfl, HL⟩ := hrel
            by_cases hlm : l < mm
            · obtain ⟨y, hy⟩ : ∃ y, x.ifs[l]? = some y := ⟨x.ifs[l]'(by rw [HMM.out]; exact hlm), List.getElem?_eq_getElem _⟩
              obtain ⟨b1, o1, rfl, hb1, hyc⟩ := HIF.out l y hy
              have HY := Lib.hid hy
              clear hy
              by_cases g3 : 50 < y.size
              · go_wp2
                go_ret
                exact ⟨rfl, HI1.out.below⟩
              · go_wp2
                go_round
                case rel => exact ⟨l + 1, by omega, by go_num, Lib.hid (fun k z hk hz => by
                  by_cases he : k = l
                  · subst he
                    have h := HY.out
                    rw [hz] at h
                    cases h
                    omega
                  · exact HL.out k z (by omega) hz)⟩
                case measure => simp [intOf]; omega
            · go_wp2
              go_round
              case rel => exact ⟨j + 1, by omega, by go_num, Lib.hid (fun k r hk hr => by
                by_cases he : k = j
                · subst he
                  have h := HX.out
                  rw [hr] at h
                  cases h
                  refine ⟨by omega, by rw [HMM.out]; omega, fun y hy => ?_⟩
                  obtain ⟨i, hi, rfl⟩ := List.getElem_of_mem hy
                  exact HL.out i _ (by have := HMM.out; omega) (List.getElem?_eq_getElem hi)
                · exact HK.out k r (by omega) hr)⟩
              case measure => simp [intOf]; omega
    · have hjr : j = R := by omega
      subst hjr
      have HO : NetOk rs := ⟨by rw [HR1.out.rlen]; exact h1, fun r hr => by
        obtain ⟨i, hi, rfl⟩ := List.getElem_of_mem hr
        exact HK.out i _ (by have := HR1.out.rlen; omega) (List.getElem?_eq_getElem hi)⟩
      have HA := Lib.hid (HR1.out.args HO h2 h3)
      have HOh := Lib.hid HO
      have HLE := Lib.hid (ansT_le (rs := rs) (a := a) (by rw [HR1.out.plen]; exact h3))
      clear HO HK
      have c1 := HI1.out.c1
      have c9 := HI1.out.c9
      have c0 := HI1.out.c0
      have c2 := HI1.out.c2
      have c3 := HI1.out.c3
      have c4 := HI1.out.c4
      have c5 := HI1.out.c5
      have c6 := HI1.out.c6
      have c7 := HI1.out.c7
      have c8 := HI1.out.c8
      have c10 := HI1.out.c10
      have c11 := HI1.out.c11
      have c12 := HI1.out.c12
      have c13 := HI1.out.c13
      have c14 := HI1.out.c14
      have c15 := HI1.out.c15
      by_cases ho : ansOk rs a = true
      · have HB := Lib.hid ho
        clear ho
        go_wp2_with (first
          | (go_at_call 10; refine (describe_calls w1 _ ao n cap po q pcap rs a HA h2 h3).mono ?_; intro e w2 hD; obtain ⟨g1, cap1, rfl, hb2, hw2⟩ := hD.yes HB.out; have HI2 := Lib.hid (HI1.out.call hb2.out); have HA2 := Lib.hid ((HR1.out.below hb2.out).args HOh.out h2 h3); clear hD; have cn := HI2.out.n; have c0 := HI2.out.c0; have c1 := HI2.out.c1; have c2 := HI2.out.c2; have c3 := HI2.out.c3; have c4 := HI2.out.c4; have c5 := HI2.out.c5; have c6 := HI2.out.c6; have c7 := HI2.out.c7; have c8 := HI2.out.c8; have c9 := HI2.out.c9; have c10 := HI2.out.c10; have c11 := HI2.out.c11; have c12 := HI2.out.c12; have c13 := HI2.out.c13; have c14 := HI2.out.c14; have c15 := HI2.out.c15)
          | (go_at_call 11; refine (lines_calls w2 _ ao n cap po q pcap rs a HA2 h2 h3).mono ?_; intro e w3 hD; obtain ⟨g2, cap2, rfl, hb3, hw3⟩ := hD.yes HB.out; have HI3 := Lib.hid (HI2.out.call hb3.out); clear hD)
          | (go_at_call 12; refine (strings_n g1 g2 cap1 cap2 (ansT rs a).length (ansT rs a) w3 rfl HLE.out (Lib.hid (own_cells (own_call hb3.out hw2.out))) (Lib.hid (own_cells hw3.out))).mono ?_; rintro e w4 ⟨rfl, hb4⟩; have HI4 := Lib.hid (HI3.out.call hb4)))
        go_ret
        exact ⟨rfl, HI4.out.below⟩
      · have HB := Lib.hid (show ansOk rs a = false by simpa using ho)
        clear ho
        go_wp2_with (first
          | (go_at_call 10; refine (describe_calls w1 _ ao n cap po q pcap rs a HA h2 h3).mono ?_; intro e w2 hD; obtain ⟨rfl, hb2⟩ := hD.no HB.out; have HI2 := Lib.hid (HI1.out.call hb2.out); have HA2 := Lib.hid ((HR1.out.below hb2.out).args HOh.out h2 h3); clear hD; have cn := HI2.out.n; have c0 := HI2.out.c0; have c1 := HI2.out.c1; have c2 := HI2.out.c2; have c3 := HI2.out.c3; have c4 := HI2.out.c4; have c5 := HI2.out.c5; have c6 := HI2.out.c6; have c7 := HI2.out.c7; have c8 := HI2.out.c8; have c9 := HI2.out.c9; have c10 := HI2.out.c10; have c11 := HI2.out.c11; have c12 := HI2.out.c12; have c13 := HI2.out.c13; have c14 := HI2.out.c14; have c15 := HI2.out.c15)
          | (go_at_call 11; refine (lines_calls w2 _ ao n cap po q pcap rs a HA2 h2 h3).mono ?_; intro e w3 hD; obtain ⟨rfl, hb3⟩ := hD.no HB.out; have HI3 := Lib.hid (HI2.out.call hb3.out); clear hD))
        go_ret
        exact ⟨rfl, HI3.out.below⟩

theorem law_calls (w : World) (no : Option Addr) (R ncap : Nat) (ao : Option Addr) (n cap : Nat) (po : Option Addr) (q pcap : Nat) (rs : List Rt) (a : An) (HR : Hid (Raw w no R ncap ao n cap po q pcap rs a)) :
    Calls Tryz.prog 4 #[.agg #[.slice no R ncap], .agg #[.int .i64 a.verdict, .slice ao n cap, .int .i64 a.r, .int .i64 a.i, .int .u32 a.p.src, .int .u32 a.p.dst, .int .i64 a.p.proto, .int .i64 a.p.sport, .int .i64 a.p.dport, .slice po q pcap, .int .i64 a.loop, .int .u32 a.other.src, .int .u32 a.other.dst, .int .i64 a.other.proto, .int .i64 a.other.sport, .int .i64 a.other.dport]] w fun e w' => e = .returned (.bool true) ∧ Below w.heap.size w w' := by
  by_cases h1 : R ≤ 8
  · by_cases h2 : n ≤ 20
    · by_cases h3 : q ≤ 20
      · exact law_in w no R ncap ao n cap po q pcap rs a HR h1 h2 h3
      · exact law_q w no R ncap ao n cap po q pcap a h1 h2 (by omega)
    · exact law_n w no R ncap ao n cap po q pcap a h1 (by omega)
  · exact law_r w no R ncap ao n cap po q pcap a (by omega)

end Go.Proofs.YtdmfdclkpdliaaaGreatDoor
