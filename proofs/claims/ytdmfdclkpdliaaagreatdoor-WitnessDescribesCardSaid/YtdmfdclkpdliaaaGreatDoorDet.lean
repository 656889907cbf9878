/- witness.Describe: the other verdicts, and the contract whole. -/
import Derived.Test.YtdmfdclkpdliaaaGreatDoorDes
namespace Go.Proofs.YtdmfdclkpdliaaaGreatDoor
open Go Go.RowKit Go.Shelf

theorem DPost_short {w wr w' : World} {nv dv pv : Value} {rs : List Rt} {a : An} {n : Nat} (hv : a.verdict = 1 ∨ a.verdict = 3) (hn : a.down.length = n) (hi : Inv w nv dv pv a wr) (hw : w' = wr.alloc (.cells #[.string ⟨(firstT a.verdict a.down n).toArray⟩] 9)) (g : Nat) (hg : g = wr.heap.size) :
    DPost w rs a (.returned (.tuple #[.slice (some ⟨g, 0, none⟩) 1 1, .int .i64 0])) w' := by
  subst hw hg hn
  have hs := hi.size
  have e : ansT rs a = [firstT a.verdict a.down a.down.length] := by
    unfold ansT
    rw [if_neg (by omega)]
  refine ⟨(hi.alloc _).below, .inl ⟨?_, wr.heap.size, 1, by rw [e]; rfl, ?_⟩⟩
  · unfold ansOk
    rw [if_neg (by omega)]
    rcases hv with h | h <;> rw [h] <;> rfl
  · rw [e]
    exact own_first wr _ (by omega)
set_option maxRecDepth 100000 in
set_option maxHeartbeats 8000000 in
theorem describe_one (w : World) (nv : Value) (ao : Option Addr) (n cap : Nat) (po : Option Addr) (q pcap : Nat) (rs : List Rt) (a : An) (HA : Hid (Args' w nv ao n cap po q pcap rs a)) (hn : n ≤ 20) (_ : q ≤ 20) (HV : Hid (a.verdict = 1)) :
    Calls Tryz.prog 10 #[.agg #[nv], .agg #[.int .i64 1, .slice ao n cap, .int .i64 a.r, .int .i64 a.i, .int .u32 a.p.src, .int .u32 a.p.dst, .int .i64 a.p.proto, .int .i64 a.p.sport, .int .i64 a.p.dport, .slice po q pcap, .int .i64 a.loop, .int .u32 a.other.src, .int .u32 a.other.dst, .int .i64 a.other.proto, .int .i64 a.other.sport, .int .i64 a.other.dport]] w (DPost w rs a) := by
  have H0 := Lib.hid (first_zero 1 a.down n HA.out.len)
  have HF := Lib.hid (fun k => firstT_le 1 a.down k HA.out.args.downs HA.out.args.nd)
  have HI0 := Lib.hid (Inv.start w nv (.slice ao n cap) (.slice po q pcap) a)
  have HI0 : Hid (Inv w nv (.slice ao n cap) (.slice po q pcap) a ((w.alloc (.cells #[nv] 24)).alloc (.cells #[.int .i64 1, .slice ao n cap, .int .i64 a.r, .int .i64 a.i, .int .u32 a.p.src, .int .u32 a.p.dst, .int .i64 a.p.proto, .int .i64 a.p.sport, .int .i64 a.p.dport, .slice po q pcap, .int .i64 a.loop, .int .u32 a.other.src, .int .u32 a.other.dst, .int .i64 a.other.proto, .int .i64 a.other.sport, .int .i64 a.other.dport] 61))) := by
    have h := HI0.out
    rw [HV.out] at h
    exact Lib.hid h
  go_enter Tryz.func10, Tryz.ntmps10
  go_upto_if 24 with fail
  go_cut [6] (fun s6 wx => s6 = .string ⟨(firstT 1 a.down 0).toArray⟩ ∧ Hid (Inv w nv (.slice ao n cap) (.slice po q pcap) a wx))
  case first =>
    by_cases h : 0 < n
    · have a1 := add_str (a := headT 1) (b := [32, 100, 111, 119, 110]) (m := 8) (n := 5) (by decide) (by decide) (by omega)
      go_wp2
      go_meet
      case rel => exact ⟨by rw [H0.out, if_pos h]; rfl, HI0⟩
    · go_wp2
      go_meet
      case rel => exact ⟨by rw [H0.out, if_neg h]; rfl, HI0⟩
  case rest =>
    obtain ⟨rfl, HI⟩ := hcut
    have c1 := HI.out.c1
    go_wp2_with fail
    clear c1
    go_loopw [6, 30] (fun s6 i wr => ∃ k : Nat, k ≤ n ∧ i = .int .i64 k ∧ s6 = .string ⟨(firstT 1 a.down k).toArray⟩ ∧ Hid (Inv w nv (.slice ao n cap) (.slice po q pcap) a wr)) (fun _ i _ => n - (intOf i).toNat)
    case atStart => exact ⟨0, Nat.zero_le _, rfl, rfl, HI⟩
    case round =>
      clear HI HI0
      obtain ⟨k, hk, rfl, rfl, HI⟩ := hrel
      by_cases hkn : k < n
      · obtain ⟨d, hd⟩ : ∃ d, a.down[k]? = some d := ⟨a.down[k]'(by rw [HA.out.len]; exact hkn), List.getElem?_eq_getElem _⟩
        have HI5 := Lib.hid (HA.out.args.downs d (List.mem_of_getElem? hd))
        have HS := Lib.hid (firstT_succ (v := 1) hd)
        obtain ⟨b, o, rfl, hb, hc⟩ := HA.out.cells k d hd
        have hc' := (HI.out.below.cell (p := ⟨b, o + k, none⟩) hb).trans hc
        have L2 := Lib.hid (Lib.itoa_length_le d HI5.out.1 HI5.out.2)
        have l0 := Lib.hid (show ([32] : List UInt8).length ≤ 1 from Nat.le_refl _)
        have a1 := add_str l0.out L2.out (by omega)
        have a2 := add_str (HF.out k) (cat_le l0.out L2.out) (by omega)
        rw [HS.out] at a2
        clear hd hc hb
        go_wp2_with (go_at_call 35; refine (itoa_calls _ HI5.out _ (Lib.hid (HA.out.args.tabs.below rfl HI.out.below))).mono ?_; rintro e w' ⟨rfl, hb⟩)
        have HI6 := Lib.hid (HI.out.call hb)
        clear hb
        go_wp2
        go_roundw
        case rel => exact ⟨k + 1, by omega, by go_num, rfl, HI6⟩
        case measure => simp [intOf]; omega
      · have hke : k = n := by omega
        subst hke
        have c0 : wr.cell? ⟨w.heap.size + 1, 0, none⟩ = some (.int .i64 1) := by have h := HI.out.c0; rw [HV.out] at h; exact h
        have hs := HI.out.size
        have hs1 : w.heap.size + 1 < wr.heap.size := by omega
        clear HF H0 hs
        go_wp2
        go_ret2
        exact DPost_short (by rw [HV.out]; omega) HA.out.len HI.out (by rw [HV.out]) _ rfl

set_option maxRecDepth 100000 in
set_option maxHeartbeats 8000000 in
theorem describe_three (w : World) (nv : Value) (ao : Option Addr) (n cap : Nat) (po : Option Addr) (q pcap : Nat) (rs : List Rt) (a : An) (HA : Hid (Args' w nv ao n cap po q pcap rs a)) (hn : n ≤ 20) (_ : q ≤ 20) (HV : Hid (a.verdict = 3)) :
    Calls Tryz.prog 10 #[.agg #[nv], .agg #[.int .i64 3, .slice ao n cap, .int .i64 a.r, .int .i64 a.i, .int .u32 a.p.src, .int .u32 a.p.dst, .int .i64 a.p.proto, .int .i64 a.p.sport, .int .i64 a.p.dport, .slice po q pcap, .int .i64 a.loop, .int .u32 a.other.src, .int .u32 a.other.dst, .int .i64 a.other.proto, .int .i64 a.other.sport, .int .i64 a.other.dport]] w (DPost w rs a) := by
  have H0 := Lib.hid (first_zero 3 a.down n HA.out.len)
  have HF := Lib.hid (fun k => firstT_le 3 a.down k HA.out.args.downs HA.out.args.nd)
  have HI0 := Lib.hid (Inv.start w nv (.slice ao n cap) (.slice po q pcap) a)
  have HI0 : Hid (Inv w nv (.slice ao n cap) (.slice po q pcap) a ((w.alloc (.cells #[nv] 24)).alloc (.cells #[.int .i64 3, .slice ao n cap, .int .i64 a.r, .int .i64 a.i, .int .u32 a.p.src, .int .u32 a.p.dst, .int .i64 a.p.proto, .int .i64 a.p.sport, .int .i64 a.p.dport, .slice po q pcap, .int .i64 a.loop, .int .u32 a.other.src, .int .u32 a.other.dst, .int .i64 a.other.proto, .int .i64 a.other.sport, .int .i64 a.other.dport] 61))) := by
    have h := HI0.out
    rw [HV.out] at h
    exact Lib.hid h
  go_enter Tryz.func10, Tryz.ntmps10
  go_upto_if 24 with fail
  go_cut [6] (fun s6 wx => s6 = .string ⟨(firstT 3 a.down 0).toArray⟩ ∧ Hid (Inv w nv (.slice ao n cap) (.slice po q pcap) a wx))
  case first =>
    by_cases h : 0 < n
    · have a1 := add_str (a := headT 3) (b := [32, 100, 111, 119, 110]) (m := 8) (n := 5) (by decide) (by decide) (by omega)
      go_wp2
      go_meet
      case rel => exact ⟨by rw [H0.out, if_pos h]; rfl, HI0⟩
    · go_wp2
      go_meet
      case rel => exact ⟨by rw [H0.out, if_neg h]; rfl, HI0⟩
  case rest =>
    obtain ⟨rfl, HI⟩ := hcut
    have c1 := HI.out.c1
    go_wp2_with fail
    clear c1
    go_loopw [6, 30] (fun s6 i wr => ∃ k : Nat, k ≤ n ∧ i = .int .i64 k ∧ s6 = .string ⟨(firstT 3 a.down k).toArray⟩ ∧ Hid (Inv w nv (.slice ao n cap) (.slice po q pcap) a wr)) (fun _ i _ => n - (intOf i).toNat)
    case atStart => exact ⟨0, Nat.zero_le _, rfl, rfl, HI⟩
    case round =>
      clear HI HI0
      obtain ⟨k, hk, rfl, rfl, HI⟩ := hrel
      by_cases hkn : k < n
      · obtain ⟨d, hd⟩ : ∃ d, a.down[k]? = some d := ⟨a.down[k]'(by rw [HA.out.len]; exact hkn), List.getElem?_eq_getElem _⟩
        have HI5 := Lib.hid (HA.out.args.downs d (List.mem_of_getElem? hd))
        have HS := Lib.hid (firstT_succ (v := 3) hd)
        obtain ⟨b, o, rfl, hb, hc⟩ := HA.out.cells k d hd
        have hc' := (HI.out.below.cell (p := ⟨b, o + k, none⟩) hb).trans hc
        have L2 := Lib.hid (Lib.itoa_length_le d HI5.out.1 HI5.out.2)
        have l0 := Lib.hid (show ([32] : List UInt8).length ≤ 1 from Nat.le_refl _)
        have a1 := add_str l0.out L2.out (by omega)
        have a2 := add_str (HF.out k) (cat_le l0.out L2.out) (by omega)
        rw [HS.out] at a2
        clear hd hc hb
        go_wp2_with (go_at_call 35; refine (itoa_calls _ HI5.out _ (Lib.hid (HA.out.args.tabs.below rfl HI.out.below))).mono ?_; rintro e w' ⟨rfl, hb⟩)
        have HI6 := Lib.hid (HI.out.call hb)
        clear hb
        go_wp2
        go_roundw
        case rel => exact ⟨k + 1, by omega, by go_num, rfl, HI6⟩
        case measure => simp [intOf]; omega
      · have hke : k = n := by omega
        subst hke
        have c0 : wr.cell? ⟨w.heap.size + 1, 0, none⟩ = some (.int .i64 3) := by have h := HI.out.c0; rw [HV.out] at h; exact h
        have hs := HI.out.size
        have hs1 : w.heap.size + 1 < wr.heap.size := by omega
        clear HF H0 hs
        go_wp2
        go_ret2
        exact DPost_short (by rw [HV.out]; omega) HA.out.len HI.out (by rw [HV.out]) _ rfl

set_option maxRecDepth 100000 in
set_option maxHeartbeats 8000000 in
theorem describe_bad (w : World) (nv dv pv : Value) (rs : List Rt) (a : An) (h1 : a.verdict ≠ 1) (h2 : a.verdict ≠ 2) (h3 : a.verdict ≠ 3) :
    Calls Tryz.prog 10 #[.agg #[nv], .agg #[.int .i64 a.verdict, dv, .int .i64 a.r, .int .i64 a.i, .int .u32 a.p.src, .int .u32 a.p.dst, .int .i64 a.p.proto, .int .i64 a.p.sport, .int .i64 a.p.dport, pv, .int .i64 a.loop, .int .u32 a.other.src, .int .u32 a.other.dst, .int .i64 a.other.proto, .int .i64 a.other.sport, .int .i64 a.other.dport]] w (DPost w rs a) := by
  have HO := Lib.hid (show ansOk rs a = false by unfold ansOk; rw [if_neg h2, decide_eq_false h1, decide_eq_false h3]; rfl)
  go_enter Tryz.func10, Tryz.ntmps10
  go_wp2
  go_ret2
  exact ⟨below2 _ _ _, .inr ⟨HO.out, rfl⟩⟩

theorem describe_calls (w : World) (nv : Value) (ao : Option Addr) (n cap : Nat) (po : Option Addr) (q pcap : Nat) (rs : List Rt) (a : An) (HA : Hid (Args' w nv ao n cap po q pcap rs a)) (hn : n ≤ 20) (hq : q ≤ 20) :
    Calls Tryz.prog 10 #[.agg #[nv], .agg #[.int .i64 a.verdict, .slice ao n cap, .int .i64 a.r, .int .i64 a.i, .int .u32 a.p.src, .int .u32 a.p.dst, .int .i64 a.p.proto, .int .i64 a.p.sport, .int .i64 a.p.dport, .slice po q pcap, .int .i64 a.loop, .int .u32 a.other.src, .int .u32 a.other.dst, .int .i64 a.other.proto, .int .i64 a.other.sport, .int .i64 a.other.dport]] w (DPost w rs a) := by
  by_cases h2 : a.verdict = 2
  · rw [h2]; exact describe_no w nv ao n cap po q pcap rs a HA hn hq (Lib.hid h2)
  by_cases h1 : a.verdict = 1
  · rw [h1]; exact describe_one w nv ao n cap po q pcap rs a HA hn hq (Lib.hid h1)
  by_cases h3 : a.verdict = 3
  · rw [h3]; exact describe_three w nv ao n cap po q pcap rs a HA hn hq (Lib.hid h3)
  exact describe_bad w nv _ _ rs a h1 h2 h3

end Go.Proofs.YtdmfdclkpdliaaaGreatDoor
