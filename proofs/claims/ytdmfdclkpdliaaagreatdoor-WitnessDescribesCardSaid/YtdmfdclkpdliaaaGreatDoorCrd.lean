/- netverifylaw38.WitnessDescribes answers true for every network and every answer; each argument reads behind the call as it read before: the card (the three tables that the row lists are tied to the program's text). No other condition. -/
import Derived.Test.YtdmfdclkpdliaaaGreatDoorRow
import Derived.Test.YtdmfdclkpdliaaaGreatDoorFcu
namespace Go.Proofs.YtdmfdclkpdliaaaGreatDoor
open Go Go.ChangeShapes Go.WideShapes Go.ChangeAt Go.RowKit
namespace Wd
theorem funcIs : Tryz.prog.funcNamed "netverify/netverifylaw38.WitnessDescribes" = some 4 := by kernel_rfl
set_option maxRecDepth 100000 in
theorem said : Rows.WitnessDescribesSaid :=
  OpenClaim.holds_of_cond 4 Tryz.f4 rfl rfl rfl rfl rfl rfl rfl ⟨rfl, rfl, rfl, rfl, rfl⟩ rfl rfl rfl rfl rfl funcIs Tryz.func4 closed
    (of_decide_eq_true (by kernel_rfl)) (by unfold Func.isWrapper; first | (rw [if_pos (by decide +kernel)]; kernel_rfl) | (rw [if_neg (by decide +kernel)]; exact ⟨rfl, rfl⟩))
    (fun os started H enc _ F => by rw [OpenClaim.pre_eq_preRow]; exact lifted os started H enc F)

theorem plain (f : FuncId) (fn : Func) (hf : Tryz.pinned.checked.prog.funcNamed "netverify/netverifylaw38.WitnessDescribes" = some f) (hfn : Tryz.pinned.checked.prog.funcs[f]? = some fn) :
    false = Tryz.pinned.checked.prog.looks [] ∧ ∀ (j : Nat) t, fn.params[j]? = some t → Tryz.pinned.checked.prog.wantsStandIn t = false := by
  obtain rfl : f = 4 := Option.some.inj (funcIs.symm.trans hf) |>.symm
  obtain rfl : fn = Tryz.f4 := (Option.some.inj (Tryz.func4.symm.trans hfn)).symm
  refine ⟨by kernel_rfl, fun j t ht => ?_⟩
  rw [Tryz.params4] at ht
  have h : t = 24 ∨ t = 61 := by simpa using Array.mem_of_getElem? ht
  rcases h with rfl | rfl
  · exact (show Tryz.prog.wantsStandIn 24 = false by kernel_rfl)
  · exact (show Tryz.prog.wantsStandIn 61 = false by kernel_rfl)
end Wd

set_option maxRecDepth 100000 in
theorem witnessDescribes_holds : Rows.WitnessDescribesCardSaid :=
  Claim7.holds_tied_plain_at .later [] _ _ _ _ Wd.said (fun _ h => by cases h) Wd.wf (fun _ h => by cases h) witnessDescribes_row_tie rfl ⟨rfl, rfl⟩ Wd.mainIs rfl Wd.plain Wd.goes
#print axioms witnessDescribes_holds
end Go.Proofs.YtdmfdclkpdliaaaGreatDoor
