/- The closed facts of the row of WitnessDescribes, one by one. -/
import Derived.Test.YtdmfdclkpdliaaaGreatDoorCards
import Derived.ProofKit
import Derived.JoinedCond
namespace Go.Proofs.YtdmfdclkpdliaaaGreatDoor
namespace Wd
open Go
theorem k0 : (Rows.witnessDescribesRow.wf (OpenSpec.ofChange Rows.witnessDescribesSpec)) = true := by kernel_rfl
theorem k1 : (laidOutB Tryz.prog) = true := by kernel_rfl
theorem k2 : (mapsRowed Tryz.prog) = true := by kernel_rfl
theorem k3 : (Tryz.f4.params.all (Tryz.prog.readableRec ·)) = true := by kernel_rfl
theorem k4 : (namedTie Tryz.prog Rows.witnessDescribesRow.named Rows.witnessDescribesSpec.vars) = true := by kernel_rfl
theorem k5 : ((Rows.witnessDescribesRow.stops == [])) = true := by kernel_rfl
theorem k6 : ((Tryz.prog.stops == [])) = true := by kernel_rfl
theorem k7 : ((Rows.witnessDescribesRow.knobs == [])) = true := by kernel_rfl
theorem k8 : ((Tryz.prog.stopKnobs == [])) = true := by kernel_rfl
theorem k9 : ((Rows.witnessDescribesRow.inPlace == Tryz.prog.inPlace 4)) = true := by kernel_rfl
theorem k10 : ((Rows.witnessDescribesRow.unfollowed == Tryz.prog.unfollowed 4)) = true := by kernel_rfl
theorem k11 : ((Rows.witnessDescribesRow.recurses == Tryz.prog.recurses 4)) = true := by kernel_rfl
theorem k12 : ((Rows.witnessDescribesRow.named == Tryz.prog.varsNamed 4)) = true := by kernel_rfl
theorem k13 : ((Rows.witnessDescribesRow.maps == (Tryz.f4.params.toList ++ Rows.witnessDescribesSpec.plain.varTypes Tryz.prog).any (Tryz.prog.mapsRec ·))) = true := by kernel_rfl
theorem k14 : ((Rows.witnessDescribesRow.ifaces == (Tryz.f4.params.toList ++ Rows.witnessDescribesSpec.plain.varTypes Tryz.prog).any (Tryz.prog.ifacesRec ·))) = true := by kernel_rfl
theorem k15 : ((Rows.witnessDescribesRow.mapsOut == Tryz.prog.mapsAmong Tryz.f4.resultTypes.toList)) = true := by kernel_rfl
theorem k16 : ((Rows.witnessDescribesRow.loops == (Tryz.f4.params.toList ++ Rows.witnessDescribesSpec.plain.varTypes Tryz.prog).any (Tryz.prog.loopsFrom ·))) = true := by kernel_rfl
theorem k17 : ((Rows.witnessDescribesRow.wideKeys == (Tryz.f4.params.toList ++ Rows.witnessDescribesSpec.plain.varTypes Tryz.prog ++ Tryz.f4.resultTypes.toList).any (Tryz.prog.wideKeysFrom ·))) = true := by kernel_rfl
theorem k18 : (Rows.witnessDescribesSpec.vars.all (Tryz.prog.varReadable ·)) = true := by kernel_rfl
theorem k19 : (Tryz.f4.resultTypes.all (fun t => Tryz.prog.readableRec t && decide (t < Tryz.prog.types.size))) = true := by kernel_rfl
theorem k20 : ((Rows.witnessDescribesRow.ifacesOut == Tryz.f4.resultTypes.toList.any (Tryz.prog.ifacesRec ·))) = true := by kernel_rfl
theorem k21 : ((Rows.witnessDescribesRow.loopsOut == Tryz.f4.resultTypes.toList.any (Tryz.prog.loopsFrom ·))) = true := by kernel_rfl
theorem k22 : ((Rows.witnessDescribesRow.plainKeys == Tryz.prog.plainKeys)) = true := by kernel_rfl
theorem k23 : (Rows.witnessDescribesRow.shortTexts.isNone) = true := by kernel_rfl
theorem k24 : (Tryz.prog.stopsHeard) = true := by kernel_rfl
theorem k25 : (Tryz.prog.mayEnter) = true := by kernel_rfl
theorem k26 : ((Rows.witnessDescribesRow.lifted == Tryz.prog.liftsFinal)) = true := by kernel_rfl
theorem k27 : ((Tryz.prog.make == some Rows.witnessDescribesRow.make)) = true := by kernel_rfl
theorem k28 : ((Rows.witnessDescribesRow.kinds == (if Rows.witnessDescribesRow.domain.isEmpty then [] else Tryz.f4.params.toList.map fun t => match Tryz.prog.underlying t with | some (.int k) => some k | _ => none))) = true := by kernel_rfl
theorem k29 : ((Rows.witnessDescribesRow.pinned == Rows.witnessDescribesRow.pinnedBy)) = true := by kernel_rfl
theorem k30 : ((Rows.witnessDescribesRow.veiled == (Tryz.f4.params.toList ++ Rows.witnessDescribesSpec.plain.varTypes Tryz.prog ++ Tryz.f4.resultTypes.toList).any (Tryz.prog.veiledRec ·))) = true := by kernel_rfl
theorem k31 : (Rows.witnessDescribesRow.veiledFits Tryz.prog Tryz.f4.params.toList (Tryz.f4.params.toList ++ Rows.witnessDescribesSpec.plain.varTypes Tryz.prog ++ Tryz.f4.resultTypes.toList)) = true := by kernel_rfl
theorem wf : Rows.witnessDescribesRow.wfByText (OpenSpec.ofChange Rows.witnessDescribesSpec) = true := by kernel_rfl
end Wd
end Go.Proofs.YtdmfdclkpdliaaaGreatDoor
