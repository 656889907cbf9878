/- The closed facts of the row of WitnessDescribes, joined. -/
import Derived.Test.YtdmfdclkpdliaaaGreatDoorFct
namespace Go.Proofs.YtdmfdclkpdliaaaGreatDoor
namespace Wd
open Go
theorem andT {a b : Bool} (h : a = true) (k : b = true) : (a && b) = true := by rw [h, k]; rfl
set_option maxRecDepth 100000 in
theorem closed : joinedFacts Tryz.prog 4 Tryz.f4 Rows.witnessDescribesSpec Rows.witnessDescribesRow = true := by
  unfold joinedFacts
  exact (andT (andT (andT (andT (andT (andT (andT (andT (andT (andT (andT (andT (andT (andT (andT (andT (andT (andT (andT (andT (andT (andT (andT (andT (andT (andT (andT (andT (andT (andT (andT k0 k1) k2) k3) k4) k5) k6) k7) k8) k9) k10) k11) k12) k13) k14) k15) k16) k17) k18) k19) k20) k21) k22) k23) k24) k25) k26) k27) k28) k29) k30) k31)
theorem mainIs : Tryz.prog.mainIs = some (Rows.witnessDescribesCard.stood.harness.1, Rows.witnessDescribesCard.stood.harness.2.toList) := by kernel_rfl
theorem goes : false = Rows.witnessDescribesRow.goesBy Tryz.prog := by kernel_rfl
theorem noHarness : (!Rows.witnessDescribesCard.stood.harness.1 && Rows.witnessDescribesCard.stood.harness.2.isEmpty && !Rows.witnessDescribesCard.stood.looks) = false := by kernel_rfl
end Wd
end Go.Proofs.YtdmfdclkpdliaaaGreatDoor
