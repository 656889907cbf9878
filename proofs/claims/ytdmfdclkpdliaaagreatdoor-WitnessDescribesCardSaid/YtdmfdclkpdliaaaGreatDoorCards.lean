/-
  DERIVED. GIVEN WITH THE SEED: THE CARDS: each row of YtdmfdclkpdliaaaGreatDoorRows.lean that lists a variable, with what it lists TIED to the program's text (the seventh form; the later family's looks); each row that meets fmt, with fmt's text TOLD by the authors' own Lean function (tested against real Go, not proved from fmt's source: count such statements apart). THE CARD IS WHAT COUNTS. Prove the row's statement (the work); the ties are given (YtdmfdclkpdliaaaGreatDoorTie.lean); close each card by the builder's one call (the guide's Derived/Test/ToyasCard.lean, 'card_holds'). Laid BY PROGRAM, IN A SANDBOX (cutbox-door.mjs). By AI agents, Wed Nov 11 2026. No macro, syntax, notation, axiom, sorry.
-/
import Derived.Test.YtdmfdclkpdliaaaGreatDoorRows
import GoSem.ClaimSeven
namespace Go.Proofs.YtdmfdclkpdliaaaGreatDoor
namespace Rows

/-- THE TIED CARD OF 'netverifylaw38.WitnessHolds'. -/
def witnessHoldsCard : Claim7 := { stood := { row := witnessHoldsRow, standIns := [], harness := (true, "8c0f4d00b2af35db548950c82770cb94fcb15000ec094929487b349aa1ab88a9"), looks := false }, kinds := [], alts := [], laidByText := true, laidKinds := [.data, .data, .data], laidTests := true, laidLooks := .later }
def WitnessHoldsCardSaid : Prop := Claim7.holds Tryz.pinned (.plain (OpenSpec.ofChange witnessHoldsSpec)) witnessHoldsCard

/-- THE TIED CARD OF 'netverifylaw38.WitnessDescribes'. -/
def witnessDescribesCard : Claim7 := { stood := { row := witnessDescribesRow, standIns := [], harness := (true, "8c0f4d00b2af35db548950c82770cb94fcb15000ec094929487b349aa1ab88a9"), looks := false }, kinds := [], alts := [], laidByText := true, laidKinds := [.data, .data, .data], laidTests := true, laidLooks := .later }
def WitnessDescribesCardSaid : Prop := Claim7.holds Tryz.pinned (.plain (OpenSpec.ofChange witnessDescribesSpec)) witnessDescribesCard

/-- THE SECOND FORM's CARD OF 'netverifylaw38.WitnessHolds'. -/
def witnessHoldsUptoCard : Claim7 := { stood := { row := witnessHoldsUptoRow, standIns := [], harness := (true, "8c0f4d00b2af35db548950c82770cb94fcb15000ec094929487b349aa1ab88a9"), looks := false }, kinds := [], alts := [], laidByText := true, laidKinds := [.data, .data, .data], laidTests := true, laidLooks := .later }
def WitnessHoldsUptoCardSaid : Prop := Claim7.holds Tryz.pinned (.plain (OpenSpec.upto witnessHoldsSpec)) witnessHoldsUptoCard

/-- THE SECOND FORM's CARD OF 'netverifylaw38.WitnessDescribes'. -/
def witnessDescribesUptoCard : Claim7 := { stood := { row := witnessDescribesUptoRow, standIns := [], harness := (true, "8c0f4d00b2af35db548950c82770cb94fcb15000ec094929487b349aa1ab88a9"), looks := false }, kinds := [], alts := [], laidByText := true, laidKinds := [.data, .data, .data], laidTests := true, laidLooks := .later }
def WitnessDescribesUptoCardSaid : Prop := Claim7.holds Tryz.pinned (.plain (OpenSpec.upto witnessDescribesSpec)) witnessDescribesUptoCard
end Rows
end Go.Proofs.YtdmfdclkpdliaaaGreatDoor
