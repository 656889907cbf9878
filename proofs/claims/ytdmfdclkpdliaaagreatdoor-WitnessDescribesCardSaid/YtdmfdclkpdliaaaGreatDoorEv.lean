/- The abstract machine, run by the kernel on the call of awake: it answers true. No condition. -/
import Derived.Test.YtdmfdclkpdliaaaGreatDoorTab
namespace Go.Proofs.YtdmfdclkpdliaaaGreatDoor
namespace Am
open Go

/- strings.Join as one step -/
def joinGo (sep : List UInt8) : List AV → Option (List UInt8)
  | [] => some []
  | .str s :: r => match r with
    | [] => some s
    | _ :: _ => match joinGo sep r with
      | some t => some (s ++ sep ++ t)
      | none => none
  | _ :: _ => none
def joinPrim : Fun := fun args n h =>
  match args with
  | [.slice b o len _ _ _, .str sep] => match h.cells b with
    | some cs => match cellsAt cs o len with
      | some vs => match joinGo sep vs with
        | some s => if Nat.ble len 140737488355328 && Nat.ble s.length 140737488355328 then some { v := .str s, n, lo := n, h } else none
        | none => none
      | none => none
    | none => none
  | _ => none
noncomputable def tab : Tab := { ti := fun t => tiTab.get t, fn := fun f => fnTab.get f, prim := fun f => if Nat.beq f 72 then some joinPrim else none }
def isTrue : Option Res → Bool
  | some { v := .bool b, .. } => b
  | _ => false
def noBlocks : Heap := { base := fun _ => none, off := 0, tr := .lf }
set_option maxRecDepth 1000000
theorem awake_true : isTrue (call tab 5000 60 5 [] 0 noBlocks) = true := by kernel_rfl

end Am
end Go.Proofs.YtdmfdclkpdliaaaGreatDoor
