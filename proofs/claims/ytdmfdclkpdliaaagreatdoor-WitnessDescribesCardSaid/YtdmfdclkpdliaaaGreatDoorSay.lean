/- How an answer is written, in plain lists of bytes, and what the memory of a network and of an answer shows. No program's call stands here. -/
import Derived.WalkKit
import Derived.Below
import Derived.Deep.MidRow
import Derived.Lib.ItoaNum
import Derived.Lib.Join
namespace Go.Proofs.YtdmfdclkpdliaaaGreatDoor
open Go Go.RowKit

/- an address in dotted form -/
def oct (x k : Nat) : Nat := x / 2 ^ k % 256
def octs (x : Nat) : Nat → List UInt8
  | 0 => []
  | k + 1 => octs x k ++ ((if k = 0 then [] else [46]) ++ Lib.decDigits (oct x (24 - 8 * k)))
def fmtA (x : Nat) : List UInt8 := octs x 4

structure Pk where
  src : Nat
  dst : Nat
  proto : Int
  sport : Int
  dport : Int
def pkT (p : Pk) : List UInt8 := fmtA p.src ++ [32] ++ fmtA p.dst ++ [32] ++ Lib.itoa p.proto ++ [32] ++ Lib.itoa p.sport ++ [32] ++ Lib.itoa p.dport
def I64 (n : Int) : Prop := -9223372036854775808 ≤ n ∧ n ≤ 9223372036854775807
structure Pk.Ok (p : Pk) : Prop where
  src : p.src < 4294967296
  dst : p.dst < 4294967296
  proto : I64 p.proto
  sport : I64 p.sport
  dport : I64 p.dport
def Pk.cells (p : Pk) : List Value := [.int .u32 p.src, .int .u32 p.dst, .int .i64 p.proto, .int .i64 p.sport, .int .i64 p.dport]

/- a router: its name, its interfaces' names -/
structure Rt where
  name : ByteArray
  ifs : List ByteArray
def Rt.Ok (r : Rt) : Prop := r.name.size ≤ 50 ∧ r.ifs.length ≤ 20 ∧ ∀ x ∈ r.ifs, x.size ≤ 50
def NetOk (rs : List Rt) : Prop := rs.length ≤ 8 ∧ ∀ r ∈ rs, r.Ok
/- a place: exists? and its text -/
def placeOk (rs : List Rt) (r i : Int) : Bool :=
  if 0 ≤ r then match rs[r.toNat]? with
    | some x => decide (i = -1) || (decide (0 ≤ i) && decide (i < x.ifs.length))
    | none => false
  else false
def placeT (rs : List Rt) (r i : Int) : List UInt8 :=
  match rs[r.toNat]? with
  | some x => if i = -1 then x.name.data.toList else x.name.data.toList ++ [58] ++ ((x.ifs[i.toNat]?).getD ⟨#[]⟩).data.toList
  | none => []

/- the word of a kind of moves -/
def wordT (k : Int) : List UInt8 :=
  if k = 1 then [115, 101, 110, 116] else if k = 2 then [97, 99, 99, 101, 112, 116, 101, 100] else if k = 3 then [101, 120, 105, 116, 101, 100]
  else if k = 4 then [100, 101, 110, 105, 101, 100, 45, 105, 110] else if k = 5 then [100, 101, 110, 105, 101, 100, 45, 111, 117, 116]
  else if k = 6 then [110, 111, 45, 114, 111, 117, 116, 101] else if k = 7 then [100, 105, 115, 99, 97, 114, 100, 101, 100]
  else if k = 8 then [110, 111, 45, 110, 101, 105, 103, 104, 98, 111, 114] else []

structure Mov where
  kind : Int
  r : Int
  i : Int
  p : Pk
def Mov.Ok (m : Mov) : Prop := I64 m.kind ∧ I64 m.r ∧ I64 m.i ∧ m.p.Ok
def Mov.cells (m : Mov) : List Value := [.int .i64 m.kind, .int .i64 m.r, .int .i64 m.i] ++ m.p.cells
def movOk (rs : List Rt) (m : Mov) : Bool := decide (1 ≤ m.kind) && decide (m.kind ≤ 8) && placeOk rs m.r m.i
def movT (rs : List Rt) (m : Mov) : List UInt8 := wordT m.kind ++ [32] ++ placeT rs m.r m.i ++ [32] ++ pkT m.p

structure An where
  verdict : Int
  down : List Int
  r : Int
  i : Int
  p : Pk
  path : List Mov
  loop : Int
  other : Pk
/- the first line, after k of the links that are down -/
def downT : List Int → List UInt8
  | [] => []
  | d :: l => [32] ++ Lib.itoa d ++ downT l
def headT (v : Int) : List UInt8 := if v = 1 then [121, 101, 115] else if v = 2 then [110, 111] else [117, 110, 115, 116, 97, 98, 108, 101]
def firstT (v : Int) (down : List Int) (k : Nat) : List UInt8 := headT v ++ (if down = [] then [] else [32, 100, 111, 119, 110]) ++ downT (down.take k)
def otherZero (p : Pk) : Bool := decide (p.src = 0) && decide (p.dst = 0) && decide (p.proto = 0) && decide (p.sport = 0) && decide (p.dport = 0)
def startT (rs : List Rt) (a : An) : List UInt8 := [115, 116, 97, 114, 116, 32] ++ placeT rs a.r a.i ++ [32] ++ pkT a.p
def loopT (n : Int) : List (List UInt8) := if n = -1 then [] else [[108, 111, 111, 112, 32] ++ Lib.itoa n]
def otherT (p : Pk) : List (List UInt8) := if otherZero p = true then [] else [[111, 116, 104, 101, 114, 32] ++ pkT p]
def ansOk (rs : List Rt) (a : An) : Bool :=
  if a.verdict = 2 then placeOk rs a.r a.i && a.path.all (movOk rs) else decide (a.verdict = 1) || decide (a.verdict = 3)
def ansT (rs : List Rt) (a : An) : List (List UInt8) :=
  firstT a.verdict a.down a.down.length :: (if a.verdict = 2 then startT rs a :: (a.path.map (movT rs) ++ loopT a.loop ++ otherT a.other) else [])

theorem downT_append (l : List Int) (d : Int) : downT (l ++ [d]) = downT l ++ ([32] ++ Lib.itoa d) := by
  induction l with
  | nil => simp [downT]
  | cons x l ih => simp [downT, ih, List.append_assoc]

/- the lengths -/
theorem digits_le {n : Nat} (h : n < 256) : (Lib.decDigits n).length ≤ 3 := by
  rw [Lib.decDigits_length]
  by_cases h10 : n < 10
  · rw [Lib.nDigits_small h10]; omega
  · rw [Lib.nDigits_big h10]
    by_cases h100 : n / 10 < 10
    · rw [Lib.nDigits_small h100]; omega
    · rw [Lib.nDigits_big h100, Lib.nDigits_small (by omega)]; omega
theorem octs_le (x : Nat) : ∀ k, (octs x k).length ≤ 4 * k
  | 0 => Nat.le_refl _
  | k + 1 => by
    have h1 := octs_le x k
    have h2 := digits_le (n := oct x (24 - 8 * k)) (Nat.mod_lt _ (by omega))
    simp only [octs, List.length_append]
    split <;> simp <;> omega
theorem fmtA_le (x : Nat) : (fmtA x).length ≤ 16 := octs_le x 4

end Go.Proofs.YtdmfdclkpdliaaaGreatDoor
