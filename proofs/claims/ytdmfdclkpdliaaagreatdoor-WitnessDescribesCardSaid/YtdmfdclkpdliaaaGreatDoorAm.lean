/- An abstract machine of our own over the model's code: values with block names in place of addresses, one order for each region, no tape. Definitions alone; that what it returns is what every run returns is proved in the texts behind this one. No condition. -/
import GoSem.Dispatch
namespace Go.Proofs.YtdmfdclkpdliaaaGreatDoor
namespace Am
open Go

/- a map from numbers -/
inductive Tr (α : Type) where
  | lf
  | nd (l : Tr α) (v : Option α) (r : Tr α)

def Tr.get {α : Type} : Tr α → Nat → Option α
  | .lf, _ => none
  | .nd l v r, k => if k = 0 then v else if k % 2 = 1 then l.get (k / 2) else r.get (k / 2 - 1)

def Tr.putF {α : Type} : Nat → Tr α → Nat → Option α → Tr α
  | 0, _, _, _ => .lf
  | f + 1, .lf, k, x => if k = 0 then .nd .lf x .lf else if k % 2 = 1 then .nd (Tr.putF f .lf (k / 2) x) none .lf else .nd .lf none (Tr.putF f .lf (k / 2 - 1) x)
  | f + 1, .nd l v r, k, x => if k = 0 then .nd l x r else if k % 2 = 1 then .nd (Tr.putF f l (k / 2) x) v r else .nd l v (Tr.putF f r (k / 2 - 1) x)

def Tr.put {α : Type} (t : Tr α) (k : Nat) (x : Option α) : Tr α := Tr.putF 40 t k x

/- abstract values. A slice: block, offset in cells, length, how much capacity is known, whether that is all (2), at least (1), or of no use to append (0), and the cells of an element -/
inductive AV where
  | bool (b : Bool)
  | int (k : IntKind) (n : Int)
  | str (s : List UInt8)
  | ptr (b o : Nat)
  | loc (t g o : Nat)
  | nilptr
  | slice (b o len cap ex sz : Nat)
  | nilslice
  | map (b : Nat)
  | nilmap
  | func (f : FuncId) (first captured : List AV)
  | nilfunc
  | iface (t : TypeId) (v : AV)
  | niliface
  | agg (cs : List AV)
  | tup (vs : List AV)

def AV.cells : AV → List AV
  | .agg cs => cs
  | v => [v]

def AV.undef : AV := .tup []
def AV.one : AV → Bool
  | .agg _ | .tup _ => false
  | _ => true
def AV.ofList (F : Value → Option AV) : List Value → Option (List AV)
  | [] => some []
  | v :: r => match F v with
    | some a => match AV.ofList F r with
      | some s => some (a :: s)
      | none => none
    | none => none
def AV.ofD : Nat → Value → Option AV
  | _, .bool b => some (.bool b)
  | _, .int k n => some (.int k n)
  | _, .string s => some (.str s.data.toList)
  | _, .pointer none => some .nilptr
  | _, .slice none 0 0 => some .nilslice
  | _, .map none => some .nilmap
  | _, .nilFunc => some .nilfunc
  | _, .nilIface => some .niliface
  | d + 1, .agg cs => match AV.ofList (AV.ofD d) cs.toList with
    | some l => if l.all AV.one then some (.agg l) else none
    | none => none
  | _, _ => none
def AV.ofV (v : Value) : Option AV := AV.ofD 3 v

/- what a type is, as far as the machine asks -/
inductive TD where
  | int (k : IntKind) | bool | string | pointer | slice (elem : TypeId) | array (len : Nat) (elem : TypeId) | map (key elem : TypeId) | struct (fs : List (Nat × TypeId × Bool)) | func | other
structure TI where
  td : TD
  size : Nat
  bytes : Nat
  zero : List AV
  agg : Bool
  plain : Bool   -- no interface to be compared in it, nothing that the model stands in for

inductive Blk where
  | cells (cs : List AV) (elem : TypeId)
  | fixed (cs : List AV) (elem : TypeId)                     -- not to be written
  | map (es : List (AV × AV))

structure Heap where
  base : Nat → Option Blk
  off : Nat
  tr : Tr Blk

def Heap.get (h : Heap) (b : Nat) : Option Blk := if b < h.off then h.base b else h.tr.get (b - h.off)
def Heap.put (h : Heap) (b : Nat) (x : Option Blk) : Heap := if b < h.off then { h with base := fun k => if k = b then x else h.base k } else { h with tr := h.tr.put (b - h.off) x }

/- the state of a frame: registers, boxes of its own (by the register that holds the address), the next name, the least name that was written, the heap -/
structure St where
  regs : Tr AV
  locs : Tr (Nat × List AV)
  n : Nat
  lo : Nat
  h : Heap
  nt : Nat     -- how many registers there are

inductive Ex where
  | normal | exit (id : Nat) | ret

structure Res where
  v : AV
  n : Nat
  lo : Nat
  h : Heap

abbrev Fun := List AV → Nat → Heap → Option Res

structure Tab where
  ti : TypeId → Option TI
  fn : FuncId → Option (Func × List Tmp)
  prim : FuncId → Option Fun

/- integers -/
def ilt : Int → Int → Bool
  | .ofNat a, .ofNat b => Nat.blt a b
  | .ofNat _, .negSucc _ => false
  | .negSucc _, .ofNat _ => true
  | .negSucc a, .negSucc b => Nat.blt b a
def ieq : Int → Int → Bool
  | .ofNat a, .ofNat b => Nat.beq a b
  | .negSucc a, .negSucc b => Nat.beq a b
  | _, _ => false
def toNat? : Int → Option Nat
  | .ofNat a => some a
  | .negSucc _ => none
def keq : IntKind → IntKind → Bool
  | .i8, .i8 | .i16, .i16 | .i32, .i32 | .i64, .i64 | .u8, .u8 | .u16, .u16 | .u32, .u32 | .u64, .u64 => true
  | _, _ => false
def beq8 (a b : UInt8) : Bool := Nat.beq a.toNat b.toNat
def seq : List UInt8 → List UInt8 → Bool
  | [], [] => true
  | a :: r, b :: s => if beq8 a b then seq r s else false
  | _, _ => false

def intBin (op : BinOp) (k : IntKind) (a b : Int) : Option AV :=
  match op with
  | .add => some (.int k (k.wrap (a + b)))
  | .sub => some (.int k (k.wrap (a - b)))
  | .mul => some (.int k (k.wrap (a * b)))
  | .quo => if ieq b 0 then none else some (.int k (k.wrap (a.tdiv b)))
  | .rem => if ieq b 0 then none else some (.int k (a.tmod b))
  | .and => some (.int k (k.wrap (BitVec.ofInt k.bits a &&& BitVec.ofInt k.bits b).toNat))
  | .or => some (.int k (k.wrap (BitVec.ofInt k.bits a ||| BitVec.ofInt k.bits b).toNat))
  | .xor => some (.int k (k.wrap (BitVec.ofInt k.bits a ^^^ BitVec.ofInt k.bits b).toNat))
  | .andNot => some (.int k (k.wrap (BitVec.ofInt k.bits a &&& ~~~ BitVec.ofInt k.bits b).toNat))
  | .eql => some (.bool (ieq a b))
  | .neq => some (.bool (!ieq a b))
  | .lss => some (.bool (ilt a b))
  | .leq => some (.bool (!ilt b a))
  | .gtr => some (.bool (ilt b a))
  | .geq => some (.bool (!ilt a b))
  | _ => none
def shiftBin (op : BinOp) (k : IntKind) (a b : Int) : Option AV :=
  match toNat? b with
  | none => none
  | some y =>
    let m := min y k.bits
    match op with
    | .shl => some (.int k (k.wrap (a * 2 ^ m)))
    | .shr => some (.int k (a.fdiv (2 ^ m)))
    | _ => none

/- equality at a type of plain parts: the type's own fields, one by one -/
def partOf (agg : Bool) (size : Nat) (cs : List AV) (off : Nat) : Option AV :=
  if agg then (if off + size ≤ cs.length then some (.agg ((cs.drop off).take size)) else none) else cs[off]?
def eqFields (T : Tab) (E : TypeId → AV → AV → Option Bool) : List (Nat × TypeId × Bool) → List AV → List AV → Option Bool
  | [], _, _ => some true
  | (off, ft, blank) :: fs, xs, ys =>
    if blank then eqFields T E fs xs ys else
    match T.ti ft with
    | none => none
    | some fi =>
      match partOf fi.agg fi.size xs off, partOf fi.agg fi.size ys off with
      | some a, some b =>
        match E ft a b with
        | some true => eqFields T E fs xs ys
        | some false => some false
        | none => none
      | _, _ => none
def eqAt (T : Tab) : Nat → TypeId → AV → AV → Option Bool
  | 0, _, _, _ => none
  | d + 1, t, x, y =>
    match T.ti t with
    | none => none
    | some i =>
      match i.td, x, y with
      | .bool, .bool a, .bool b => some (a == b)
      | .int _, .int k a, .int k' b => if keq k k' then some (ieq a b) else none
      | .string, .str a, .str b => some (seq a b)
      | .pointer, .nilptr, .nilptr => some true
      | .pointer, .nilptr, .ptr .. | .pointer, .ptr .., .nilptr | .pointer, .nilptr, .loc .. | .pointer, .loc .., .nilptr => some false
      | .slice _, .nilslice, .nilslice => some true
      | .slice _, .nilslice, .slice .. | .slice _, .slice .., .nilslice => some false
      | .func, .nilfunc, .nilfunc => some true
      | .func, .nilfunc, .func .. | .func, .func .., .nilfunc => some false
      | .struct fs, .agg xs, .agg ys => if i.plain then eqFields T (eqAt T d) fs xs ys else none
      | _, _, _ => none

def binop (T : Tab) (op : BinOp) (t : TypeId) (x y : AV) : Option AV :=
  match op, x, y with
  | .shl, .int k a, .int _ b => shiftBin .shl k a b
  | .shr, .int k a, .int _ b => shiftBin .shr k a b
  | op, .int k a, .int k' b => if keq k k' then intBin op k a b else none
  | .add, .str a, .str b => if a.length + b.length ≤ 140737488355328 then some (.str (a ++ b)) else none
  | .eql, .str a, .str b => some (.bool (seq a b))
  | .neq, .str a, .str b => some (.bool (!seq a b))
  | .eql, x, y => match eqAt T 20 t x y with
    | some b => some (.bool b)
    | none => none
  | .neq, x, y => match eqAt T 20 t x y with
    | some b => some (.bool (!b))
    | none => none
  | _, _, _ => none

def unop (op : UnOp) (x : AV) : Option AV :=
  match op, x with
  | .not, .bool b => some (.bool (!b))
  | .neg, .int k a => some (.int k (k.wrap (0 - a)))
  | .xor, .int k a => intBin .xor k (if k.signed then -1 else k.max) a
  | _, _ => none

/- memory -/
def splice (cs : List AV) (o : Nat) (vs : List AV) : List AV := cs.take o ++ vs ++ cs.drop (o + vs.length)
def cellsAt (cs : List AV) (o n : Nat) : Option (List AV) := if o + n ≤ cs.length then some ((cs.drop o).take n) else none
def shaped (agg : Bool) : List AV → Option AV
  | cs => if agg then some (.agg cs) else match cs with
    | [v] => some v
    | _ => none
def Heap.cells (h : Heap) (b : Nat) : Option (List AV) :=
  match h.get b with
  | some (.cells cs ..) | some (.fixed cs _) => some cs
  | _ => none
def St.cellsOf (s : St) : AV → Option (List AV × Nat)
  | .ptr b o => match s.h.cells b with
    | some cs => some (cs, o)
    | none => none
  | .loc t g o => match s.locs.get t with
    | some (g', cs) => if Nat.beq g g' then some (cs, o) else none
    | none => none
  | _ => none
def Heap.write (h : Heap) (b o : Nat) (vs : List AV) : Option Heap :=
  match h.get b with
  | some (.cells cs e) => if o + vs.length ≤ cs.length then some (h.put b (some (.cells (splice cs o vs) e))) else none
  | _ => none
def St.store (s : St) (a : AV) (vs : List AV) : Option St :=
  match a with
  | .ptr b o => match s.h.write b o vs with
    | some h => some { s with h, lo := min s.lo b }
    | none => none
  | .loc t g o => match s.locs.get t with
    | some (g', cs) => if Nat.beq g g' then (if o + vs.length ≤ cs.length then some { s with locs := s.locs.put t (some (g, splice cs o vs)) } else none) else none
    | none => none
  | _ => none
def AV.move (a : AV) (d : Nat) : Option AV :=
  match a with
  | .ptr b o => some (.ptr b (o + d))
  | .loc t g o => some (.loc t g (o + d))
  | _ => none
/- a new block, or a box of the frame's own -/
def St.new (s : St) (cs : List AV) (e : TypeId) : Nat × St := (s.n, { s with n := s.n + 1, h := s.h.put s.n (some (.cells cs e)) })
def St.boxed (s : St) (esc : List Tmp) (dst : Option Tmp) (cs : List AV) (e : TypeId) : AV × St :=
  match dst with
  | some d => if esc.any (Nat.beq d) then (.ptr s.n 0, (s.new cs e).2) else (.loc d s.n 0, { s with n := s.n + 1, locs := s.locs.put d (some (s.n, cs)) })
  | none => (.ptr s.n 0, (s.new cs e).2)

/- cells of an aggregate out of parts -/
def fillAt (place : Nat → Option (Nat × Nat)) : List AV → List (Nat × AV) → Option (List AV)
  | cs, [] => some cs
  | cs, (i, v) :: r => match place i with
    | none => none
    | some (off, size) => if Nat.beq v.cells.length size && Nat.ble (off + size) cs.length && v.cells.all AV.one then fillAt place (splice cs off v.cells) r else none
def rep (n : Nat) (z : List AV) : List AV := Nat.rec [] (fun _ r => z ++ r) n

def elemsOf (s : St) (size : Nat) : AV → Option (Nat × List AV)
  | .nilslice => some (0, [])
  | .slice b o len _ _ _ => match s.h.cells b with
    | some cs => match cellsAt cs o (len * size) with
      | some vs => some (len, vs)
      | none => none
    | none => none
  | .str l => if Nat.beq size 1 then some (l.length, l.map fun c => .int .u8 c.toNat) else none
  | _ => none

/- what is appended: a slice's or a string's elements, or so many zero values ('append(s, make([]E, n)...)': then the second type is an integer's) -/
def addedOf (T : Tab) (xt : TypeId) (s : St) (ei : TI) (x : AV) : Option (Nat × List AV) :=
  match T.ti xt with
  | some { td := .int _, .. } => match x with
    | .int .i64 (.ofNat m) => if Nat.ble (m * ei.bytes) 140737488355328 && Nat.blt m 9223372036854775808 then some (m, rep m ei.zero) else none
    | _ => none
  | some { td := .slice _, .. } => elemsOf s ei.size x
  | some { td := .string, .. } => elemsOf s ei.size x
  | _ => none

def append (T : Tab) (st xt : TypeId) (s : St) (a x : AV) : Option (AV × St) :=
  match T.ti st with
  | some { td := .slice e, .. } =>
    match T.ti e with
    | none => none
    | some ei =>
      match addedOf T xt s ei x with
      | none => none
      | some (m, vs) =>
        if Nat.beq m 0 then (match a with
          | .nilslice => some (.nilslice, s)
          | .slice b o len cap ex sz => some (.slice b o len cap ex sz, s)
          | _ => none) else
        match a with
        | .nilslice => if Nat.ble (m * ei.bytes) 140737488355328 && Nat.blt m 9223372036854775808 && Nat.blt 0 ei.bytes then
            some (.slice s.n 0 m m 1 ei.size, { s with n := s.n + 1, h := s.h.put s.n (some (.cells vs e)) }) else none
        | .slice b o len cap ex sz =>
          if !(Nat.ble ((len + m) * ei.bytes) 140737488355328 && Nat.blt (len + m) 9223372036854775808 && Nat.blt 0 ei.bytes && (Nat.beq sz ei.size)) then none else
          match s.h.get b with
          | some (.cells cs be) =>
            if Nat.beq ex 2 && Nat.ble (len + m) cap then
              (if o + (len + m) * sz ≤ cs.length then some (.slice b o (len + m) cap 2 sz, { s with lo := min s.lo b, h := s.h.put b (some (.cells (splice cs (o + len * sz) vs) be)) }) else none)
            else match cellsAt cs o (len * sz) with
              | none => none
              | some old =>
                let s' := { s with n := s.n + 1, lo := min s.lo b, h := s.h.put s.n (some (.cells (old ++ vs) e)) }
                if Nat.beq ex 2 then some (.slice s.n 0 (len + m) (len + m) 1 sz, { s' with lo := s.lo })
                else if Nat.beq ex 1 && Nat.beq o 0 then some (.slice s.n 0 (len + m) (len + m) 1 sz, { s' with h := s'.h.put b none })
                else none
          | some (.fixed cs _) =>
            if Nat.beq ex 2 && Nat.blt cap (len + m) then (match cellsAt cs o (len * sz) with
              | none => none
              | some old => some (.slice s.n 0 (len + m) (len + m) 1 sz, { s with n := s.n + 1, h := s.h.put s.n (some (.cells (old ++ vs) e)) }))
            else none
          | _ => none
        | _ => none
  | _ => none

def bound (v : AV) (y : Nat) : Option Nat :=
  match v with
  | .int _ i => match toNat? i with
    | some a => if Nat.ble a y then some a else none
    | none => none
  | _ => none
def bounds (len cap : Nat) (lo hi mx : Option AV) : Option (Nat × Nat × Nat) :=
  match (match mx with | some v => bound v cap | none => some cap) with
  | none => none
  | some m =>
    match (match hi with | some v => bound v m | none => if mx.isSome then none else some len) with
    | none => none
    | some h =>
      match (match lo with | some v => bound v h | none => some 0) with
      | none => none
      | some l => some (l, h, m)
def slice (T : Tab) (t : TypeId) (s : St) (x : AV) (lo hi mx : Option AV) : Option AV :=
  match T.ti t with
  | none => none
  | some i =>
    match i.td, x with
    | .string, .str x => if mx.isSome then none else match bounds x.length x.length lo hi none with
      | some (l, h, _) => some (.str ((x.drop l).take (h - l)))
      | none => none
    | .slice e, .nilslice => match T.ti e, bounds 0 0 lo hi mx with
      | some _, some _ => some .nilslice
      | _, _ => none
    | .slice e, .slice b o len cap ex sz =>
      match T.ti e with
      | none => none
      | some ei =>
        match bounds len cap lo hi mx with
        | none => none
        | some (l, h, m) =>
          if !Nat.beq sz ei.size then none
          else if mx.isSome || Nat.beq ex 2 then some (.slice b (if Nat.beq m l then o else o + l * sz) (h - l) (m - l) 2 sz)
          else if Nat.blt l m || Nat.beq l 0 then some (.slice b (o + l * sz) (h - l) (m - l) ex sz)
          else none
    | .array n e, .ptr b o =>
      match T.ti e with
      | none => none
      | some ei =>
        match bounds n n lo hi mx, s.h.cells b with
        | some (l, h, m), some cs => if Nat.ble (o + n * ei.size) cs.length then some (.slice b (if Nat.beq m l then o else o + l * ei.size) (h - l) (m - l) 2 ei.size) else none
        | _, _ => none
    | _, _ => none

/- maps -/
def keyFields (T : Tab) (K : TypeId → AV → Bool) (cs : List AV) : List (Nat × TypeId × Bool) → Bool
  | [] => true
  | (off, ft, blank) :: fs => !blank && (match T.ti ft with
    | none => false
    | some fi => match partOf fi.agg fi.size cs off with
      | some a => K ft a
      | none => false) && keyFields T K cs fs
def keyOk (T : Tab) : Nat → TypeId → AV → Bool
  | 0, _, _ => false
  | d + 1, t, v =>
    match T.ti t with
    | none => false
    | some i => match i.td, v with
      | .int _, .int .. | .bool, .bool _ | .string, .str _ => true
      | .struct fs, .agg cs => keyFields T (keyOk T d) cs fs
      | _, _ => false
def findIn (T : Tab) (kt : TypeId) (k : AV) : List (AV × AV) → Nat → Option (Option (Nat × AV))
  | [], _ => some none
  | (x, v) :: es, i => match eqAt T 20 kt k x with
    | some true => some (some (i, v))
    | some false => findIn T kt k es (i + 1)
    | none => none
def mapOf (s : St) : AV → Option (List (AV × AV))
  | .nilmap => some []
  | .map b => match s.h.get b with
    | some (.map es) => some es
    | _ => none
  | _ => none
def lookup (T : Tab) (t : TypeId) (s : St) (m k : AV) (ok : Bool) : Option AV :=
  match T.ti t with
  | some { td := .map kt et, .. } =>
    match mapOf s m, keyOk T 20 kt k, T.ti et with
    | some es, true, some ei =>
      match findIn T kt k es 0 with
      | some (some (_, v)) => some (if ok then .tup [v, .bool true] else v)
      | some none => match shaped ei.agg ei.zero with
        | some z => some (if ok then .tup [z, .bool false] else z)
        | none => none
      | none => none
    | _, _, _ => none
  | _ => none
def mapPut (T : Tab) (t : TypeId) (s : St) (m k v : AV) : Option St :=
  match T.ti t, m with
  | some { td := .map kt _, .. }, .map b =>
    match s.h.get b, keyOk T 20 kt k with
    | some (.map es), true =>
      match findIn T kt k es 0 with
      | some none => some { s with lo := min s.lo b, h := s.h.put b (some (.map (es ++ [(k, v)]))) }
      | _ => none
    | _, _ => none
  | _, _ => none

def Tr.val (r : Tr AV) : Operand → Option AV
  | .tmp t => r.get t
  | .const v => AV.ofV v
  | .func f => some (.func f [] [])
  | .global _ => none
def vals (r : Tr AV) : List Operand → Option (List AV)
  | [] => some []
  | x :: xs => match r.val x with
    | none => none
    | some v => match vals r xs with
      | none => none
      | some vs => some (v :: vs)
def optVal (r : Tr AV) : Option Operand → Option (Option AV)
  | none => some none
  | some x => match r.val x with
    | none => none
    | some v => some (some v)
def pairVals (r : Tr AV) : List (Nat × Operand) → Option (List (Nat × AV))
  | [] => some []
  | (i, x) :: xs => match r.val x with
    | none => none
    | some v => match pairVals r xs with
      | none => none
      | some vs => some ((i, v) :: vs)

def lenOf (T : Tab) (t : TypeId) (s : St) (x : AV) : Option Nat :=
  match T.ti t with
  | none => none
  | some i => match i.td, x with
    | .string, .str l => some l.length
    | .slice _, .slice _ _ len .. => some len
    | .slice _, .nilslice => some 0
    | .map _ _, .map b => match s.h.get b with
      | some (.map es) => some es.length
      | _ => none
    | .map _ _, .nilmap => some 0
    | _, _ => none

def St.took (s : St) : Option Res → Option (AV × St)
  | some r => some (r.v, { s with n := r.n, lo := min s.lo r.lo, h := r.h })
  | none => none

def minMax (mx : Bool) : AV → List AV → Option AV
  | v, [] => some v
  | .int k a, .int _ b :: r => minMax mx (.int k (if (if mx then ilt a b else ilt b a) then b else a)) r
  | _, _ => none

def copy (T : Tab) (t : TypeId) (s : St) (d x : AV) : Option (AV × St) :=
  match T.ti t with
  | some { td := .slice e, .. } =>
    match T.ti e with
    | none => none
    | some ei =>
      match elemsOf s ei.size x, d with
      | some _, .nilslice => some (.int .i64 0, s)
      | some (m, vs), .slice b o len _ _ sz =>
        if !Nat.beq sz ei.size then none else
        let n := min m len
        match s.h.write b o (vs.take (n * ei.size)) with
        | some h => some (.int .i64 n, { s with h, lo := min s.lo b })
        | none => none
      | _, _ => none
  | _ => none

def builtin (T : Tab) (b : Builtin) (ts : List TypeId) (s : St) (args : List AV) : Option (AV × St) :=
  match b, ts, args with
  | .len, t :: _, [x] => match lenOf T t s x with
    | some n => some (.int .i64 n, s)
    | none => none
  | .cap, t :: _, [x] => match T.ti t with
    | some { td := .slice _, .. } => (match x with
      | .slice _ _ _ cap ex _ => if Nat.beq ex 2 then some (.int .i64 cap, s) else none
      | .nilslice => some (.int .i64 0, s)
      | _ => none)
    | _ => none
  | .append, t :: u :: _, [a, x] => append T t u s a x
  | .copy, t :: _, [d, x] => copy T t s d x
  | .min, _, x :: r => match minMax false x r with
    | some v => some (v, s)
    | none => none
  | .max, _, x :: r => match minMax true x r with
    | some v => some (v, s)
    | none => none
  | _, _, _ => none

def structPlace (T : Tab) (fs : List (Nat × TypeId × Bool)) (i : Nat) : Option (Nat × Nat) :=
  match fs[i]? with
  | none => none
  | some (off, ft, _) => match T.ti ft with
    | none => none
    | some fi => some (off, fi.size)

def bytesOf : List AV → Option (List UInt8)
  | [] => some []
  | .int .u8 n :: r => match toNat? n, bytesOf r with
    | some a, some l => some (UInt8.ofNat a :: l)
    | _, _ => none
  | _ => none

def convert (T : Tab) (src dst : TypeId) (s : St) (x : AV) : Option AV :=
  match T.ti src, T.ti dst with
  | some si, some i => match i.td, x with
    | .int k, .int _ n => some (.int k (k.wrap n))
    | .string, .str l => some (.str l)
    | .string, x => match si.td with
      | .slice e => (match T.ti e with
        | some { td := .int .u8, .. } => (match elemsOf s 1 x with
          | some (_, vs) => match bytesOf vs with
            | some l => some (.str l)
            | none => none
          | none => none)
        | _ => none)
      | _ => none
    | _, _ => none
  | _, _ => none

def val (s : St) (o : Option AV) : Option (AV × St) :=
  match o with
  | some v => some (v, s)
  | none => none
def unit (o : Option St) : Option (AV × St) :=
  match o with
  | some s => some (AV.undef, s)
  | none => none

def doOp (T : Tab) (C : FuncId → Fun) (esc : List Tmp) (o : Oper) (s : St) : Option (AV × St) :=
  let ρ := s.regs.val
  match o.op with
  | .move x | .assign x => val s (ρ x)
  | .pick c a b => match ρ c with
    | some (.bool t) => val s (if t then ρ a else ρ b)
    | _ => none
  | .alloc e => match T.ti e with
    | some i => some (s.boxed esc o.dst i.zero e)
    | none => none
  | .box e x => match ρ x with
    | some v => if v.cells.all AV.one then some (s.boxed esc o.dst v.cells e) else none
    | none => none
  | .build t ps => match T.ti t, pairVals s.regs ps.toList with
    | some i, some vs => (match i.td with
      | .struct fs => if fs.all (fun x => (T.ti x.2.1).isSome) then (match fillAt (structPlace T fs) i.zero vs with
        | some cs => some (.agg cs, s)
        | none => none) else none
      | .array _ e => match T.ti e with
        | none => none
        | some ei => match fillAt (fun j => some (j * ei.size, ei.size)) i.zero vs with
          | some cs => some (.agg cs, s)
          | none => none
      | _ => none)
    | _, _ => none
  | .buildSlice t n ps => match T.ti t, pairVals s.regs ps.toList with
    | some { td := .slice e, .. }, some vs => (match T.ti e with
      | none => none
      | some ei => if Nat.ble (n * ei.size) 16777216 && Nat.blt 0 ei.size then (match fillAt (fun j => some (j * ei.size, ei.size)) (rep n ei.zero) vs with
        | some cs => some (.slice s.n 0 n n 2 ei.size, (s.new cs e).2)
        | none => none) else none)
    | _, _ => none
  | .load t a => match T.ti t, ρ a with
    | some i, some av => (match s.cellsOf av with
      | some (cs, of) => (match cellsAt cs of i.size with
        | some vs => val s (shaped i.agg vs)
        | none => none)
      | none => none)
    | _, _ => none
  | .store t a x => match T.ti t, ρ a, ρ x with
    | some i, some av, some v => if Nat.beq v.cells.length i.size && v.cells.all AV.one then unit (s.store av v.cells) else none
    | _, _, _ => none
  | .nilCheck x => match ρ x with
    | some (.ptr b o) => some (.ptr b o, s)
    | some (.loc t g o) => some (.loc t g o, s)
    | _ => none
  | .binOp op t x y _ => match ρ x, ρ y with
    | some a, some b => val s (binop T op t a b)
    | _, _ => none
  | .unOp op _ x => match ρ x with
    | some a => val s (unop op a)
    | none => none
  | .convert e d x => match ρ x with
    | some a => val s (convert T e d s a)
    | none => none
  | .makeFunc (.func f) first captured => match vals s.regs first.toList, vals s.regs captured.toList with
    | some a, some b => some (.func f a b, s)
    | _, _ => none
  | .makeMap _ none => some (.map s.n, { s with n := s.n + 1, h := s.h.put s.n (some (.map [])) })
  | .makeSlice t l c => match T.ti t, ρ l, ρ c with
    | some { td := .slice e, .. }, some (.int .i64 l), some (.int .i64 c) => (match T.ti e, toNat? l, toNat? c with
      | some ei, some l, some c => if Nat.ble l c && Nat.ble (c * ei.bytes) 140737488355328 && Nat.blt c 9223372036854775808 then
          some (.slice s.n 0 l c 2 ei.size, (s.new (rep c ei.zero) e).2) else none
      | _, _, _ => none)
    | _, _, _ => none
  | .slice t x lo hi mx => match ρ x, optVal s.regs lo, optVal s.regs hi, optVal s.regs mx with
    | some v, some l, some h, some m => val s (slice T t s v l h m)
    | _, _, _, _ => none
  | .fieldAddr t x f => match T.ti t, ρ x with
    | some { td := .struct fs, .. }, some a => (match fs[f]? with
      | some (off, ft, _) => (match T.ti ft with
        | some fi => if Nat.blt 0 fi.size then val s (a.move off) else none
        | none => none)
      | none => none)
    | _, _ => none
  | .field t x f => match T.ti t, ρ x with
    | some { td := .struct fs, .. }, some (.agg cs) => (match fs[f]? with
      | some (off, ft, _) => (match T.ti ft with
        | some fi => val s (partOf fi.agg fi.size cs off)
        | none => none)
      | none => none)
    | _, _ => none
  | .indexAddr t x i => match T.ti t, ρ x, ρ i with
    | some ti, some a, some (.int _ n) => (match toNat? n with
      | none => none
      | some i => (match ti.td, a with
        | .slice e, .slice b o len _ _ sz => (match T.ti e with
          | some ei => if Nat.blt i len && Nat.beq ei.size sz then some (.ptr b (o + i * sz), s) else none
          | none => none)
        | .array len e, a => (match T.ti e with
          | some ei => if Nat.blt i len then val s (a.move (i * ei.size)) else none
          | none => none)
        | _, _ => none))
    | _, _, _ => none
  | .index t x i => match T.ti t, ρ x, ρ i with
    | some ti, some a, some (.int _ n) => (match toNat? n with
      | none => none
      | some i => (match ti.td, a with
        | .string, .str l => (match l[i]? with
          | some c => some (.int .u8 c.toNat, s)
          | none => none)
        | .array len e, .agg cs => (match T.ti e with
          | some ei => if Nat.blt i len then val s (partOf ei.agg ei.size cs (i * ei.size)) else none
          | none => none)
        | _, _ => none))
    | _, _, _ => none
  | .lookup t m k ok => match ρ m, ρ k with
    | some mv, some kv => val s (lookup T t s mv kv ok)
    | _, _ => none
  | .mapUpdate t m k v | .insert t m k v => match ρ m, ρ k, ρ v with
    | some mv, some kv, some x => unit (mapPut T t s mv kv x)
    | _, _, _ => none
  | .extract t i => match ρ t with
    | some (.tup vs) => val s vs[i]?
    | _ => none
  | .call { callee := .value f, args, .. } => match ρ f, vals s.regs args.toList with
    | some (.func g first captured), some vs => s.took (C g (first ++ vs ++ captured) s.n s.h)
    | _, _ => none
  | .call { callee := .builtin b, args, argTypes } => match vals s.regs args.toList with
    | some vs => builtin T b argTypes.toList s vs
    | none => none
  | _ => none

def St.putR (s : St) (dst : Option Tmp) (v : AV) : St :=
  match dst with
  | some d => { s with regs := s.regs.put d (some v) }
  | none => s

def St.after (s s' : St) (dst : Option Tmp) (v : AV) : St := { s' with regs := (s.putR dst v).regs, nt := s.nt }
def fits (s : St) : Option Tmp → Bool
  | some d => Nat.blt d s.nt
  | none => true

/- is the operation wanted? -/
def want (ops : List Oper) (o : Oper) (r : Tr AV) : Option Bool :=
  match o.guard with
  | none => some true
  | some (j, b) => match ops[j]? with
    | some { dst := some d, .. } => (match r.get d with
      | some (.bool c) => some (c == b)
      | some _ => some false
      | none => none)
    | _ => none

def oneOp (T : Tab) (C : FuncId → Fun) (esc : List Tmp) (ops : List Oper) (o : Oper) (s : St) : Option St :=
  match want ops o s.regs with
  | some true => (match doOp T C esc o s with
    | some (v, s') => if fits s o.dst && Nat.ble s.n s'.n then some (s.after s' o.dst v) else none
    | none => none)
  | some false => if fits s o.dst then some (s.putR o.dst AV.undef) else none
  | none => none

def inOrder (T : Tab) (C : FuncId → Fun) (esc : List Tmp) (ops : List Oper) : List Oper → St → Option St
  | [], s => some s
  | o :: r, s => match oneOp T C esc ops o s with
    | some s' => inOrder T C esc ops r s'
    | none => none

/- A region whose order is open. What an operation reads and writes are resources: 0 the heap, 2t+1 register t, 2t+2 the box of register t. Each operation runs on a state that holds nothing but what it reads and writes; two operations that no edge orders may not meet at a resource that one of them writes. -/
structure Fx where
  rd : List Nat
  wr : List Nat
  bm : Nat       -- what stands before it, by the edges

def edgeMask (i : Nat) (bms : List Nat) : List Edge → Nat → Option Nat
  | [], m => some m
  | e :: es, m =>
    match e.ground with
    | .textOnly _ | .gcOnly _ => edgeMask i bms es m
    | _ => if Nat.blt e.on i then (match bms[e.on]? with
      | some b => edgeMask i bms es (m ||| (2 ^ e.on) ||| b)
      | none => none) else none

def tmpsOf : List Operand → List Tmp
  | [] => []
  | .tmp t :: r => t :: tmpsOf r
  | _ :: r => tmpsOf r
def guardTmp (ops : List Oper) (o : Oper) : List Tmp :=
  match o.guard with
  | some (j, _) => (match ops[j]? with
    | some { dst := some d, .. } => [d]
    | _ => [])
  | none => []
def dstTmp (o : Oper) : List Tmp :=
  match o.dst with
  | some d => [d]
  | none => []
def regR (t : Nat) : Nat := 2 * t + 1
def locR (t : Nat) : Nat := 2 * t + 2

/- what an operation touches: boxes read, boxes written, heap read, heap written -/
structure Touch where
  lr : List Tmp
  lw : List Tmp
  hr : Bool
  hw : Bool
def touches (esc : List Tmp) (r : Tr AV) (o : Oper) : Option Touch :=
  match o.op with
  | .load _ a => (match r.val a with
    | some (.loc t _ _) => some ⟨[t], [], false, false⟩
    | some (.ptr ..) => some ⟨[], [], true, false⟩
    | _ => none)
  | .store _ a _ => (match r.val a with
    | some (.loc t _ _) => some ⟨[], [t], false, false⟩
    | some (.ptr ..) => some ⟨[], [], true, true⟩
    | _ => none)
  | .alloc _ | .box .. => (match o.dst with
    | some d => if esc.any (Nat.beq d) then some ⟨[], [], true, true⟩ else some ⟨[], [d], false, false⟩
    | none => none)
  | .lookup .. => some ⟨[], [], true, false⟩
  | .convert _ _ x => (match r.val x with
    | some (.int ..) | some (.str _) => some ⟨[], [], false, false⟩
    | _ => some ⟨[], [], true, false⟩)
  | .call { callee := .builtin .len, .. } => some ⟨[], [], true, false⟩
  | .call { callee := .builtin .cap, .. } | .call { callee := .builtin .min, .. } | .call { callee := .builtin .max, .. } => some ⟨[], [], false, false⟩
  | .call _ | .mapUpdate .. | .insert .. | .buildSlice .. | .makeSlice .. | .makeMap .. => some ⟨[], [], true, true⟩
  | .move _ | .assign _ | .pick .. | .build .. | .nilCheck _ | .binOp .. | .unOp .. | .makeFunc .. | .slice .. | .fieldAddr .. | .field .. | .indexAddr .. | .index .. | .extract .. => some ⟨[], [], false, false⟩
  | _ => none

def meets (a b : List Nat) : Bool := a.any fun x => b.any (Nat.beq x)
def clash (f g : Fx) : Bool := meets f.wr g.rd || meets f.wr g.wr || meets f.rd g.wr
def clashes (g : Fx) : Nat → List Fx → Bool
  | _, [] => false
  | j, f :: fs => (if g.bm.testBit j then false else clash f g) || clashes g (j + 1) fs

def pickR {α : Type} (r : Tr α) : List Nat → Tr α
  | [] => .lf
  | t :: ts => (pickR r ts).put t (r.get t)
def mergeL (l m : Tr (Nat × List AV)) : List Tmp → Tr (Nat × List AV)
  | [] => l
  | t :: ts => (mergeL l m ts).put t (m.get t)
def noHeap : Heap := { base := fun _ => none, off := 0, tr := .lf }

def drawOne (T : Tab) (C : FuncId → Fun) (esc : List Tmp) (ops : List Oper) (bm : Nat) (o : Oper) (s : St) : Option (Fx × St) :=
  match want ops o s.regs with
  | none => none
  | some false => if fits s o.dst then some ({ rd := (guardTmp ops o).map regR, wr := (dstTmp o).map regR, bm }, s.putR o.dst AV.undef) else none
  | some true =>
    let rt := tmpsOf o.op.operands.toList
    match touches esc s.regs o with
    | none => none
    | some c =>
      match doOp T C esc o { regs := pickR s.regs rt, locs := pickR s.locs (c.lr ++ c.lw), n := s.n, lo := s.n, h := if c.hr then s.h else noHeap, nt := s.nt } with
      | none => none
      | some (v, s') =>
        if fits s o.dst && Nat.ble s.n s'.n then
          some ({ rd := rt.map regR ++ (guardTmp ops o).map regR ++ c.lr.map locR ++ (if c.hr then [0] else []), wr := (dstTmp o).map regR ++ c.lw.map locR ++ (if c.hw then [0] else []), bm },
            { (s.putR o.dst v) with locs := mergeL s.locs s'.locs c.lw, n := s'.n, lo := min s.lo s'.lo, h := if c.hw then s'.h else s.h })
        else none

def drawAll (T : Tab) (C : FuncId → Fun) (esc : List Tmp) (ops : List Oper) : Nat → List Oper → List Nat → List Fx → St → Option St
  | _, [], _, _, s => some s
  | i, o :: r, bms, done, s =>
    match edgeMask i bms o.after.toList 0 with
    | none => none
    | some bm => match drawOne T C esc ops bm o s with
      | none => none
      | some (f, s') => if clashes f 0 done then none else drawAll T C esc ops (i + 1) r (bms ++ [bm]) (done ++ [f]) s'

def drawn (T : Tab) (C : FuncId → Fun) (esc : List Tmp) (ops : List Oper) (s : St) : Option St := drawAll T C esc ops 0 ops [] [] s

/- code -/
def iter (body : St → Option (Ex × St)) (k : Nat) : St → Option (Ex × St) :=
  Nat.rec (fun _ => none) (fun _ ih s => match body s with
    | some (.normal, s') => ih s'
    | r => r) k

def exec (T : Tab) (C : FuncId → Fun) (esc : List Tmp) (k : Nat) : Code → St → Option (Ex × St)
  | .skip, s => some (.normal, s)
  | .region _ ops draw, s => match (if draw then drawn T C esc ops.toList s else inOrder T C esc ops.toList ops.toList s) with
    | some s' => some (.normal, s')
    | none => none
  | .seq a b, s => match exec T C esc k a s with
    | some (.normal, s') => exec T C esc k b s'
    | r => r
  | .cond c x y, s => match s.regs.val c with
    | some (.bool true) => exec T C esc k x s
    | some (.bool false) => exec T C esc k y s
    | _ => none
  | .block id c, s => match exec T C esc k c s with
    | some (.exit j, s') => if Nat.beq j id then some (.normal, s') else some (.exit j, s')
    | r => r
  | .loop c, s => iter (exec T C esc k c) k s
  | .exit id, s => some (.exit id, s)
  | .ret, s => some (.ret, s)
  | .label _, s => some (.normal, s)
  | .rangeFunc .., _ | .scope _, _ | .goto _, _ | .refuse _, _ => none

def setAll : List AV → Nat → Tr AV → Tr AV
  | [], _, r => r
  | v :: vs, i, r => setAll vs (i + 1) (r.put i (some v))

def resultsOf (T : Tab) (s : St) : List ResultVar → Option (List AV)
  | [] => some []
  | .tmp t :: r => match s.regs.get t, resultsOf T s r with
    | some v, some vs => some (v :: vs)
    | _, _ => none
  | .cell a t :: r => match T.ti t, s.regs.get a, resultsOf T s r with
    | some i, some av, some vs => (match s.cellsOf av with
      | some (cs, of) => (match cellsAt cs of i.size with
        | some xs => (match shaped i.agg xs with
          | some v => some (v :: vs)
          | none => none)
        | none => none)
      | none => none)
    | _, _, _ => none

def body (T : Tab) (C : FuncId → Fun) (k : Nat) (fn : Func) (esc : List Tmp) : Fun := fun args n h =>
  match fn.body with
  | none => none
  | some c =>
    if !Nat.ble args.length fn.ntmps then none else
    match exec T C esc k c { regs := setAll args 0 .lf, locs := .lf, n, lo := n, h, nt := fn.ntmps } with
    | some (.normal, s) | some (.ret, s) => (match resultsOf T s fn.results.toList with
      | some [v] => some { v, n := s.n, lo := s.lo, h := s.h }
      | some vs => some { v := .tup vs, n := s.n, lo := s.lo, h := s.h }
      | none => none)
    | _ => none

def call (T : Tab) (k : Nat) (depth : Nat) : FuncId → Fun :=
  Nat.rec (fun _ _ _ _ => none) (fun _ ih f args n h => match T.prim f with
    | some g => g args n h
    | none => match T.fn f with
      | some (fn, esc) => body T ih k fn esc args n h
      | none => none) depth

end Am
end Go.Proofs.YtdmfdclkpdliaaaGreatDoor
