/- An evaluator for loaded functions: slices by value, objects in a stack of frames, no world. Definitions alone. -/
import Derived.Orders
namespace Go.Ev

inductive D where
  | bool (b : Bool) | int (k : IntKind) (n : Int) | str (s : List UInt8) | sl (s : Nat) (es : List (List D))

inductive K where
  | nil | ro | exact | own

def K.strip : K → K
  | .own => .ro
  | k => k

inductive C where
  | bool (b : Bool) | int (k : IntKind) (n : Int) | str (s : List UInt8)
  | sl (k : K) (s : Nat) (es : List (List D))
  | asl (d k off len cap s : Nat)
  | ptr (d k off : Nat) | nilp
  | fn (f : Fn) (first captured : List C) | nilfn
  | ifc (t : TypeId) (agg : Bool) (cs : List C) | nilif | someif

inductive V where
  | c (x : C) | agg (cs : List C) | tup (vs : List V) | pe (s : Nat) (es : List (List D)) (i j : Nat) | junk | raw (v : Value)

def D.toC : D → C
  | .bool b => .bool b
  | .int k n => .int k n
  | .str s => .str s
  | .sl s es => .sl .ro s es

def C.toD : C → Option D
  | .bool b => some (.bool b)
  | .int k n => some (.int k n)
  | .str s => some (.str s)
  | .sl _ s es => some (.sl s es)
  | _ => none

def toDs : List C → Option (List D)
  | [] => some []
  | x :: xs => match x.toD with
    | some d => match toDs xs with
      | some ds => some (d :: ds)
      | none => none
    | none => none

def C.strip : C → C
  | .sl k s es => .sl k.strip s es
  | x => x

def C.isSl : C → Bool
  | .sl .. => true
  | _ => false

def V.strip : V → V
  | .c x => .c x.strip
  | v => v

def V.hasSl : V → Bool
  | .c x => x.isSl
  | _ => false

def V.cells : V → Option (List C)
  | .c x => some [x]
  | .agg cs => some cs
  | _ => none

mutual
def C.le (d : Nat) : C → Bool
  | .ptr d' _ _ => decide (d' ≤ d)
  | .asl d' _ _ _ _ _ => decide (d' ≤ d)
  | .fn _ a b => C.leL d a && C.leL d b
  | .ifc _ _ cs => C.leL d cs
  | _ => true
def C.leL (d : Nat) : List C → Bool
  | [] => true
  | x :: xs => C.le d x && C.leL d xs
end

def V.le1 (d : Nat) : V → Bool
  | .c x => C.le d x
  | .agg cs => C.leL d cs
  | _ => true

def V.le (d : Nat) : V → Bool
  | .c x => C.le d x
  | .agg cs => C.leL d cs
  | .tup vs => vs.all (V.le1 d)
  | _ => true

abbrev Fr := List (List C)
abbrev Frames := List Fr
abbrev M := List (Nat × V)
structure S where
  m : M
  fs : Frames

inductive Ex where
  | normal | exit (id : Nat) | ret | panic

abbrev Out := Option (Ex × S)
abbrev CallF := FuncId → List V → Frames → Option (Option V × Frames)

structure Cfg where
  P : Program
  /-- which functions are handed their arguments' rights to append -/
  cons : FuncId → Bool
  /-- new objects of which type, in which function, outlive the call -/
  esc : FuncId → TypeId → Bool
  /-- literals in which region are written into -/
  arr : FuncId → Nat → Bool
  /-- what is kept of the temporaries at a loop's head, by its block -/
  live : FuncId → Nat → List Nat
  /-- of a region that draws: loads that are of the frame's own objects alone -/
  strict : FuncId → Nat → List Nat
  /-- functions that are handed nothing of the caller's frame -/
  sealed : FuncId → Bool
  ok : FuncId → Bool
  prim : FuncId → Option (List V → Frames → Option (Option V × Frames))

def getT : M → Nat → V
  | [], _ => .junk
  | (k, v) :: r, t => if k = t then v else getT r t

def sz (P : Program) (t : TypeId) : Option Nat := (P.info? t).map (·.size)
def by_ (P : Program) (t : TypeId) : Nat := ((P.info? t).map (·.bytes)).getD 0
def elemT (P : Program) (t : TypeId) : Option TypeId := match P.underlying t with
  | some (.slice e) => some e
  | _ => none
def elemSz (P : Program) (t : TypeId) : Nat := ((elemT P t).bind (sz P)).getD 0
def aggT (P : Program) (t : TypeId) : Option Bool := match P.underlying t with
  | some (.struct _) | some (.array _ _) => some true
  | some _ => some false
  | none => none
/-- A struct's fields: offset, size, type. -/
def lay (P : Program) (t : TypeId) : List (Nat × Nat × TypeId) := match P.underlying t with
  | some (.struct fs) => fs.toList.map fun f => (f.offset, (sz P f.type).getD 0, f.type)
  | _ => []
def layF (P : Program) : List Field → Option (List (Nat × Nat))
  | [] => some []
  | f :: fs => match sz P f.type with
    | some n => match layF P fs with
      | some r => some ((f.offset, n) :: r)
      | none => none
    | none => none
/-- A struct's or an array's parts: offset and size. -/
def layB (P : Program) (t : TypeId) : Option (List (Nat × Nat)) := match P.underlying t with
  | some (.struct fs) => layF P fs.toList
  | some (.array n e) => match sz P e with
    | some z => some ((List.range n).map fun i => (i * z, z))
    | none => none
  | _ => none

def constC : Value → Option C
  | .bool b => some (.bool b)
  | .int k n => some (.int k n)
  | .string s => some (.str s.data.toList)
  | .slice none 0 0 => some (.sl .nil 0 [])
  | .pointer none => some .nilp
  | .nilFunc => some .nilfn
  | .nilIface => some .nilif
  | _ => none

def constCs : List Value → Option (List C)
  | [] => some []
  | v :: vs => match constC v with
    | some c => match constCs vs with
      | some cs => some (c :: cs)
      | none => none
    | none => none

def constV (P : Program) (t : TypeId) : Value → V
  | .slice none 0 0 => .c (.sl .nil (elemSz P t) [])
  | .agg cs => match constCs cs.toList with
    | some cs => .agg cs
    | none => .junk
  | v => match constC v with
    | some c => .c c
    | none => .junk

def ev (P : Program) (t : TypeId) (m : M) : Operand → V
  | .tmp s => getT m s
  | .const v => constV P t v
  | .global _ => .junk
  | .func f => .c (.fn (.func f) [] [])

/-- A temporary whose value goes elsewhere keeps no right to append. -/
def give (s : S) : Operand → S
  | .tmp t => if (getT s.m t).hasSl then { s with m := (t, (getT s.m t).strip) :: s.m } else s
  | _ => s

def gives (s : S) : List Operand → S
  | [] => s
  | x :: xs => gives (give s x) xs

def look : Frames → Nat → Nat → Option (List C)
  | [], _, _ => none
  | f :: fs, d, k => if d = fs.length then f[k]? else look fs d k

def setF : Frames → Nat → Nat → List C → Frames
  | [], _, _, _ => []
  | f :: fs, d, k, o => if d = fs.length then f.set k o :: fs else f :: setF fs d k o

def pushBot : Frames → List C → Option (Nat × Frames)
  | [], _ => none
  | [f], o => some (f.length, [f ++ [o]])
  | f :: g :: fs, o => match pushBot (g :: fs) o with
    | some (k, fs') => some (k, f :: fs')
    | none => none

def newObj (glob : Bool) (s : S) (o : List C) : Option (C × S) :=
  match s.fs with
  | [] => none
  | f :: r => if glob then (match pushBot r o with
      | some (k, r') => if C.leL 0 o then some (.ptr 0 k 0, { s with fs := f :: r' }) else none
      | none => none)
    else some (.ptr r.length f.length 0, { s with fs := (f ++ [o]) :: r })

def readV (P : Program) (t : TypeId) (cs : List C) : Option V :=
  match aggT P t with
  | none => none
  | some true => match sz P t with
    | some n => if n ≤ cs.length then some (.agg ((cs.take n).map C.strip)) else none
    | none => none
  | some false => match cs with
    | x :: _ => some (.c x)
    | [] => none

def fillC (place : List (Nat × Nat)) (cells : List C) : List (Nat × V) → Option (List C)
  | [] => some cells
  | (i, v) :: rest => match place[i]?, v.cells with
    | some (off, size), some cs =>
      if 0 < size ∧ cs.length = size then (if off + size ≤ cells.length then fillC place (cells.take off ++ cs.map C.strip ++ cells.drop (off + size)) rest else none) else none
    | _, _ => none

def zeroC (P : Program) (t : TypeId) : Option (List C) := match (P.info? t).bind (·.zero) with
  | some v => constCs v.cells.toList
  | none => none

def fillE (es : List (List D)) (size : Nat) : List (Nat × V) → Option (List (List D))
  | [] => some es
  | (i, v) :: rest => match v.cells with
    | some cs => match toDs cs with
      | some ds => if ds.length = size then (if i < es.length then fillE (es.set i ds) size rest else none) else none
      | none => none
    | none => none

def lst : List UInt8 → List UInt8 → Bool
  | _, [] => false
  | [], _ :: _ => true
  | a :: x, b :: y => a < b || (a == b && lst x y)

def strOp (op : BinOp) (x y : List UInt8) : Option C :=
  match op with
  | .add => if x.length + y.length ≤ 9223372036854775807 then some (.str (x ++ y)) else none
  | .eql => some (.bool (x == y))
  | .neq => some (.bool !(x == y))
  | .lss => some (.bool (lst x y))
  | .leq => some (.bool (lst x y || x == y))
  | .gtr => some (.bool !(lst x y || x == y))
  | .geq => some (.bool !(lst x y))
  | _ => none

def intOp (op : BinOp) (k : IntKind) (x y : Int) : Option C :=
  match op with
  | .add => some (.int k (k.wrap (x + y)))
  | .sub => some (.int k (k.wrap (x - y)))
  | .mul => some (.int k (k.wrap (x * y)))
  | .quo => if y = 0 then none else some (.int k (k.wrap (x.tdiv y)))
  | .rem => if y = 0 then none else some (.int k (x.tmod y))
  | .and => some (.int k (k.wrap (BitVec.ofInt k.bits x &&& BitVec.ofInt k.bits y).toNat))
  | .or => some (.int k (k.wrap (BitVec.ofInt k.bits x ||| BitVec.ofInt k.bits y).toNat))
  | .xor => some (.int k (k.wrap (BitVec.ofInt k.bits x ^^^ BitVec.ofInt k.bits y).toNat))
  | .andNot => some (.int k (k.wrap (BitVec.ofInt k.bits x &&& ~~~BitVec.ofInt k.bits y).toNat))
  | .eql => some (.bool (x == y))
  | .neq => some (.bool (x != y))
  | .lss => some (.bool (decide (x < y)))
  | .leq => some (.bool (decide (x ≤ y)))
  | .gtr => some (.bool (decide (x > y)))
  | .geq => some (.bool (decide (x ≥ y)))
  | _ => none

def shiftOp (op : BinOp) (k : IntKind) (x y : Int) : Option C :=
  if y < 0 then none else
  match op with
  | .shl => some (.int k (k.wrap (x * 2 ^ (min y.toNat k.bits))))
  | .shr => some (.int k (x.fdiv (2 ^ (min y.toNat k.bits))))
  | _ => none

/-- '==' of cells that are bools (1), whole numbers (2), strings (3). -/
def eqCs : List Nat → List C → List C → Option Bool
  | [], [], [] => some true
  | 1 :: ks, .bool a :: x, .bool b :: y => match eqCs ks x y with
    | some r => some (a == b && r)
    | none => none
  | 2 :: ks, .int k a :: x, .int k' b :: y => if k = k' then (match eqCs ks x y with
    | some r => some (a == b && r)
    | none => none) else none
  | 3 :: ks, .str a :: x, .str b :: y => match eqCs ks x y with
    | some r => some (a == b && r)
    | none => none
  | _, _, _ => none

def flatF (ok : TypeId → Option (List Nat)) : Nat → List Field → Option (List Nat)
  | _, [] => some []
  | o, f :: fs => if f.name ≠ "_" ∧ f.offset = o then (match ok f.type with
    | some ks => match flatF ok (o + ks.length) fs with
      | some r => some (ks ++ r)
      | none => none
    | none => none) else none

/-- The kinds of the cells of a struct of bools, whole numbers, strings, and such structs, none of them blank, laid one behind the other. -/
def flatK (P : Program) : Nat → TypeId → Option (List Nat)
  | 0, _ => none
  | n + 1, t => match P.underlying t with
    | some .bool => if sz P t = some 1 then some [1] else none
    | some (.int _) => if sz P t = some 1 then some [2] else none
    | some .string => if sz P t = some 1 then some [3] else none
    | some (.struct fs) => if P.stoodInHeld t then none else (match flatF (flatK P n) 0 fs.toList with
      | some ks => if sz P t = some ks.length then some ks else none
      | none => none)
    | _ => none

def eqFlat (P : Program) (t : TypeId) : Option (List Nat) := match P.underlying t with
  | some (.struct _) => if P.eqGuardType P.depth t then none else flatK P 20 t
  | _ => none

def eqKind (P : Program) (t : TypeId) : Nat := match P.underlying t with
  | some .bool => 1
  | some (.pointer _) => 2
  | some (.func _ _ _) => 3
  | some (.interface _) => 4
  | some (.slice _) => 5
  | _ => 0

def eqV (kd : Nat) (a b : V) : Option Bool :=
  match kd, a, b with
  | 1, .c (.bool x), .c (.bool y) => some (x == y)
  | 2, .c .nilp, .c .nilp => some true
  | 2, .c .nilp, .c (.ptr ..) => some false
  | 2, .c (.ptr ..), .c .nilp => some false
  | 3, .c .nilfn, .c .nilfn => some true
  | 3, .c .nilfn, .c (.fn ..) => some false
  | 3, .c (.fn ..), .c .nilfn => some false
  | 4, .c .nilif, .c .nilif => some true
  | 4, .c .nilif, .c (.ifc ..) => some false
  | 4, .c .nilif, .c .someif => some false
  | 4, .c (.ifc ..), .c .nilif => some false
  | 4, .c .someif, .c .nilif => some false
  | 5, .c (.sl .nil _ _), .c (.sl .nil _ _) => some true
  | 5, .c (.sl _ _ (_ :: _)), .c (.sl .nil _ _) => some false
  | _, _, _ => none

def isLit : Operand → Bool
  | .const _ => true
  | _ => false

/-- Interface values are held against the literal nil alone. -/
def litKind (lit : Bool) : Nat → Nat
  | 4 => match lit with
    | true => 4
    | false => 0
  | k => k

def binV (P : Program) (op : BinOp) (t : TypeId) (lit : Bool) (a b : V) : Option C :=
  match a, b with
  | .c (.int k x), .c (.int k' y) => match op with
    | .shl => shiftOp .shl k x y
    | .shr => shiftOp .shr k x y
    | _ => if k = k' then intOp op k x y else none
  | .c (.str x), .c (.str y) => strOp op x y
  | .agg x, .agg y => match eqFlat P t with
    | some ks => match eqCs ks x y with
      | some r => match op with
        | .eql => some (.bool r)
        | .neq => some (.bool !r)
        | _ => none
      | none => none
    | none => none
  | a, b => match op with
    | .eql => match eqV (litKind lit (eqKind P t)) a b with
      | some r => some (.bool r)
      | none => none
    | .neq => match eqV (litKind lit (eqKind P t)) a b with
      | some r => some (.bool !r)
      | none => none
    | _ => none

def unV (op : UnOp) (a : V) : Option C :=
  match op, a with
  | .neg, .c (.int k n) => some (.int k (k.wrap (0 - n)))
  | .xor, .c (.int k n) => some (.int k (k.wrap (BitVec.ofInt k.bits (if k.signed then -1 else k.max) ^^^ BitVec.ofInt k.bits n).toNat))
  | .not, .c (.bool b) => some (.bool !b)
  | _, _ => none

def bytesOf (s : List UInt8) : List (List D) := s.map fun b => [.int .u8 b.toNat]

def strOf : List (List D) → Option (List UInt8)
  | [] => some []
  | [.int .u8 n] :: r => match strOf r with
    | some s => some (UInt8.ofNat n.toNat :: s)
    | none => none
  | _ => none

/-- 1: to a whole number · 2: a string to bytes · 3: bytes to a string · 4: a string to a string · 5: a whole number to a string -/
def convKind (P : Program) (src dst : TypeId) : Nat × IntKind := match P.underlying src, P.underlying dst with
  | some (.int _), some (.int k) => (1, k)
  | some .string, some (.slice e) => match P.underlying e with
    | some (.int .u8) => (2, .u8)
    | _ => (0, .u8)
  | some (.slice e), some .string => match P.underlying e with
    | some (.int .u8) => (3, .u8)
    | _ => (0, .u8)
  | some .string, some .string => (4, .u8)
  | some (.int _), some .string => (5, .u8)
  | _, _ => (0, .u8)

def convV (kd : Nat × IntKind) (a : V) : Option C :=
  match kd.1, a with
  | 1, .c (.int _ n) => some (.int kd.2 (kd.2.wrap n))
  | 2, .c (.str s) => if s.length ≤ 140737488351232 then some (.sl .own 1 (bytesOf s)) else none
  | 3, .c (.sl _ _ es) => match strOf es with
    | some s => some (.str s)
    | none => none
  | 4, .c (.str s) => some (.str s)
  | 5, .c (.int _ n) => some (.str (Utf8.encode n).data.toList)
  | _, _ => none

def cut {α : Type} (lo hi : Nat) (l : List α) : List α := (l.drop lo).take (hi - lo)

def asNat : V → Option Int
  | .c (.int _ n) => some n
  | _ => none

def boundV (x : Option V) (d : Int) : Option Int := match x with
  | some v => asNat v
  | none => some d

/-- 'x[lo:hi:max]' -/
def sliceV (P : Program) (t : TypeId) (x : V) (lo hi mx : Option V) : Option V :=
  match P.underlying t with
  | some .string => match x, mx with
    | .c (.str s), none => match boundV lo 0, boundV hi s.length with
      | some l, some h => if 0 ≤ h ∧ h ≤ s.length then (if 0 ≤ l ∧ l ≤ h then some (.c (.str (cut l.toNat h.toNat s))) else none) else none
      | _, _ => none
    | _, _ => none
  | some (.slice e) => match x with
    | .c (.sl k z es) => if sz P e = some z then (match boundV lo 0, boundV hi es.length with
      | some l, some h => if 0 ≤ h ∧ h ≤ es.length then (if 0 ≤ l ∧ l ≤ h then
          (match mx, hi with
          | none, none => some (.c (.sl (match k with | .own => .own | _ => .ro) z (es.drop l.toNat)))
          | none, some _ => some (.c (.sl .ro z (cut l.toNat h.toNat es)))
          | some v, some _ => match asNat v with
            | some m => if m = h then some (.c (.sl (match k with | .nil => .nil | _ => .exact) z (cut l.toNat h.toNat es))) else none
            | none => none
          | some _, none => none) else none) else none
      | _, _ => none) else none
    | .c (.asl d k off len cap z) => if sz P e = some z then (match mx with
      | some _ => none
      | none => match boundV lo 0, boundV hi (len : Int) with
        | some l, some h => if 0 ≤ h ∧ h ≤ cap then (if 0 ≤ l ∧ l ≤ h then some (.c (.asl d k (off + l.toNat * z) (h.toNat - l.toNat) (cap - l.toNat) z)) else none) else none
        | _, _ => none) else none
    | _ => none
  | _ => none

def chunk (z : Nat) : Nat → List D → List (List D)
  | 0, _ => []
  | n + 1, l => l.take z :: chunk z n (l.drop z)

/-- A mutable array's elements, as they are now. -/
def aslD (fs : Frames) (d k off len z : Nat) : Option (List (List D)) :=
  match look fs d k with
  | some cs => if off + len * z ≤ cs.length then (match toDs (cut off (off + len * z) cs) with
    | some ds => some (chunk z len ds)
    | none => none) else none
  | none => none

/-- A slice type's elements: their type, their size, and a number of them that memory bears. -/
def elemI (P : Program) (t : TypeId) : Option (TypeId × Nat × Nat) := match elemT P t with
  | some e => match P.info? e with
    | some i => match i.zero with
      | some z => if z.cells.size = i.size ∧ 0 < i.size then some (e, i.size, 140737488355328 / (i.bytes + 1)) else none
      | none => none
    | none => none
  | none => none

/-- What append puts behind: a slice's elements, or a string's bytes. -/
def tailD (P : Program) (u : TypeId) (fs : Frames) (z : Nat) (v : V) : Option (List (List D)) :=
  match P.underlying u with
  | some .string => match v with
    | .c (.str s) => if z = 1 then some (bytesOf s) else none
    | _ => none
  | some (.slice _) => match v with
    | .c (.sl _ z' es) => if z' = z ∨ es = [] then some es else none
    | .c (.asl d k off len _ z') => if z' = z then aslD fs d k off len z else none
    | _ => none
  | _ => none

def appOK (k : K) (z z₀ : Nat) (es : List (List D)) : Bool := match k with
  | .ro => false
  | .nil => true
  | .exact => z == z₀ || es.isEmpty
  | .own => z == z₀

def appendV (P : Program) (t u : TypeId) (fs : Frames) (a b : V) : Option V :=
  match elemI P t with
  | none => none
  | some (_, z₀, lim) => match tailD P u fs z₀ b with
    | none => none
    | some xs => match a with
      | .c (.sl k z es) => if appOK k z z₀ es then (if es.length + xs.length < lim then some (.c (.sl .own z₀ (es ++ xs))) else none) else none
      | .c (.asl d k off len cap z) => if len = cap ∧ z = z₀ ∧ 0 < xs.length then (match aslD fs d k off len z with
        | some es => if es.length + xs.length < lim then some (.c (.sl .own z₀ (es ++ xs))) else none
        | none => none) else none
      | _ => none

def lenV : Bool → V → Option Int
  | true, .c (.str s) => some s.length
  | false, .c (.sl _ _ es) => some es.length
  | false, .c (.asl _ _ _ len _ _) => some len
  | _, _ => none

def minC : C → C → Option C
  | .int k x, .int _ y => some (.int k (if y < x then y else x))
  | _, _ => none

def maxC : C → C → Option C
  | .int k x, .int _ y => some (.int k (if y > x then y else x))
  | _, _ => none

def foldC (g : C → C → Option C) : C → List V → Option C
  | x, [] => some x
  | x, .c y :: r => match g x y with
    | some z => foldC g z r
    | none => none
  | _, _ => none

def vcs : List V → Option (List C)
  | [] => some []
  | .c x :: r => match vcs r with
    | some xs => some (x :: xs)
    | none => none
  | _ => none

def setRange (cs : List C) (off : Nat) (new : List C) : List C := cs.take off ++ new ++ cs.drop (off + new.length)

/-- 'copy' into a mutable array: how many elements, and the frames. -/
def copyV (P : Program) (u : TypeId) (fs : Frames) (d k off len z : Nat) (b : V) : Option (Nat × Frames) :=
  match tailD P u fs z b, look fs d k with
  | some xs, some cs => if off + (xs.take len).flatten.length ≤ cs.length then
      some (min xs.length len, setF fs d k (setRange cs off (((xs.take len).flatten).map D.toC))) else none
  | _, _ => none

def pickV (b : Bool) (x y : V) : V := match b with
  | true => x
  | false => y

def isIface (P : Program) (t : TypeId) : Bool := match P.underlying t with
  | some (.interface _) => true
  | none => true
  | _ => false

def feeds (fd : List Nat) : Option Tmp → Bool
  | some d => fd.contains d
  | none => false


/-- What an operation that is no call of a function gives, and leaves. -/
def opv (c : Cfg) (f r : Nat) (fd : List Nat) (strict : Bool) (o : Oper) (s : S) : Option (V × S) :=
  match o.op with
  | .move x => if feeds fd o.dst then some (ev c.P o.type s.m x, give s x) else some ((ev c.P o.type s.m x).strip, s)
  | .assign x => some (ev c.P o.type s.m x, give s x)
  | .pick x a b => match ev c.P o.type s.m x with
    | .c (.bool t) => match ev c.P o.type s.m a, ev c.P o.type s.m b with
      | .c (.bool p), .c (.bool q) => some (.c (.bool (bif t then p else q)), s)
      | va, vb => some ((pickV t va vb).strip, s)
    | _ => none
  | .alloc t => match zeroC c.P t with
    | some cs => match newObj (c.esc f t) s cs with
      | some (p, s') => some (.c p, s')
      | none => none
    | none => none
  | .box t x => match (ev c.P t s.m x).cells with
    | some cs => match newObj (c.esc f t) (give s x) cs with
      | some (p, s') => some (.c p, s')
      | none => none
    | none => none
  | .build t parts => match zeroC c.P t, layB c.P t with
    | some cs, some pl => match fillC pl cs (parts.toList.map fun p => (p.1, ev c.P 0 s.m p.2)) with
      | some cs => some (.agg cs, s)
      | none => none
    | _, _ => none
  | .buildSlice t len parts => match elemT c.P t with
    | none => none
    | some e => match zeroC c.P e with
      | none => none
      | some z => match toDs z with
        | none => none
        | some dz => if 0 < dz.length ∧ dz.length = elemSz c.P t ∧ len * dz.length ≤ 16777216 then
            (match fillE (List.replicate len dz) dz.length (parts.toList.map fun p => (p.1, ev c.P 0 s.m p.2)) with
            | some es => if c.arr f r then (match newObj false s ((es.flatten).map D.toC) with
                | some (.ptr d k _, s') => some (.c (.asl d k 0 len len dz.length), s')
                | _ => none)
              else some (.c (.sl .exact dz.length es), s)
            | none => none) else none
  | .load t x => match ev c.P 0 s.m x with
    | .pe _ es i j => match es[i]? with
      | some e => match readV c.P t ((e.drop j).map D.toC) with
        | some v => some (v, s)
        | none => none
      | none => none
    | .c (.ptr d k off) => if strict && !(d == s.fs.length - 1) then none else match look s.fs d k with
      | some cs => match readV c.P t (cs.drop off) with
        | some v => if feeds fd o.dst then
            (match v with
            | .c y => some (.c y, { s with fs := setF s.fs d k (setRange cs off [y.strip]) })
            | _ => none)
          else some (v.strip, s)
        | none => none
      | none => none
    | _ => none
  | .store t a x => match ev c.P 0 s.m a, (ev c.P t s.m x).cells with
    | .c (.ptr d k off), some vs => match look s.fs d k with
      | some cs => if sz c.P t = some vs.length ∧ off + vs.length ≤ cs.length ∧ C.leL d vs then
          (let s' := give s x; some (.tup [], { s' with fs := setF s'.fs d k (setRange cs off vs) })) else none
      | none => none
    | _, _ => none
  | .nilCheck x => match ev c.P 0 s.m x with
    | .c (.ptr d k off) => some (.c (.ptr d k off), s)
    | .pe z es i j => some (.pe z es i j, s)
    | .c (.fn (.func g) a b) => some (.c (.fn (.func g) a b), s)
    | _ => none
  | .binOp op t x y _ => match binV c.P op t (isLit x || isLit y) (ev c.P t s.m x) (ev c.P t s.m y) with
    | some v => some (.c v, s)
    | none => none
  | .unOp op _ x => match unV op (ev c.P 0 s.m x) with
    | some v => some (.c v, s)
    | none => none
  | .convert src dst x => match convV (convKind c.P src dst) (ev c.P src s.m x) with
    | some v => some (.c v, s)
    | none => none
  | .makeInterface t x => if isIface c.P t then none else match ev c.P t s.m x with
    | .c y => some (.c (.ifc t false [y.strip]), s)
    | .agg cs => some (.c (.ifc t true (cs.map C.strip)), s)
    | _ => none
  | .makeFunc fn a b => match vcs (a.toList.map fun x => (ev c.P 0 s.m x).strip), vcs (b.toList.map fun x => (ev c.P 0 s.m x).strip) with
    | some xs, some ys => some (.c (.fn fn xs ys), s)
    | _, _ => none
  | .makeSlice t l n => match ev c.P 0 s.m l, ev c.P 0 s.m n, elemT c.P t with
    | .c (.int _ a), .c (.int _ b), some e => match zeroC c.P e with
      | some z => if 0 ≤ a ∧ a ≤ b ∧ b < 140737488355328 / (by_ c.P e + 1) ∧ 0 < z.length ∧ z.length = elemSz c.P t then
          (match newObj false s ((List.replicate b.toNat z).flatten) with
          | some (.ptr d k _, s') => some (.c (.asl d k 0 a.toNat b.toNat z.length), s')
          | _ => none) else none
      | none => none
    | _, _, _ => none
  | .slice t x lo hi mx => match sliceV c.P t (ev c.P 0 s.m x) (lo.map (ev c.P 0 s.m)) (hi.map (ev c.P 0 s.m)) (mx.map (ev c.P 0 s.m)) with
    | some v => some (v, give s x)
    | none => none
  | .fieldAddr t x i => match (lay c.P t)[i]? with
    | some (off, n, _) => if n = 0 then none else match ev c.P 0 s.m x with
      | .pe z es a j => some (.pe z es a (j + off), s)
      | .c (.ptr d k p) => some (.c (.ptr d k (p + off)), s)
      | _ => none
    | none => none
  | .field t x i => match (lay c.P t)[i]?, ev c.P 0 s.m x with
    | some (off, _, ft), .agg cs => match readV c.P ft (cs.drop off) with
      | some v => some (v.strip, s)
      | none => none
    | _, _ => none
  | .indexAddr t x i => match ev c.P 0 s.m i with
    | .c (.int _ n) => match ev c.P 0 s.m x with
      | .c (.sl _ z es) => if 0 ≤ n ∧ n < es.length then (if z = elemSz c.P t ∧ 0 < z then some (.pe z es n.toNat 0, s) else none) else none
      | .c (.asl d k off len _ z) => if 0 ≤ n ∧ n < len then (if z = elemSz c.P t ∧ 0 < z then some (.c (.ptr d k (off + n.toNat * z)), s) else none) else none
      | .c (.ptr d k p) => match c.P.underlying t with
        | some (.array len e) => if 0 ≤ n ∧ n < len then (match sz c.P e with
          | some z => if 0 < z then some (.c (.ptr d k (p + n.toNat * z)), s) else none
          | none => none) else none
        | _ => none
      | _ => none
    | _ => none
  | .index t x i => match ev c.P 0 s.m i with
    | .c (.int _ n) => match ev c.P 0 s.m x with
      | .c (.str b) => match c.P.underlying t with
        | some .string => if 0 ≤ n then (match b[n.toNat]? with
          | some u => some (.c (.int .u8 u.toNat), s)
          | none => none) else none
        | _ => none
      | .agg cs => match c.P.underlying t with
        | some (.array len e) => if 0 ≤ n ∧ n < len then (match sz c.P e with
          | some z => (match readV c.P e (cs.drop (n.toNat * z)) with
            | some v => some (v.strip, s)
            | none => none)
          | none => none) else none
        | _ => none
      | _ => none
    | _ => none
  | .extract x i => match x with
    | .tmp t => match getT s.m t with
      | .tup vs => match vs[i]? with
        | some v => some (v, s)
        | none => none
      | _ => none
    | _ => none
  | .call k => match k.callee with
    | .builtin .len => match k.args.toList, k.argTypes[0]? with
      | [x], some t => match c.P.underlying t with
        | some .string => (match lenV true (ev c.P 0 s.m x) with
          | some n => some (.c (.int .i64 n), s)
          | none => none)
        | some (.slice _) => (match lenV false (ev c.P 0 s.m x) with
          | some n => some (.c (.int .i64 n), s)
          | none => none)
        | some (.array n _) => some (.c (.int .i64 n), s)
        | _ => none
      | _, _ => none
    | .builtin .append => match k.args.toList, k.argTypes.toList with
      | [x, y], [t, u] => match appendV c.P t u s.fs (ev c.P t s.m x) (ev c.P 0 s.m y) with
        | some v => some (v, give s x)
        | none => none
      | _, _ => none
    | .builtin .copy => match k.args.toList, k.argTypes.toList with
      | [x, y], [t, u] => match ev c.P 0 s.m x with
        | .c (.asl d k' off len _ z) => if z = elemSz c.P t ∧ 0 < z then (match copyV c.P u s.fs d k' off len z (ev c.P 0 s.m y) with
          | some (n, fs) => some (.c (.int .i64 n), { s with fs })
          | none => none) else none
        | _ => none
      | _, _ => none
    | .builtin .min => match (k.args.toList.map (ev c.P 0 s.m)) with
      | .c (.int k n) :: r => match foldC minC (.int k n) r with
        | some z => some (.c z, s)
        | none => none
      | _ => none
    | .builtin .max => match (k.args.toList.map (ev c.P 0 s.m)) with
      | .c (.int k n) :: r => match foldC maxC (.int k n) r with
        | some z => some (.c z, s)
        | none => none
      | _ => none
    | _ => none
  | _ => none

/-- What a call enters, and with what. -/
def target (c : Cfg) (m : M) (k : Call) : Option (FuncId × List C × List C) :=
  match k.callee with
  | .value x => match ev c.P 0 m x with
    | .c (.fn (.func g) a b) => some (g, a, b)
    | _ => none
  | _ => none

/-- A call's arguments, that take their rights to append along. -/
def argsG (P : Program) : S → List Operand → List V
  | _, [] => []
  | s, x :: xs => ev P 0 s.m x :: argsG P (give s x) xs

/-- Does the call hand on its arguments' rights to append? -/
def consOf (c : Cfg) (k : Call) : Bool := match k.callee with
  | .value (.func g) => c.cons g
  | _ => false

def put (s : S) (dst : Option Tmp) (v : V) : S := match dst with
  | some d => { s with m := (d, v) :: s.m }
  | none => s

def doCall (c : Cfg) (call : CallF) (g : FuncId) (args : List V) (s : S) : Option (Option V × S) :=
  if c.sealed g then (match s.fs with
    | own :: rest => if args.all (V.le (rest.length - 1)) then (match call g args ([] :: rest) with
      | some (r, [] :: rest') => some (r, { s with fs := own :: rest' })
      | _ => none) else none
    | [] => none)
  else match call g args s.fs with
    | some (r, fs) => some (r, { s with fs })
    | none => none

def step (c : Cfg) (call : CallF) (f r : Nat) (fd : List Nat) (strict : Bool) (o : Oper) (s : S) : Out :=
  match o.op with
  | .panic x => match ev c.P 0 s.m x with
    | .c (.ifc ..) => some (.panic, s)
    | .c .someif => some (.panic, s)
    | _ => none
  | .call k => match k.callee with
    | .value _ => match target c s.m k with
      | some (g, a, b) =>
        if consOf c k then
          (match doCall c call g (a.map .c ++ argsG c.P s k.args.toList ++ b.map .c) (gives s k.args.toList) with
          | some (some v, s') => some (.normal, put s' o.dst v)
          | some (none, s') => some (.panic, s')
          | none => none)
        else
          (match doCall c call g (a.map .c ++ k.args.toList.map (fun x => (ev c.P 0 s.m x).strip) ++ b.map .c) s with
          | some (some v, s') => some (.normal, put s' o.dst v)
          | some (none, s') => some (.panic, s')
          | none => none)
      | none => none
    | .invoke _ _ => none
    | .builtin _ => match opv c f r fd strict o s with
      | some (v, s') => some (.normal, put s' o.dst v)
      | none => none
  | _ => match opv c f r fd strict o s with
    | some (v, s') => some (.normal, put s' o.dst v)
    | none => none

def wantedV (ops : Array Oper) (o : Oper) (m : M) : Option Bool := match o.guard with
  | none => some true
  | some (j, want) => match (ops[j]?).bind (·.dst) with
    | some t => match getT m t with
      | .c (.bool b) => some (b == want)
      | .tup [] => some false
      | _ => none
    | none => none

def stepW (c : Cfg) (call : CallF) (f r : Nat) (ops : Array Oper) (fd : List Nat) (strict : Bool) (o : Oper) (s : S) : Out :=
  match wantedV ops o s.m with
  | some true => step c call f r fd strict o s
  | some false => some (.normal, put s o.dst (.tup []))
  | none => none

/-- The temporaries that hand on a right to append. -/
def feedOf (c : Cfg) (res : List Tmp) : Oper → List Nat
  | { op := .call { callee := .builtin .append, args, .. }, .. } => match args.toList with
    | .tmp t :: _ => [t]
    | _ => []
  | { op := .call { callee := .value (.func g), args, .. }, .. } =>
    if c.cons g then (match args.toList with
      | .tmp t :: _ => [t]
      | _ => []) else []
  | { op := .assign (.tmp t), dst := some d, .. } => if res.contains d then [t] else []
  | { op := .slice ty (.tmp t) _ none none, .. } => match c.P.underlying ty with
    | some .string => []
    | _ => [t]
  | _ => []

def feedL (c : Cfg) (res : List Tmp) : List Oper → List Nat
  | [] => []
  | o :: os => feedOf c res o ++ feedL c res os

def runL (c : Cfg) (call : CallF) (f r : Nat) (ops : Array Oper) (fd st : List Nat) : Nat → List Oper → S → Out
  | _, [], s => some (.normal, s)
  | i, o :: os, s => match stepW c call f r ops fd (st.contains i) o s with
    | some (.normal, s') => runL c call f r ops fd st (i + 1) os s'
    | some (ex, s') => some (ex, s')
    | none => none

def keep (l : List Nat) (s : S) : S := { s with m := l.map fun t => (t, getT s.m t) }

def iterK (stp : S → Out) (l : List Nat) : Nat → S → Out
  | 0, _ => none
  | n + 1, s => match stp s with
    | some (.normal, s') => iterK stp l n (keep l s')
    | some (ex, s') => some (ex, keep l s')
    | none => none

def blockEx (id : Nat) : Out → Out
  | some (.exit id', s) => if id' = id then some (.normal, s) else some (.exit id', s)
  | o => o

def resTmps (fn : Func) : List Tmp := fn.results.toList.filterMap fun | .tmp t => some t | .cell _ _ => none

def evC (c : Cfg) (call : CallF) (it : (S → Out) → List Nat → S → Out) (f : FuncId) (res : List Tmp) : Code → S → Out
  | .skip, s => some (.normal, s)
  | .label _, s => some (.normal, s)
  | .region r ops d, s => match d with
    | false => runL c call f r ops (feedL c res ops.toList) [] 0 ops.toList s
    | true => match runL c call f r ops (feedL c res ops.toList) (c.strict f r) 0 ops.toList s with
      | some (.normal, s') => some (.normal, s')
      | _ => none
  | .seq a b, s => match evC c call it f res a s with
    | some (.normal, s') => evC c call it f res b s'
    | o => o
  | .cond x a b, s => match ev c.P 0 s.m x with
    | .c (.bool t) => match t with
      | true => evC c call it f res a s
      | false => evC c call it f res b s
    | _ => none
  | .block id (.loop b), s => blockEx id (it (fun s => evC c call it f res b s) (c.live f id) (keep (c.live f id) s))
  | .block id b, s => blockEx id (evC c call it f res b s)
  | .exit id, s => some (.exit id, s)
  | .ret, s => some (.ret, s)
  | _, _ => none

/-- A result leaves the frame: mutable arrays become values; nothing of the frame goes with it. -/
def freezeC (own : Fr) (dep : Nat) : C → Option C
  | .asl d k off len cap z => if d = dep then
      (match own[k]? with
      | some cs => if off + len * z ≤ cs.length then (match toDs (cut off (off + len * z) cs) with
        | some ds => some (.sl .ro z (chunk z len ds))
        | none => none) else none
      | none => none) else (if d < dep then some (.asl d k off len cap z) else none)
  | .sl k s es => some (.sl k s es)
  | x => match dep with
    | 0 => none
    | e + 1 => if C.le e x then some x else none

def freezeCs (own : Fr) (dep : Nat) : List C → Option (List C)
  | [] => some []
  | x :: xs => match freezeC own dep x with
    | some y => match freezeCs own dep xs with
      | some ys => some (y :: ys)
      | none => none
    | none => none

def freezeV (own : Fr) (dep : Nat) : V → Option V
  | .c x => match freezeC own dep x with
    | some y => some (.c y)
    | none => none
  | .agg cs => match freezeCs own dep cs with
    | some cs => some (.agg cs)
    | none => none
  | _ => none

def freezeVs (own : Fr) (dep : Nat) : List V → Option (List V)
  | [] => some []
  | x :: xs => match freezeV own dep x with
    | some y => match freezeVs own dep xs with
      | some ys => some (y :: ys)
      | none => none
    | none => none

def resV (P : Program) (s : S) : ResultVar → Option V
  | .tmp t => some (getT s.m t)
  | .cell a t => match getT s.m a with
    | .c (.ptr d k off) => if d = s.fs.length - 1 then (match look s.fs d k with
      | some cs => readV P t (cs.drop off)
      | none => none) else none
    | _ => none

def resVs (P : Program) (s : S) : List ResultVar → Option (List V)
  | [] => some []
  | x :: xs => match resV P s x with
    | some y => match resVs P s xs with
      | some ys => some (y :: ys)
      | none => none
    | none => none

def finish (c : Cfg) (fn : Func) : Out → Option (Option V × Frames)
  | some (.panic, { fs := _ :: rest, .. }) => some (none, rest)
  | some (.normal, s) | some (.ret, s) => match s.fs with
    | own :: rest => match resVs c.P s fn.results.toList with
      | some vs => match freezeVs own rest.length vs with
        | some [v] => some (some v, rest)
        | some vs => some (some (.tup (vs.map V.strip)), rest)
        | none => none
      | none => none
    | [] => none
  | _ => none

def params : Nat → List V → M
  | _, [] => []
  | i, v :: vs => (i, v) :: params (i + 1) vs

def callN (c : Cfg) : Nat → CallF
  | 0, _, _, _ => none
  | n + 1, g, args, fs => match c.prim g with
    | some p => p args fs
    | none => if c.ok g then
        (match c.P.funcs[g]? with
        | some fn => match fn.body with
          | some b => if args.length ≤ fn.ntmps then finish c fn (evC c (callN c n) (fun stp l s => iterK stp l n s) g (resTmps fn) b { m := params 0 args, fs := [] :: fs }) else none
          | none => none
        | none => none) else none

end Go.Ev
