/- What library functions come to, as the evaluator takes them. Definitions alone. -/
import Derived.Test.YtbfllngekcckeaaGreatDoorEvA
import Derived.Lib.AtoiAll
import Derived.Lib.Join
import Derived.Lib.Strings
import Derived.Lib.Bytealg
namespace Go.Ev

def digs : Nat → Nat → List UInt8
  | 0, u => [UInt8.ofNat (48 + u % 10)]
  | k + 1, u => if u < 10 then [UInt8.ofNat (48 + u)] else digs k (u / 10) ++ [UInt8.ofNat (48 + u % 10)]

def itoaF (n : Int) : List UInt8 := if n < 0 then 45 :: digs 20 n.natAbs else digs 20 n.toNat

def primItoa : List V → Frames → Option (Option V × Frames)
  | [.c (.int .i64 n)], fs => if -9223372036854775808 ≤ n ∧ n ≤ 9223372036854775807 then some (some (.c (.str (itoaF n))), fs) else none
  | _, _ => none

def primAtoi : List V → Frames → Option (Option V × Frames)
  | [.c (.str s)], fs => if s.length ≤ 281474976710656 then (match Lib.atoiAll s with
    | .ok n => some (some (.tup [.c (.int .i64 n), .c .nilif]), fs)
    | .range => some (some (.tup [.c (.int .i64 (Lib.atoiSat s)), .c .someif]), fs)
    | _ => some (some (.tup [.c (.int .i64 0), .c .someif]), fs)) else none
  | _, _ => none

def strsOf : List (List D) → Option (List (List UInt8))
  | [] => some []
  | [.str s] :: r => match strsOf r with
    | some l => some (s :: l)
    | none => none
  | _ => none

def joinF (sep : List UInt8) : List (List UInt8) → List UInt8
  | [] => []
  | [x] => x
  | x :: r => x ++ sep ++ joinF sep r

def primJoin : List V → Frames → Option (Option V × Frames)
  | [.c (.sl _ 1 es), .c (.str sep)], fs => match strsOf es with
    | some l => if l.length ≤ 140737488355328 ∧ (joinF sep l).length ≤ 140737488355328 then some (some (.c (.str (joinF sep l))), fs) else none
    | none => none
  | _, _ => none

/-- A rune that is one byte. -/
def primContainsRune : List V → Frames → Option (Option V × Frames)
  | [.c (.str s), .c (.int .i32 r)], fs => if 0 ≤ r ∧ r < 128 then some (some (.c (.bool (s.contains (UInt8.ofNat r.toNat)))), fs) else none
  | _, _ => none

def primTrimPrefix : List V → Frames → Option (Option V × Frames)
  | [.c (.str s), .c (.str p)], fs => some (some (.c (.str (Lib.trimPrefix s p))), fs)
  | _, _ => none

/-- Words, and the signs '(', ')', ',': of a text whose bytes are all below 128. -/
def signsF : List UInt8 → List UInt8 → List (List UInt8)
  | last, [] => if last = [] then [] else [last]
  | last, b :: r =>
    if b = 32 then (if last = [] then signsF [] r else last :: signsF [] r)
    else if b = 40 ∨ b = 41 ∨ b = 44 then (if last = [] then [b] :: signsF [] r else last :: [b] :: signsF [] r)
    else signsF (last ++ [b]) r

def primSigns : List V → Frames → Option (Option V × Frames)
  | [.c (.str s)], fs => if s.all (· < 128) = true ∧ s.length ≤ 1000000000 then some (some (.c (.sl .ro 1 ((signsF [] s).map fun w => [.str w]))), fs) else none
  | _, _ => none

end Go.Ev
