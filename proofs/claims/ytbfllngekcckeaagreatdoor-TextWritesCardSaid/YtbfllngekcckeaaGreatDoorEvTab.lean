/- The program's own variables that the library's contracts read. Written by tab.py. -/
import Derived.Orders
namespace Go.Ev

abbrev gPow : Nat := 1
abbrev gSyn : Nat := 2
abbrev gRng : Nat := 3
abbrev tPow : Nat := 132
abbrev tErr : Nat := 95
def IsErr (v : Value) : Prop := v = .nilIface ∨ ∃ t p, v = .iface t p
def tabCells : List (Nat × Nat × (Value → Prop)) := ((List.range 20).map fun i => (1, i, fun v => v = .int .u64 ((10 ^ i : Nat) : Int))) ++ ([(2, 0, IsErr), (3, 0, IsErr)])
def tabSizes : List (Nat × Nat) := [(1, 20)]

end Go.Ev
