/- The program's own variables that the library's contracts read. Written by tab.py. -/
import Derived.Orders
namespace Go.Ev

def IsErr (v : Value) : Prop := v = .nilIface ∨ ∃ t p, v = .iface t p
def tabCells : List (Nat × Nat × (Value → Prop)) := ((List.range 20).map fun i => (3, i, fun v => v = .int .u64 ((10 ^ i : Nat) : Int))) ++ ([(1, 0, IsErr), (2, 0, IsErr)])
def tabSizes : List (Nat × Nat) := [(3, 20)]

end Go.Ev
