/- TextPacks, of whatever polygons. -/
import Derived.Test.YtbfllngekcckeaaGreatDoorEvF12
namespace Go.Proofs.YtbfllngekcckeaaGreatDoor
open Go.Ev
set_option linter.unusedSimpArgs false
set_option linter.unusedVariables false
set_option maxHeartbeats 400000
set_option maxRecDepth 4000

theorem alive_ev : callE cfg 5 [] [[], [], []] = some (some (.c (.bool true)), [[], [], []]) := callE_at (n := 40) (by kernel_rfl)

end Go.Proofs.YtbfllngekcckeaaGreatDoor
