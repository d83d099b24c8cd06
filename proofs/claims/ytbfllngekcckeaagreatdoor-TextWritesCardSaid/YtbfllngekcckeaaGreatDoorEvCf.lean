/- This seat's configuration is sound. -/
import Derived.Test.YtbfllngekcckeaaGreatDoorEvSg
import Derived.Test.YtbfllngekcckeaaGreatDoorEvLim
namespace Go.Proofs.YtbfllngekcckeaaGreatDoor
open Go.Ev

theorem all_ok : allOK cfg 147 = true := by kernel_rfl

theorem cfg_ok : CfgOK cfg := by
  refine ⟨by kernel_rfl, fns_of (n := 147) (fun f h => mask_lt (by decide +kernel) f h) all_ok, fun g p h => ?_⟩
  have h' : primTab g = some p := h
  unfold primTab at h'
  split at h' <;> cases h'
  all_goals first | exact itoa_ok | exact atoi_ok | exact join_ok | exact containsRune_ok | exact trim_ok | exact signs_ok

theorem call_ok : CallOK cfg.P (callE cfg) := callE_ok cfg_ok

end Go.Proofs.YtbfllngekcckeaaGreatDoor
