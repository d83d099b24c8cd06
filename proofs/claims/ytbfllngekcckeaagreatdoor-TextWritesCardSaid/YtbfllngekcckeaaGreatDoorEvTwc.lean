/- TextWrites at the machine: the statement and its card. For every two rows of polygons the law is true, and the arguments read behind the call as they read before. Condition: none beyond the row's own cells (the listed package variables hold what the program's text lays, which the card ties). -/
import Derived.Test.YtbfllngekcckeaaGreatDoorEvTp
import Derived.Test.YtbfllngekcckeaaGreatDoorEvF35
import Derived.WalkKit
import Derived.ProofKit
import Derived.OpenShut
import Derived.Deep.DeepHandedRow
import Derived.Deep.DeepWitnessRowRef
import Derived.SevenTiedAt
set_option linter.unusedSimpArgs false
set_option linter.unusedVariables false
set_option maxRecDepth 100000
namespace Go.Proofs.YtbfllngekcckeaaGreatDoor
open Go.Ev
open Go.ChangeShapes Go.WideShapes Go.ChangeAt Go.RowKit

theorem textWrites_contract (H : Type) (enc : TypeId × Value → H) (W : World) (base : Nat) (args : Array Value) (ds gs : List (DataW H)) (before : List MemPlace)
    (hval : ∀ (j : Nat) t v, Tryz.f3.params[j]? = some t → args[j]? = some v → Value.okWide Tryz.prog W .any base t v)
    (hW : DataW.Whole enc Tryz.prog Tryz.f3.params.toList Rows.textWritesSpec.vars false W args.toList ds gs before)
    (hsz : (DataW.weightsEach Tryz.prog (Tryz.f3.params.toList ++ (OpenSpec.ofChange Rows.textWritesSpec).bare.plain.varTypes Tryz.prog) (ds ++ gs)).all (· ≤ reachBytes) = true) (hL : laidMetH Tryz.prog Rows.textWritesRow.laid W) :
    Calls Tryz.prog 3 args W fun e W' => ∃ v, e = .returned v ∧ Rows.textWritesSpec.post enc Tryz.prog Tryz.f3 false true false false W args v W' := by
  have hW' := hW
  obtain ⟨p, q, hA0, hV, rfl, hfz, hnd⟩ := hW
  have hA : DataW.TrodAll enc Tryz.prog W 0 (fun _ => true) true Tryz.f3.params.toList args.toList ds p := hA0
  rw [Tryz.params3] at hA hval
  obtain ⟨v, v', d, d', p, p', rfl, rfl, rfl, ⟨n, h0⟩, ⟨n', h0'⟩⟩ := trodAll_two hA
  obtain ⟨rfl, rfl⟩ := trodVars_none hV
  obtain ⟨l, u, hu, hs, hr⟩ := open_polys h0 (fun x hx => by
    have := List.all_eq_true.1 hsz x (DataW.weights_mem_each (j := 0) (t := 22) (by rw [Tryz.params3]; rfl) rfl x hx)
    simpa using this)
  obtain ⟨l', u', hu', hs', hr'⟩ := open_polys h0' (fun x hx => by
    have := List.all_eq_true.1 hsz x (DataW.weights_mem_each (j := 1) (t := 22) (by rw [Tryz.params3]; rfl) rfl x hx)
    simpa using this)
  obtain rfl := cells_one Tryz.underlying22 (hval 0 22 v rfl rfl) hu
  obtain rfl := cells_one Tryz.underlying22 (hval 1 22 v' rfl rfl) hu'
  refine (run_law (c := cfg) call_ok (textWrites_ev .ro .ro l l' hs hs') (tab_start hL) (vals := [v, v']) ⟨rv_of_rd hr, rv_of_rd hr', trivial⟩ (fun x hx => by
    simp at hx
    rcases hx with rfl | rfl <;> rfl)).mono fun e W' ⟨he, hb⟩ => ?_
  subst he
  exact ⟨_, rfl, post_true (tb := 4) laidOut (by rw [Tryz.params3]; intro t ht; simp at ht; subst ht; exact ⟨by kernel_rfl, of_decide_eq_true (by kernel_rfl)⟩) hW' rfl rfl Tryz.underlying4 rfl rfl rfl hb⟩

theorem textWrites_reads (os : Os) {H : Type} (enc : TypeId × Value → H) : ∃ places, DataW.whole enc Tryz.prog ((World.doorLaid Tryz.prog 62 os).forCall (fun _ _ => 0) ⟨#[], #[.slice none 0 0, .slice none 0 0], []⟩).memory Tryz.f3.params.toList Rows.textWritesSpec.vars false #[Value.slice none 0 0, Value.slice none 0 0].toList 8 = some ([.nil, .nil], [], places) :=
  ⟨[], by kernel_rfl⟩
theorem textWrites_laid (os : Os) : laidMet Tryz.prog Rows.textWritesRow.laid ((World.doorLaid Tryz.prog 62 os).forCall (fun _ _ => 0) ⟨#[], #[.slice none 0 0, .slice none 0 0], []⟩).memory :=
  laidMet_of_run' 8 (by kernel_rfl) (by kernel_rfl)

theorem textWrites_lifted (os : Os) (started : os.Started) (H : Type) (enc : TypeId × Value → H) (F : Stop.Interp) :
    ReturnsInHanded {} Tryz.checked os 3 .any ((OpenSpec.ofChange Rows.textWritesSpec).preRow enc Tryz.prog Tryz.f3 Rows.textWritesRow.domain false Rows.textWritesRow.laid) (((OpenSpec.ofChange Rows.textWritesSpec).at F).post enc Tryz.prog Tryz.f3 false true false false) := by
  obtain ⟨places, hx⟩ := textWrites_reads os enc
  refine returnsInHanded_of_row (C := Tryz.checked) (s := OpenSpec.ofChange Rows.textWritesSpec) own started (by kernel_rfl) Tryz.func3
    (witness_row_atRef (enc := enc) (C := Tryz.checked) false (World.doorLaid Tryz.prog 62 os) #[.slice none 0 0, .slice none 0 0] rfl (by kernel_rfl) (by kernel_rfl) (by kernel_rfl)
      (OpenSpec.preRow_of_cond 8 hx (by kernel_rfl) (fun k hk => by cases hk) (by kernel_rfl) (textWrites_laid os))) ?_
  intro W base args ds gs before hval hW _ _ hsz hL _ _
  exact textWrites_contract H enc W base args ds gs before hval hW hsz hL

theorem textWrites_said : Rows.TextWritesSaid :=
  OpenClaim.holds_of_cond 3 Tryz.f3 rfl rfl rfl rfl rfl rfl rfl ⟨rfl, rfl, rfl, rfl, rfl⟩ rfl rfl rfl rfl rfl (by kernel_rfl) Tryz.func3 (by kernel_rfl)
    (of_decide_eq_true (by kernel_rfl)) (by unfold Func.isWrapper; first | (rw [if_pos (by decide +kernel)]; kernel_rfl) | (rw [if_neg (by decide +kernel)]; exact ⟨rfl, rfl⟩))
    (fun os started H enc _ F => by rw [OpenClaim.pre_eq_preRow]; exact textWrites_lifted os started H enc F)

theorem textWrites_plain (f : FuncId) (fn : Func) (hf : Tryz.pinned.checked.prog.funcNamed "cobweb/cobweblaw20.TextWrites" = some f) (hfn : Tryz.pinned.checked.prog.funcs[f]? = some fn) :
    true = Tryz.pinned.checked.prog.looks [] ∧ ∀ (j : Nat) t, fn.params[j]? = some t → Tryz.pinned.checked.prog.wantsStandIn t = false := by
  obtain rfl : f = 3 := Option.some.inj ((show Tryz.prog.funcNamed "cobweb/cobweblaw20.TextWrites" = some 3 by kernel_rfl).symm.trans hf) |>.symm
  obtain rfl : fn = Tryz.f3 := (Option.some.inj (Tryz.func3.symm.trans hfn)).symm
  refine ⟨by kernel_rfl, fun j t ht => ?_⟩
  rw [Tryz.params3] at ht
  obtain rfl : t = 22 := by simpa using Array.mem_of_getElem? ht
  exact (show Tryz.prog.wantsStandIn 22 = false by kernel_rfl)

/-- The card. -/
theorem textWrites_card : Rows.TextWritesCardSaid :=
  Claim7.holds_tied_plain_at .later [] _ _ _ _ textWrites_said (fun _ h => by cases h) (by kernel_rfl) (fun _ h => by cases h) textWrites_row_tie rfl ⟨rfl, rfl⟩ (by kernel_rfl) rfl textWrites_plain (by kernel_rfl)

end Go.Proofs.YtbfllngekcckeaaGreatDoor
