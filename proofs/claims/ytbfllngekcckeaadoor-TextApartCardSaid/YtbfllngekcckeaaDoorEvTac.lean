/- TextApart at the machine: the statement and its card. For every two rows of polygons the law is true, and the arguments read behind the call as they read before. Condition: none beyond the row's own cells (the listed package variables hold what the program's text lays, which the card ties). -/
import Derived.Test.YtbfllngekcckeaaDoorEvTp
import Derived.Test.YtbfllngekcckeaaDoorEvF23
import Derived.WalkKit
import Derived.ProofKit
import Derived.OpenShut
import Derived.Deep.DeepHandedRow
import Derived.Deep.DeepWitnessRowRef
import Derived.SevenTiedAt
set_option linter.unusedSimpArgs false
set_option linter.unusedVariables false
set_option maxRecDepth 100000
namespace Go.Proofs.YtbfllngekcckeaaDoor
open Go.Ev
open Go.ChangeShapes Go.WideShapes Go.ChangeAt Go.RowKit

theorem textApart_contract (H : Type) (enc : TypeId × Value → H) (W : World) (base : Nat) (args : Array Value) (ds gs : List (DataW H)) (before : List MemPlace)
    (hval : ∀ (j : Nat) t v, Tryd.f6.params[j]? = some t → args[j]? = some v → Value.okWide Tryd.prog W .any base t v)
    (hW : DataW.Whole enc Tryd.prog Tryd.f6.params.toList Rows.textApartSpec.vars false W args.toList ds gs before)
    (hsz : (DataW.weightsEach Tryd.prog (Tryd.f6.params.toList ++ (OpenSpec.ofChange Rows.textApartSpec).bare.plain.varTypes Tryd.prog) (ds ++ gs)).all (· ≤ reachBytes) = true) (hL : laidMetH Tryd.prog Rows.textApartRow.laid W) :
    Calls Tryd.prog 6 args W fun e W' => ∃ v, e = .returned v ∧ Rows.textApartSpec.post enc Tryd.prog Tryd.f6 false true false false W args v W' := by
  have hW' := hW
  obtain ⟨p, q, hA0, hV, rfl, hfz, hnd⟩ := hW
  have hA : DataW.TrodAll enc Tryd.prog W 0 (fun _ => true) true Tryd.f6.params.toList args.toList ds p := hA0
  rw [Tryd.params6] at hA hval
  obtain ⟨v, v', d, d', p, p', rfl, rfl, rfl, ⟨n, h0⟩, ⟨n', h0'⟩⟩ := trodAll_two hA
  obtain ⟨rfl, rfl⟩ := trodVars_none hV
  obtain ⟨l, u, hu, hs, hr⟩ := open_polys h0 (fun x hx => by
    have := List.all_eq_true.1 hsz x (DataW.weights_mem_each (j := 0) (t := 22) (by rw [Tryd.params6]; rfl) rfl x hx)
    simpa using this)
  obtain ⟨l', u', hu', hs', hr'⟩ := open_polys h0' (fun x hx => by
    have := List.all_eq_true.1 hsz x (DataW.weights_mem_each (j := 1) (t := 22) (by rw [Tryd.params6]; rfl) rfl x hx)
    simpa using this)
  obtain rfl := cells_one Tryd.underlying22 (hval 0 22 v rfl rfl) hu
  obtain rfl := cells_one Tryd.underlying22 (hval 1 22 v' rfl rfl) hu'
  refine (run_law (c := cfg) call_ok (textApart_ev .ro .ro l l' hs hs') (tab_start hL) (vals := [v, v']) ⟨rv_of_rd hr, rv_of_rd hr', trivial⟩ (fun x hx => by
    simp at hx
    rcases hx with rfl | rfl <;> rfl)).mono fun e W' ⟨he, hb⟩ => ?_
  subst he
  exact ⟨_, rfl, post_true (tb := 4) laidOut (by rw [Tryd.params6]; intro t ht; simp at ht; subst ht; exact ⟨by kernel_rfl, of_decide_eq_true (by kernel_rfl)⟩) hW' rfl rfl Tryd.underlying4 rfl rfl rfl hb⟩

theorem textApart_reads (os : Os) {H : Type} (enc : TypeId × Value → H) : ∃ places, DataW.whole enc Tryd.prog ((World.doorLaid Tryd.prog 62 os).forCall (fun _ _ => 0) ⟨#[], #[.slice none 0 0, .slice none 0 0], []⟩).memory Tryd.f6.params.toList Rows.textApartSpec.vars false #[Value.slice none 0 0, Value.slice none 0 0].toList 8 = some ([.nil, .nil], [], places) :=
  ⟨[], by kernel_rfl⟩
theorem textApart_laid (os : Os) : laidMet Tryd.prog Rows.textApartRow.laid ((World.doorLaid Tryd.prog 62 os).forCall (fun _ _ => 0) ⟨#[], #[.slice none 0 0, .slice none 0 0], []⟩).memory :=
  laidMet_of_run' 8 (by kernel_rfl) (by kernel_rfl)

theorem textApart_lifted (os : Os) (started : os.Started) (H : Type) (enc : TypeId × Value → H) (F : Stop.Interp) :
    ReturnsInHanded {} Tryd.checked os 6 .any ((OpenSpec.ofChange Rows.textApartSpec).preRow enc Tryd.prog Tryd.f6 Rows.textApartRow.domain false Rows.textApartRow.laid) (((OpenSpec.ofChange Rows.textApartSpec).at F).post enc Tryd.prog Tryd.f6 false true false false) := by
  obtain ⟨places, hx⟩ := textApart_reads os enc
  refine returnsInHanded_of_row (C := Tryd.checked) (s := OpenSpec.ofChange Rows.textApartSpec) own started (by kernel_rfl) Tryd.func6
    (witness_row_atRef (enc := enc) (C := Tryd.checked) false (World.doorLaid Tryd.prog 62 os) #[.slice none 0 0, .slice none 0 0] rfl (by kernel_rfl) (by kernel_rfl) (by kernel_rfl)
      (OpenSpec.preRow_of_cond 8 hx (by kernel_rfl) (fun k hk => by cases hk) (by kernel_rfl) (textApart_laid os))) ?_
  intro W base args ds gs before hval hW _ _ hsz hL _ _
  exact textApart_contract H enc W base args ds gs before hval hW hsz hL

theorem textApart_said : Rows.TextApartSaid :=
  OpenClaim.holds_of_cond 6 Tryd.f6 rfl rfl rfl rfl rfl rfl rfl ⟨rfl, rfl, rfl, rfl, rfl⟩ rfl rfl rfl rfl rfl (by kernel_rfl) Tryd.func6 (by kernel_rfl)
    (of_decide_eq_true (by kernel_rfl)) (by unfold Func.isWrapper; first | (rw [if_pos (by decide +kernel)]; kernel_rfl) | (rw [if_neg (by decide +kernel)]; exact ⟨rfl, rfl⟩))
    (fun os started H enc _ F => by rw [OpenClaim.pre_eq_preRow]; exact textApart_lifted os started H enc F)

theorem textApart_plain (f : FuncId) (fn : Func) (hf : Tryd.pinned.checked.prog.funcNamed "cobweb/cobweblaw20.TextApart" = some f) (hfn : Tryd.pinned.checked.prog.funcs[f]? = some fn) :
    true = Tryd.pinned.checked.prog.looks [] ∧ ∀ (j : Nat) t, fn.params[j]? = some t → Tryd.pinned.checked.prog.wantsStandIn t = false := by
  obtain rfl : f = 6 := Option.some.inj ((show Tryd.prog.funcNamed "cobweb/cobweblaw20.TextApart" = some 6 by kernel_rfl).symm.trans hf) |>.symm
  obtain rfl : fn = Tryd.f6 := (Option.some.inj (Tryd.func6.symm.trans hfn)).symm
  refine ⟨by kernel_rfl, fun j t ht => ?_⟩
  rw [Tryd.params6] at ht
  obtain rfl : t = 22 := by simpa using Array.mem_of_getElem? ht
  exact (show Tryd.prog.wantsStandIn 22 = false by kernel_rfl)

/-- The card. -/
theorem textApart_card : Rows.TextApartCardSaid :=
  Claim7.holds_tied_plain_at .later [] _ _ _ _ textApart_said (fun _ h => by cases h) (by kernel_rfl) (fun _ h => by cases h) textApart_row_tie rfl ⟨rfl, rfl⟩ (by kernel_rfl) rfl textApart_plain (by kernel_rfl)

end Go.Proofs.YtbfllngekcckeaaDoor
