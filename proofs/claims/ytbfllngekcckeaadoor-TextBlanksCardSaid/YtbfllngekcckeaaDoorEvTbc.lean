/- TextBlanks at the machine: the statement and its card. For every row of polygons and every row of places the law is true, and the arguments read behind the call as they read before. Condition: none beyond the row's own cells (the listed package variables hold what the program's text lays, which the card ties). -/
import Derived.Test.YtbfllngekcckeaaDoorEvTp
import Derived.Test.YtbfllngekcckeaaDoorEvF33
import Derived.WalkKit
import Derived.ProofKit
import Derived.OpenShut
import Derived.Deep.DeepHandedRow
import Derived.Deep.DeepWitnessRowRef
import Derived.SevenTiedAt
set_option linter.unusedSimpArgs false
set_option linter.unusedVariables false
set_option maxRecDepth 100000
namespace Go.Proofs.YtbfllngekcckeaaDoor
open Go.Ev
open Go.ChangeShapes Go.WideShapes Go.ChangeAt Go.RowKit

/-- Whole numbers that came in. -/
theorem open_ints {H : Type} {enc : TypeId × Value → H} {W : World} {fuel : Nat} {cs : List Value} {d : DataW H} {ps : List MemPlace} (h : DataW.trod enc Tryd.prog W 0 (fun _ => true) true fuel 38 cs = some (d, ps)) (hw : ∀ x ∈ d.weights Tryd.prog 38, x ≤ reachBytes) :
    ∃ (l : List Int) (v : Value), cs = [v] ∧ (∀ x ∈ l, -9223372036854775808 ≤ x ∧ x ≤ 9223372036854775807) ∧ l.length < 9223372036854775807 ∧ RD (startG W) (.sl 1 (encN l)) v := by
  have hr : reachBytes = 140737488351232 := rfl
  obtain ⟨l, v, h1, h2, h3, h4⟩ := open_sl1 (α := Int) (fun b => .int .i64 b) (fun x => -9223372036854775808 ≤ x ∧ x ≤ 9223372036854775807) Tryd.underlying38 (by kernel_rfl) (of_decide_eq_true (by kernel_rfl)) (fun n v d ps h hw => by
    obtain ⟨m, e1, _, e2⟩ := DataW.trod_int Tryd.underlying3 h
    simp only [Lit.wf, Bool.and_eq_true, decide_eq_true_eq, IntKind.min, IntKind.max, IntKind.signed, IntKind.bits] at e2
    cases e1
    refine ⟨m, by simp at e2; omega, ?_⟩
    simp only [RD]) h hw
  exact ⟨l, v, h1, h3, by omega, h4⟩

theorem textBlanks_contract (H : Type) (enc : TypeId × Value → H) (W : World) (base : Nat) (args : Array Value) (ds gs : List (DataW H)) (before : List MemPlace)
    (hval : ∀ (j : Nat) t v, Tryd.f5.params[j]? = some t → args[j]? = some v → Value.okWide Tryd.prog W .any base t v)
    (hW : DataW.Whole enc Tryd.prog Tryd.f5.params.toList Rows.textBlanksSpec.vars false W args.toList ds gs before)
    (hsz : (DataW.weightsEach Tryd.prog (Tryd.f5.params.toList ++ (OpenSpec.ofChange Rows.textBlanksSpec).bare.plain.varTypes Tryd.prog) (ds ++ gs)).all (· ≤ reachBytes) = true) (hL : laidMetH Tryd.prog Rows.textBlanksRow.laid W) :
    Calls Tryd.prog 5 args W fun e W' => ∃ v, e = .returned v ∧ Rows.textBlanksSpec.post enc Tryd.prog Tryd.f5 false true false false W args v W' := by
  have hW' := hW
  obtain ⟨p, q, hA0, hV, rfl, hfz, hnd⟩ := hW
  have hA : DataW.TrodAll enc Tryd.prog W 0 (fun _ => true) true Tryd.f5.params.toList args.toList ds p := hA0
  rw [Tryd.params5] at hA hval
  obtain ⟨v, v', d, d', p, p', rfl, rfl, rfl, ⟨n, h0⟩, ⟨n', h0'⟩⟩ := trodAll_two hA
  obtain ⟨rfl, rfl⟩ := trodVars_none hV
  obtain ⟨l, u, hu, hs, hr⟩ := open_polys h0 (fun x hx => by
    have := List.all_eq_true.1 hsz x (DataW.weights_mem_each (j := 0) (t := 22) (by rw [Tryd.params5]; rfl) rfl x hx)
    simpa using this)
  obtain ⟨l', u', hu', hs', hn', hr'⟩ := open_ints h0' (fun x hx => by
    have := List.all_eq_true.1 hsz x (DataW.weights_mem_each (j := 1) (t := 38) (by rw [Tryd.params5]; rfl) rfl x hx)
    simpa using this)
  obtain rfl := cells_one Tryd.underlying22 (hval 0 22 v rfl rfl) hu
  obtain rfl := cells_one Tryd.underlying38 (hval 1 38 v' rfl rfl) hu'
  refine (run_law (c := cfg) call_ok (textBlanks_ev .ro .ro l l' hs hs' hn') (tab_start hL) (vals := [v, v']) ⟨rv_of_rd hr, rv_of_rd hr', trivial⟩ (fun x hx => by
    simp at hx
    rcases hx with rfl | rfl <;> rfl)).mono fun e W' ⟨he, hb⟩ => ?_
  subst he
  exact ⟨_, rfl, post_true (tb := 4) laidOut (by
    rw [Tryd.params5]
    intro t ht
    simp at ht
    rcases ht with rfl | rfl <;> exact ⟨by kernel_rfl, of_decide_eq_true (by kernel_rfl)⟩) hW' rfl rfl Tryd.underlying4 rfl rfl rfl hb⟩

theorem textBlanks_reads (os : Os) {H : Type} (enc : TypeId × Value → H) : ∃ places, DataW.whole enc Tryd.prog ((World.doorLaid Tryd.prog 62 os).forCall (fun _ _ => 0) ⟨#[], #[.slice none 0 0, .slice none 0 0], []⟩).memory Tryd.f5.params.toList Rows.textBlanksSpec.vars false #[Value.slice none 0 0, Value.slice none 0 0].toList 8 = some ([.nil, .nil], [], places) :=
  ⟨[], by kernel_rfl⟩
theorem textBlanks_laid (os : Os) : laidMet Tryd.prog Rows.textBlanksRow.laid ((World.doorLaid Tryd.prog 62 os).forCall (fun _ _ => 0) ⟨#[], #[.slice none 0 0, .slice none 0 0], []⟩).memory :=
  laidMet_of_run' 8 (by kernel_rfl) (by kernel_rfl)

theorem textBlanks_lifted (os : Os) (started : os.Started) (H : Type) (enc : TypeId × Value → H) (F : Stop.Interp) :
    ReturnsInHanded {} Tryd.checked os 5 .any ((OpenSpec.ofChange Rows.textBlanksSpec).preRow enc Tryd.prog Tryd.f5 Rows.textBlanksRow.domain false Rows.textBlanksRow.laid) (((OpenSpec.ofChange Rows.textBlanksSpec).at F).post enc Tryd.prog Tryd.f5 false true false false) := by
  obtain ⟨places, hx⟩ := textBlanks_reads os enc
  refine returnsInHanded_of_row (C := Tryd.checked) (s := OpenSpec.ofChange Rows.textBlanksSpec) own started (by kernel_rfl) Tryd.func5
    (witness_row_atRef (enc := enc) (C := Tryd.checked) false (World.doorLaid Tryd.prog 62 os) #[.slice none 0 0, .slice none 0 0] rfl (by kernel_rfl) (by kernel_rfl) (by kernel_rfl)
      (OpenSpec.preRow_of_cond 8 hx (by kernel_rfl) (fun k hk => by cases hk) (by kernel_rfl) (textBlanks_laid os))) ?_
  intro W base args ds gs before hval hW _ _ hsz hL _ _
  exact textBlanks_contract H enc W base args ds gs before hval hW hsz hL

theorem textBlanks_said : Rows.TextBlanksSaid :=
  OpenClaim.holds_of_cond 5 Tryd.f5 rfl rfl rfl rfl rfl rfl rfl ⟨rfl, rfl, rfl, rfl, rfl⟩ rfl rfl rfl rfl rfl (by kernel_rfl) Tryd.func5 (by kernel_rfl)
    (of_decide_eq_true (by kernel_rfl)) (by unfold Func.isWrapper; first | (rw [if_pos (by decide +kernel)]; kernel_rfl) | (rw [if_neg (by decide +kernel)]; exact ⟨rfl, rfl⟩))
    (fun os started H enc _ F => by rw [OpenClaim.pre_eq_preRow]; exact textBlanks_lifted os started H enc F)

theorem textBlanks_plain (f : FuncId) (fn : Func) (hf : Tryd.pinned.checked.prog.funcNamed "cobweb/cobweblaw20.TextBlanks" = some f) (hfn : Tryd.pinned.checked.prog.funcs[f]? = some fn) :
    true = Tryd.pinned.checked.prog.looks [] ∧ ∀ (j : Nat) t, fn.params[j]? = some t → Tryd.pinned.checked.prog.wantsStandIn t = false := by
  obtain rfl : f = 5 := Option.some.inj ((show Tryd.prog.funcNamed "cobweb/cobweblaw20.TextBlanks" = some 5 by kernel_rfl).symm.trans hf) |>.symm
  obtain rfl : fn = Tryd.f5 := (Option.some.inj (Tryd.func5.symm.trans hfn)).symm
  refine ⟨by kernel_rfl, fun j t ht => ?_⟩
  rw [Tryd.params5] at ht
  have ht := Array.mem_of_getElem? ht
  simp at ht
  rcases ht with rfl | rfl
  · exact (show Tryd.prog.wantsStandIn 22 = false by kernel_rfl)
  · exact (show Tryd.prog.wantsStandIn 38 = false by kernel_rfl)

/-- The card. -/
theorem textBlanks_card : Rows.TextBlanksCardSaid :=
  Claim7.holds_tied_plain_at .later [] _ _ _ _ textBlanks_said (fun _ h => by cases h) (by kernel_rfl) (fun _ h => by cases h) textBlanks_row_tie rfl ⟨rfl, rfl⟩ (by kernel_rfl) rfl textBlanks_plain (by kernel_rfl)

end Go.Proofs.YtbfllngekcckeaaDoor
