/- TextUnpacks at the machine: the statement and its card. For every row of bytes the law is true, and the argument reads behind the call as it read before. Condition: none beyond the row's own cells (the listed package variables hold what the program's text lays, which the card ties). -/
import Derived.Test.YtbfllngekcckeaaDoorEvTp
import Derived.Test.YtbfllngekcckeaaDoorEvF16
import Derived.WalkKit
import Derived.ProofKit
import Derived.OpenShut
import Derived.Deep.DeepHandedRow
import Derived.Deep.DeepWitnessRowRef
import Derived.SevenTiedAt
set_option linter.unusedSimpArgs false
set_option linter.unusedVariables false
set_option maxRecDepth 100000
namespace Go.Proofs.YtbfllngekcckeaaDoor
open Go.Ev
open Go.ChangeShapes Go.WideShapes Go.ChangeAt Go.RowKit

/-- Bytes that came in. -/
theorem open_bytes {H : Type} {enc : TypeId × Value → H} {W : World} {fuel : Nat} {cs : List Value} {d : DataW H} {ps : List MemPlace} (h : DataW.trod enc Tryd.prog W 0 (fun _ => true) true fuel 25 cs = some (d, ps)) (hw : ∀ x ∈ d.weights Tryd.prog 25, x ≤ reachBytes) :
    ∃ (l : List UInt8) (v : Value), cs = [v] ∧ RD (startG W) (.sl 1 (bytesOf l)) v := by
  obtain ⟨l, v, h1, _, _, h4⟩ := open_sl1 (α := UInt8) (fun b => .int .u8 b.toNat) (fun _ => True) Tryd.underlying25 (by kernel_rfl) (of_decide_eq_true (by kernel_rfl)) (fun n v d ps h hw => by
    obtain ⟨m, e1, _, e2⟩ := DataW.trod_int Tryd.underlying5 h
    simp only [Lit.wf, Bool.and_eq_true, decide_eq_true_eq, IntKind.min, IntKind.max, IntKind.signed, IntKind.bits] at e2
    refine ⟨UInt8.ofNat m.toNat, trivial, ?_⟩
    cases e1
    simp only [RD]
    congr 1
    rw [UInt8.toNat_ofNat']
    simp at e2
    omega) h hw
  exact ⟨l, v, h1, h4⟩

theorem textUnpacks_contract (H : Type) (enc : TypeId × Value → H) (W : World) (base : Nat) (args : Array Value) (ds gs : List (DataW H)) (before : List MemPlace)
    (hval : ∀ (j : Nat) t v, Tryd.f4.params[j]? = some t → args[j]? = some v → Value.okWide Tryd.prog W .any base t v)
    (hW : DataW.Whole enc Tryd.prog Tryd.f4.params.toList Rows.textUnpacksSpec.vars false W args.toList ds gs before)
    (hsz : (DataW.weightsEach Tryd.prog (Tryd.f4.params.toList ++ (OpenSpec.ofChange Rows.textUnpacksSpec).bare.plain.varTypes Tryd.prog) (ds ++ gs)).all (· ≤ reachBytes) = true) (hL : laidMetH Tryd.prog Rows.textUnpacksRow.laid W) :
    Calls Tryd.prog 4 args W fun e W' => ∃ v, e = .returned v ∧ Rows.textUnpacksSpec.post enc Tryd.prog Tryd.f4 false true false false W args v W' := by
  have hW' := hW
  obtain ⟨p, q, hA0, hV, rfl, hfz, hnd⟩ := hW
  have hA : DataW.TrodAll enc Tryd.prog W 0 (fun _ => true) true Tryd.f4.params.toList args.toList ds p := hA0
  rw [Tryd.params4] at hA hval
  obtain ⟨v, d, rfl, rfl, n, h0⟩ := trodAll_one hA
  obtain ⟨rfl, rfl⟩ := trodVars_none hV
  obtain ⟨l, u, hu, hr⟩ := open_bytes h0 (fun x hx => by
    have := List.all_eq_true.1 hsz x (DataW.weights_mem_each (j := 0) (t := 25) (by rw [Tryd.params4]; rfl) rfl x hx)
    simpa using this)
  obtain rfl := cells_one Tryd.underlying25 (hval 0 25 v rfl rfl) hu
  refine (run_law (c := cfg) call_ok (textUnpacks_ev l) (tab_start hL) (vals := [v]) ⟨rv_of_rd hr, trivial⟩ (fun x hx => by simp at hx; subst hx; rfl)).mono fun e W' ⟨he, hb⟩ => ?_
  subst he
  exact ⟨_, rfl, post_true (tb := 4) laidOut (by rw [Tryd.params4]; intro t ht; simp at ht; subst ht; exact ⟨by kernel_rfl, of_decide_eq_true (by kernel_rfl)⟩) hW' rfl rfl Tryd.underlying4 rfl rfl rfl hb⟩

theorem textUnpacks_reads (os : Os) {H : Type} (enc : TypeId × Value → H) : ∃ places, DataW.whole enc Tryd.prog ((World.doorLaid Tryd.prog 62 os).forCall (fun _ _ => 0) ⟨#[], #[.slice none 0 0], []⟩).memory Tryd.f4.params.toList Rows.textUnpacksSpec.vars false #[Value.slice none 0 0].toList 8 = some ([.nil], [], places) :=
  ⟨[], by kernel_rfl⟩
theorem textUnpacks_laid (os : Os) : laidMet Tryd.prog Rows.textUnpacksRow.laid ((World.doorLaid Tryd.prog 62 os).forCall (fun _ _ => 0) ⟨#[], #[.slice none 0 0], []⟩).memory :=
  laidMet_of_run' 8 (by kernel_rfl) (by kernel_rfl)

theorem textUnpacks_lifted (os : Os) (started : os.Started) (H : Type) (enc : TypeId × Value → H) (F : Stop.Interp) :
    ReturnsInHanded {} Tryd.checked os 4 .any ((OpenSpec.ofChange Rows.textUnpacksSpec).preRow enc Tryd.prog Tryd.f4 Rows.textUnpacksRow.domain false Rows.textUnpacksRow.laid) (((OpenSpec.ofChange Rows.textUnpacksSpec).at F).post enc Tryd.prog Tryd.f4 false true false false) := by
  obtain ⟨places, hx⟩ := textUnpacks_reads os enc
  refine returnsInHanded_of_row (C := Tryd.checked) (s := OpenSpec.ofChange Rows.textUnpacksSpec) own started (by kernel_rfl) Tryd.func4
    (witness_row_atRef (enc := enc) (C := Tryd.checked) false (World.doorLaid Tryd.prog 62 os) #[.slice none 0 0] rfl (by kernel_rfl) (by kernel_rfl) (by kernel_rfl)
      (OpenSpec.preRow_of_cond 8 hx (by kernel_rfl) (fun k hk => by cases hk) (by kernel_rfl) (textUnpacks_laid os))) ?_
  intro W base args ds gs before hval hW _ _ hsz hL _ _
  exact textUnpacks_contract H enc W base args ds gs before hval hW hsz hL

theorem textUnpacks_said : Rows.TextUnpacksSaid :=
  OpenClaim.holds_of_cond 4 Tryd.f4 rfl rfl rfl rfl rfl rfl rfl ⟨rfl, rfl, rfl, rfl, rfl⟩ rfl rfl rfl rfl rfl (by kernel_rfl) Tryd.func4 (by kernel_rfl)
    (of_decide_eq_true (by kernel_rfl)) (by unfold Func.isWrapper; first | (rw [if_pos (by decide +kernel)]; kernel_rfl) | (rw [if_neg (by decide +kernel)]; exact ⟨rfl, rfl⟩))
    (fun os started H enc _ F => by rw [OpenClaim.pre_eq_preRow]; exact textUnpacks_lifted os started H enc F)

theorem textUnpacks_plain (f : FuncId) (fn : Func) (hf : Tryd.pinned.checked.prog.funcNamed "cobweb/cobweblaw20.TextUnpacks" = some f) (hfn : Tryd.pinned.checked.prog.funcs[f]? = some fn) :
    true = Tryd.pinned.checked.prog.looks [] ∧ ∀ (j : Nat) t, fn.params[j]? = some t → Tryd.pinned.checked.prog.wantsStandIn t = false := by
  obtain rfl : f = 4 := Option.some.inj ((show Tryd.prog.funcNamed "cobweb/cobweblaw20.TextUnpacks" = some 4 by kernel_rfl).symm.trans hf) |>.symm
  obtain rfl : fn = Tryd.f4 := (Option.some.inj (Tryd.func4.symm.trans hfn)).symm
  refine ⟨by kernel_rfl, fun j t ht => ?_⟩
  rw [Tryd.params4] at ht
  obtain rfl : t = 25 := by simpa using Array.mem_of_getElem? ht
  exact (show Tryd.prog.wantsStandIn 25 = false by kernel_rfl)

/-- The card. -/
theorem textUnpacks_card : Rows.TextUnpacksCardSaid :=
  Claim7.holds_tied_plain_at .later [] _ _ _ _ textUnpacks_said (fun _ h => by cases h) (by kernel_rfl) (fun _ h => by cases h) textUnpacks_row_tie rfl ⟨rfl, rfl⟩ (by kernel_rfl) rfl textUnpacks_plain (by kernel_rfl)

end Go.Proofs.YtbfllngekcckeaaDoor
