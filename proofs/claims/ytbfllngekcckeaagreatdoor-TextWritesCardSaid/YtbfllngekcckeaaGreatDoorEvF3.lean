/- few, May. May. -/
import Derived.Test.YtbfllngekcckeaaGreatDoorEvF1
namespace Go.Proofs.YtbfllngekcckeaaGreatDoor
open Go.Ev
set_option linter.unusedSimpArgs false
set_option linter.unusedVariables false
set_option maxHeartbeats 400000
set_option maxRecDepth 4000

abbrev Rg := List (Int × Int)
abbrev Pg := List Rg

def fewG : Nat → Pg → Option Nat
  | n, [] => some n
  | n, r :: rs => if n + 1 + min r.length 200 > 150 then none else fewG (n + 1 + min r.length 200) rs
def fewL : Nat → List Pg → Bool
  | n, [] => decide (n ≤ 150)
  | n, g :: gs => match fewG (n + 1) g with
    | none => false
    | some n' => fewL n' gs

theorem few_ev (k : K) (l : List Pg) (fr : Fr) (fs : Frames) (hn : l.length < 1152921504606846976) (hg : ∀ g ∈ l, g.length < 1152921504606846976 ∧ ∀ r ∈ g, r.length < 1152921504606846976) :
    callE cfg 4 [.c (.sl k 1 (encL l))] (fr :: fs) = some (some (.c (.bool (fewL 0 l))), fr :: fs) := by
  refine callE_code (fn := Tryz.f4) (rs := [.tmp 2]) (by kernel_rfl) (by kernel_rfl) (by kernel_rfl) rfl rfl rfl (by show 1 ≤ 34; decide) ?_
  simp only [resTmpsR, List.filterMap, evC_ret, evC_region, evC_seq, evC_loop, blockEx, feedL, feedOf, runL, stepW, wantedV, Ev.step, opv, ev, getT, binV, intOp, strOp, put, params, constV, keep, List.map, List.contains_nil, Bool.or_self, Nat.reduceEqDiff, if_true, if_false, reduceCtorEq, Nat.reduceBEq, give, V.hasSl, C.isSl, V.strip, C.strip, feeds, List.append_nil, List.nil_append, List.contains_cons, Bool.false_eq_true, List.getElem?_toArray, constC, lenV, List.getElem?_cons_zero, Bool.or_false, beq_self_eq_true, List.map_cons, finishR, resVs, resV, freezeVs, freezeV, freezeC, live_4_0, und_22, encL_len]
  let σ : Nat × Nat → S := fun (j, n) => { m := [(2, .c (.bool false)), (3, .c (.int .i64 n)), (8, .c (.sl k.strip 1 (encL l))), (9, .c (.int .i64 l.length)), (10, .c (.int .i64 j))], fs := [] :: fr :: fs }
  generalize hL : loopE cfg (callE cfg) itE 4 [2] _ _ _ = out
  have hout : ∃ ex s, out = some (ex, s) ∧ s.fs = [] :: fr :: fs ∧ ((ex = .exit 0 ∧ ∃ n : Nat, getT s.m 3 = .c (.int .i64 n) ∧ fewL 0 l = decide (n ≤ 150)) ∨ (ex = .ret ∧ getT s.m 2 = .c (.bool false) ∧ fewL 0 l = false)) := by
    rw [← hL]
    refine loopE_inv σ (fun (j, n) => l.length - j) (fun (j, n) => j ≤ l.length ∧ n ≤ 150 + j ∧ fewL 0 l = fewL n (l.drop j)) (fun ex s => s.fs = [] :: fr :: fs ∧ ((ex = .exit 0 ∧ ∃ n : Nat, getT s.m 3 = .c (.int .i64 n) ∧ fewL 0 l = decide (n ≤ 150)) ∨ (ex = .ret ∧ getT s.m 2 = .c (.bool false) ∧ fewL 0 l = false))) (fun (j, n) ⟨hj, hn1, hr⟩ => ?_) (0, 0) ⟨by omega, by omega, rfl⟩
    rcases Nat.lt_or_ge j l.length with hj' | hj'
    · obtain ⟨g, h0, hd⟩ := drop_get hj'
      rw [hd] at hr
      simp only [fewL] at hr
      have hgm : g ∈ l := List.mem_of_getElem? h0
      have h1 : (j : Int) < l.length := by omega
      have h2 : ((j : Int)).toNat = j := by omega
      have h3 : (0 : Int) ≤ j := by omega
      have he := encL_get h0
      have hgl := (hg g hgm).1
      have h6 : IntKind.i64.wrap ((n : Int) + 1) = ((n + 1 : Nat) : Int) := by rw [wrap64] <;> omega
      simp only [σ, evC_skip, evC_region, evC_seq, evC_cond, evC_loop, evC_bseq, blockEx, feedL, feedOf, runL, stepW, wantedV, Ev.step, opv, ev, getT, binV, intOp, strOp, put, constV, keep, List.map, List.contains_nil, Bool.or_self, Nat.reduceEqDiff, if_true, if_false, decide_true, Nat.reduceBEq, give, V.hasSl, C.isSl, V.strip, C.strip, feeds, List.append_nil, List.contains_cons, Bool.false_eq_true, List.getElem?_toArray, constC, lenV, List.getElem?_cons_zero, and_self, readV, D.toC, List.drop_zero, List.map_cons, kstrip_ro, Nat.lt_add_one, live_4_2, agg_37, esz_22, und_37, encL_len, encG_len, h1, h2, h3, he, h6]
      let τ : Nat × Nat → S := fun (i, m) => { m := [(2, .c (.bool false)), (3, .c (.int .i64 m)), (8, .c (.sl k.strip 1 (encL l))), (9, .c (.int .i64 l.length)), (10, .c (.int .i64 j)), (16, .c (.sl .ro 1 (encG g))), (17, .c (.int .i64 g.length)), (18, .c (.int .i64 i))], fs := [] :: fr :: fs }
      generalize hL2 : loopE cfg (callE cfg) itE 4 [2] _ _ _ = out2
      have hout2 : ∃ ex s, out2 = some (ex, s) ∧ ((ex = .exit 2 ∧ ∃ m : Nat, m ≤ 151 + j ∧ s = { m := [(2, .c (.bool false)), (3, .c (.int .i64 m)), (8, .c (.sl k.strip 1 (encL l))), (9, .c (.int .i64 l.length)), (10, .c (.int .i64 j)), (16, .c (.sl .ro 1 (encG g))), (17, .c (.int .i64 g.length)), (18, .c (.int .i64 g.length))], fs := [] :: fr :: fs } ∧ fewL 0 l = fewL m (l.drop (j + 1))) ∨ (ex = .ret ∧ s.fs = [] :: fr :: fs ∧ getT s.m 2 = .c (.bool false) ∧ fewL 0 l = false)) := by
        rw [← hL2]
        refine loopE_inv τ (fun (i, m) => g.length - i) (fun (i, m) => i ≤ g.length ∧ m ≤ 151 + j ∧ fewL 0 l = (match fewG m (g.drop i) with | none => false | some n' => fewL n' (l.drop (j + 1)))) _ (fun (i, m) ⟨hi, hm1, hr2⟩ => ?_) (0, n + 1) ⟨by omega, by omega, hr⟩
        rcases Nat.lt_or_ge i g.length with hi' | hi'
        · obtain ⟨r, k0, kd⟩ := drop_get hi'
          rw [kd] at hr2
          simp only [fewG] at hr2
          have k1 : (i : Int) < g.length := by omega
          have k2 : ((i : Int)).toNat = i := by omega
          have k3 : (0 : Int) ≤ i := by omega
          have ke := encG_get k0
          have kl := ((hg g hgm).2 r (List.mem_of_getElem? k0))
          have k4 : (if (200 : Int) < (r.length : Int) then (200 : Int) else (r.length : Int)) = ((min r.length 200 : Nat) : Int) := by split <;> omega
          have k5 : IntKind.i64.wrap (1 + ((min r.length 200 : Nat) : Int)) = ((1 + min r.length 200 : Nat) : Int) := by rw [wrap64] <;> omega
          have k6 : IntKind.i64.wrap ((m : Int) + ((1 + min r.length 200 : Nat) : Int)) = ((m + 1 + min r.length 200 : Nat) : Int) := by rw [wrap64] <;> omega
          have k7 : IntKind.i64.wrap ((i : Int) + 1) = ((i + 1 : Nat) : Int) := by rw [wrap64] <;> omega
          by_cases hc : m + 1 + min r.length 200 > 150
          · rw [if_pos hc] at hr2
            have k8 : (((m + 1 + min r.length 200 : Nat) : Int) > 150) := by omega
            simp only [τ, evC_skip, evC_ret, evC_region, evC_seq, evC_cond, evC_bseq, blockEx, feedL, feedOf, runL, stepW, wantedV, Ev.step, opv, ev, getT, binV, intOp, put, constV, List.map, List.contains_nil, Bool.or_self, Nat.reduceEqDiff, if_true, if_false, decide_true, Nat.reduceBEq, give, V.hasSl, C.isSl, V.strip, C.strip, feeds, List.append_nil, List.contains_cons, Bool.false_eq_true, List.getElem?_toArray, constC, lenV, List.getElem?_cons_zero, and_self, readV, D.toC, List.drop_zero, List.map_cons, kstrip_ro, foldC, minC, Nat.lt_add_one, agg_39, esz_37, und_39, encR_len, encG_len, k1, k2, k3, ke, k4, k5, k6, k8]
            refine ⟨_, rfl, ?_⟩
            exact Round.ret (.inr ⟨rfl, rfl, rfl, hr2⟩)
          · rw [if_neg hc] at hr2
            have k8 : ¬(((m + 1 + min r.length 200 : Nat) : Int) > 150) := by omega
            simp only [τ, evC_skip, evC_region, evC_seq, evC_cond, evC_bseq, blockEx, feedL, feedOf, runL, stepW, wantedV, Ev.step, opv, ev, getT, binV, intOp, put, constV, List.map, List.contains_nil, Bool.or_self, Nat.reduceEqDiff, if_true, if_false, decide_true, decide_false, Nat.reduceBEq, give, V.hasSl, C.isSl, V.strip, C.strip, feeds, List.append_nil, List.contains_cons, Bool.false_eq_true, List.getElem?_toArray, constC, lenV, List.getElem?_cons_zero, and_self, readV, D.toC, List.drop_zero, List.map_cons, kstrip_ro, foldC, minC, Nat.lt_add_one, agg_39, esz_37, und_39, encR_len, encG_len, k1, k2, k3, ke, k4, k5, k6, k7, k8]
            refine ⟨_, rfl, ?_⟩
            exact Round.again (i + 1, m + 1 + min r.length 200) rfl ⟨by omega, by omega, hr2⟩ (by simp only; omega)
        · have k1 : ¬((i : Int) < g.length) := by omega
          rw [List.drop_eq_nil_of_le hi'] at hr2
          obtain rfl : i = g.length := by omega
          simp only [τ, evC_exit, evC_region, evC_seq, evC_cond, runL, stepW, wantedV, Ev.step, opv, ev, getT, binV, intOp, put, Nat.reduceEqDiff, if_true, if_false, decide_false, k1]
          refine ⟨_, rfl, ?_⟩
          exact Round.out (.inl ⟨rfl, m, hm1, rfl, hr2⟩)
      have h7 : IntKind.i64.wrap ((j : Int) + 1) = ((j + 1 : Nat) : Int) := by rw [wrap64] <;> omega
      obtain ⟨ex, ⟨m, fs'⟩, q1, q2 | q2⟩ := hout2
      · obtain ⟨rfl, m, hm, q3, q4⟩ := q2
        simp only [q1, q3, getT, Nat.reduceEqDiff, if_true, if_false, h7]
        refine ⟨_, rfl, ?_⟩
        exact Round.again (j + 1, m) rfl ⟨by omega, by omega, q4⟩ (by simp only; omega)
      · obtain ⟨rfl, q3, q4, q5⟩ := q2
        simp only at q3 q4
        simp only [q1, q3]
        refine ⟨_, rfl, ?_⟩
        exact Round.ret ⟨rfl, .inr ⟨rfl, by simp only [getT, keep, List.map, Nat.reduceEqDiff, if_true, if_false, q4], q5⟩⟩
    · have h1 : ¬((j : Int) < l.length) := by omega
      rw [List.drop_eq_nil_of_le hj'] at hr
      simp only [σ, evC_exit, evC_region, evC_seq, evC_cond, runL, stepW, wantedV, Ev.step, opv, ev, getT, binV, intOp, put, Nat.reduceEqDiff, if_true, if_false, decide_false, h1]
      refine ⟨_, rfl, ?_⟩
      exact Round.out ⟨rfl, .inl ⟨rfl, n, rfl, hr⟩⟩
  obtain ⟨ex, ⟨m, fs'⟩, h1, h2, h3 | h3⟩ := hout
  · obtain ⟨rfl, n, h4, h5⟩ := h3
    simp only at h2 h4
    subst h2
    rw [h1, h5]
    have h6 : decide ((n : Int) ≤ 150) = decide (n ≤ 150) := by congr 1; exact propext (by omega)
    simp only [getT, Nat.reduceEqDiff, if_true, if_false, Bool.false_eq_true, List.length_cons, C.le, h4, h6]
  · obtain ⟨rfl, h4, h5⟩ := h3
    simp only at h2 h4
    subst h2
    rw [h1, h5]
    simp only [if_true, List.length_cons, C.le, h4]

end Go.Proofs.YtbfllngekcckeaaGreatDoor
namespace Go.Proofs.YtbfllngekcckeaaGreatDoor
open Go.Ev
set_option linter.unusedSimpArgs false
set_option linter.unusedVariables false
set_option maxHeartbeats 400000
set_option maxRecDepth 4000

def mayG : Nat → Pg → Option Nat
  | n, [] => some n
  | n, r :: rs => if r.length < 3 ∨ n + min r.length 4001 > 4000 ∨ r.any badP = true then none else mayG (n + min r.length 4001) rs
def mayL : Nat → List Pg → Bool
  | _, [] => true
  | n, g :: gs => if g.length = 0 then false else match mayG n g with
    | none => false
    | some n' => mayL n' gs

theorem may_ev (k : K) (l : List Pg) (fr : Fr) (fs : Frames) (hn : l.length < 1152921504606846976) (hg : ∀ g ∈ l, g.length < 1152921504606846976 ∧ ∀ r ∈ g, r.length < 1152921504606846976) :
    callE cfg 9 [.c (.sl k 1 (encL l))] (fr :: fs) = some (some (.c (.bool (mayL 0 l))), fr :: fs) := by
  refine callE_code (fn := Tryz.f9) (rs := [.tmp 2]) (by kernel_rfl) (by kernel_rfl) (by kernel_rfl) rfl rfl rfl (by show 1 ≤ 41; decide) ?_
  simp only [resTmpsR, List.filterMap, evC_ret, evC_region, evC_seq, evC_loop, blockEx, feedL, feedOf, runL, stepW, wantedV, Ev.step, opv, ev, getT, put, params, constV, keep, List.map, List.contains_nil, Nat.reduceEqDiff, if_true, if_false, reduceCtorEq, give, V.hasSl, C.isSl, V.strip, C.strip, feeds, List.append_nil, Bool.false_eq_true, List.getElem?_toArray, constC, lenV, List.getElem?_cons_zero, List.map_cons, finishR, resVs, resV, freezeVs, freezeV, freezeC, live_9_0, und_26, encL_len]
  let σ : Nat × Nat → S := fun (j, n) => { m := [(2, .c (.bool false)), (3, .c (.int .i64 n)), (8, .c (.sl k.strip 1 (encL l))), (9, .c (.int .i64 l.length)), (10, .c (.int .i64 j))], fs := [] :: fr :: fs }
  generalize hL : loopE cfg (callE cfg) itE 9 [2] _ _ _ = out
  have hout : ∃ ex s, out = some (ex, s) ∧ s.fs = [] :: fr :: fs ∧ ((ex = .exit 0 ∧ mayL 0 l = true) ∨ (ex = .ret ∧ getT s.m 2 = .c (.bool false) ∧ mayL 0 l = false)) := by
    rw [← hL]
    refine loopE_inv σ (fun (j, n) => l.length - j) (fun (j, n) => j ≤ l.length ∧ n ≤ 4000 ∧ mayL 0 l = mayL n (l.drop j)) (fun ex s => s.fs = [] :: fr :: fs ∧ ((ex = .exit 0 ∧ mayL 0 l = true) ∨ (ex = .ret ∧ getT s.m 2 = .c (.bool false) ∧ mayL 0 l = false))) (fun (j, n) ⟨hj, hn1, hr⟩ => ?_) (0, 0) ⟨by omega, by omega, rfl⟩
    rcases Nat.lt_or_ge j l.length with hj' | hj'
    · obtain ⟨g, h0, hd⟩ := drop_get hj'
      rw [hd] at hr
      simp only [mayL] at hr
      have hgm : g ∈ l := List.mem_of_getElem? h0
      have h1 : (j : Int) < l.length := by omega
      have h2 : ((j : Int)).toNat = j := by omega
      have h3 : (0 : Int) ≤ j := by omega
      have he := encL_get h0
      have hgl := (hg g hgm).1
      by_cases hz : g.length = 0
      · rw [if_pos hz] at hr
        have h4 : ((g.length : Int) == 0) = true := by simp [hz]
        simp only [σ, evC_skip, evC_ret, evC_region, evC_seq, evC_cond, evC_bseq, blockEx, feedL, feedOf, runL, stepW, wantedV, Ev.step, opv, ev, getT, binV, intOp, put, constV, List.map, List.contains_nil, Nat.reduceEqDiff, if_true, if_false, decide_true, give, V.hasSl, C.isSl, V.strip, C.strip, feeds, List.append_nil, Bool.false_eq_true, List.getElem?_toArray, constC, lenV, List.getElem?_cons_zero, and_self, readV, D.toC, List.drop_zero, List.map_cons, kstrip_ro, Nat.lt_add_one, agg_42, esz_26, und_42, encL_len, encG_len, h1, h2, h3, he, h4]
        refine ⟨_, rfl, ?_⟩
        exact Round.ret ⟨rfl, .inr ⟨rfl, rfl, hr⟩⟩
      · rw [if_neg hz] at hr
        have h4 : ((g.length : Int) == 0) = false := by rw [beq_eq_false_iff_ne]; omega
        simp only [σ, evC_skip, evC_region, evC_seq, evC_cond, evC_loop, evC_bseq, blockEx, feedL, feedOf, runL, stepW, wantedV, Ev.step, opv, ev, getT, binV, intOp, strOp, put, constV, keep, List.map, List.contains_nil, Nat.reduceEqDiff, if_true, if_false, decide_true, give, V.hasSl, C.isSl, V.strip, C.strip, feeds, List.append_nil, Bool.false_eq_true, List.getElem?_toArray, constC, lenV, List.getElem?_cons_zero, and_self, readV, D.toC, List.drop_zero, List.map_cons, kstrip_ro, Nat.lt_add_one, live_9_2, agg_42, esz_26, und_42, encL_len, encG_len, h1, h2, h3, he, h4]
        let τ : Nat × Nat → S := fun (i, m) => { m := [(2, .c (.bool false)), (3, .c (.int .i64 m)), (8, .c (.sl k.strip 1 (encL l))), (9, .c (.int .i64 l.length)), (10, .c (.int .i64 j)), (17, .c (.sl .ro 1 (encG g))), (18, .c (.int .i64 g.length)), (19, .c (.int .i64 i))], fs := [] :: fr :: fs }
        generalize hL2 : loopE cfg (callE cfg) itE 9 [2] _ _ _ = out2
        have hout2 : ∃ ex s, out2 = some (ex, s) ∧ ((ex = .exit 2 ∧ ∃ m : Nat, m ≤ 4000 ∧ s = τ (g.length, m) ∧ mayL 0 l = mayL m (l.drop (j + 1))) ∨ (ex = .ret ∧ s.fs = [] :: fr :: fs ∧ getT s.m 2 = .c (.bool false) ∧ mayL 0 l = false)) := by
          rw [← hL2]
          refine loopE_inv τ (fun (i, m) => g.length - i) (fun (i, m) => i ≤ g.length ∧ m ≤ 4000 ∧ mayL 0 l = (match mayG m (g.drop i) with | none => false | some n' => mayL n' (l.drop (j + 1)))) _ (fun (i, m) ⟨hi, hm1, hr2⟩ => ?_) (0, n) ⟨by omega, by omega, hr⟩
          rcases Nat.lt_or_ge i g.length with hi' | hi'
          · obtain ⟨r, k0, kd⟩ := drop_get hi'
            rw [kd] at hr2
            simp only [mayG] at hr2
            have k1 : (i : Int) < g.length := by omega
            have k2 : ((i : Int)).toNat = i := by omega
            have k3 : (0 : Int) ≤ i := by omega
            have ke := encG_get k0
            have kl := ((hg g hgm).2 r (List.mem_of_getElem? k0))
            have k4 : (if (4001 : Int) < (r.length : Int) then (4001 : Int) else (r.length : Int)) = ((min r.length 4001 : Nat) : Int) := by split <;> omega
            have k6 : IntKind.i64.wrap ((m : Int) + ((min r.length 4001 : Nat) : Int)) = ((m + min r.length 4001 : Nat) : Int) := by rw [wrap64] <;> omega
            have k7 : IntKind.i64.wrap ((i : Int) + 1) = ((i + 1 : Nat) : Int) := by rw [wrap64] <;> omega
            have kc := contains_ev .ro r [] (fr :: fs) (by omega)
            by_cases c1 : r.length < 3
            · rw [if_pos (.inl c1)] at hr2
              have k8 : ((r.length : Int) < 3) := by omega
              simp only [τ, evC_skip, evC_ret, evC_region, evC_seq, evC_cond, evC_bseq, blockEx, feedL, feedOf, runL, stepW, wantedV, Ev.step, opv, ev, getT, binV, intOp, put, constV, List.map, List.contains_nil, Bool.or_self, Nat.reduceEqDiff, if_true, if_false, decide_true, Nat.reduceBEq, give, V.hasSl, C.isSl, V.strip, C.strip, feeds, List.append_nil, List.contains_cons, Bool.false_eq_true, List.getElem?_toArray, constC, lenV, List.getElem?_cons_zero, List.getElem?_cons_succ, and_self, readV, D.toC, List.drop_zero, Option.bind_some, bb_tf, List.map_cons, kstrip_ro, foldC, minC, Nat.lt_add_one, pickV, cons_20, agg_39, esz_42, und_39, encR_len, encG_len, k1, k2, k3, ke, k4, k6, k8]
              refine ⟨_, rfl, ?_⟩
              exact Round.ret (.inr ⟨rfl, rfl, rfl, hr2⟩)
            · have k8 : ¬((r.length : Int) < 3) := by omega
              by_cases c2 : m + min r.length 4001 > 4000
              · rw [if_pos (.inr (.inl c2))] at hr2
                have k9 : (((m + min r.length 4001 : Nat) : Int) > 4000) := by omega
                simp only [τ, evC_skip, evC_ret, evC_region, evC_seq, evC_cond, evC_bseq, blockEx, feedL, feedOf, runL, stepW, wantedV, Ev.step, opv, ev, getT, binV, intOp, put, constV, List.map, List.contains_nil, Bool.or_self, Nat.reduceEqDiff, if_true, if_false, decide_true, decide_false, Nat.reduceBEq, give, V.hasSl, C.isSl, V.strip, C.strip, feeds, List.append_nil, List.contains_cons, Bool.false_eq_true, List.getElem?_toArray, constC, lenV, List.getElem?_cons_zero, List.getElem?_cons_succ, beq_self_eq_true, and_self, readV, D.toC, List.drop_zero, Option.bind_some, bb_tf, cond_false, List.map_cons, kstrip_ro, foldC, minC, Nat.lt_add_one, pickV, cons_20, agg_39, esz_42, und_39, encR_len, encG_len, k1, k2, k3, ke, k4, k6, k8, k9]
                refine ⟨_, rfl, ?_⟩
                exact Round.ret (.inr ⟨rfl, rfl, rfl, hr2⟩)
              · have k9 : ¬(((m + min r.length 4001 : Nat) : Int) > 4000) := by omega
                cases c3 : r.any badP
                · rw [c3] at kc
                  rw [if_neg (by simp [c1, c3]; omega)] at hr2
                  simp only [τ, evC_skip, evC_region, evC_seq, evC_cond, evC_bseq, blockEx, feedL, feedOf, runL, stepW, wantedV, Ev.step, opv, ev, getT, binV, intOp, put, constV, List.map, List.contains_nil, Bool.or_self, Nat.reduceEqDiff, if_true, if_false, decide_true, decide_false, Nat.reduceBEq, give, gives, V.hasSl, C.isSl, V.strip, C.strip, feeds, List.append_nil, List.nil_append, List.contains_cons, Bool.false_eq_true, List.getElem?_toArray, List.length_cons, constC, lenV, List.getElem?_cons_zero, List.getElem?_cons_succ, beq_self_eq_true, Bool.and_true, and_self, readV, D.toC, List.drop_zero, Option.bind_some, cond_false, List.map_cons, kstrip_ro, foldC, minC, Nat.lt_add_one, target, consOf, doCall, argsG, List.all_cons, List.all_nil, V.le, C.le, C.leL, cons_20, sealed_20, agg_39, esz_42, und_39, encR_len, encG_len, k1, k2, k3, ke, k4, k6, k7, k8, k9, kc]
                  refine ⟨_, rfl, ?_⟩
                  exact Round.again (i + 1, m + min r.length 4001) rfl ⟨by omega, by omega, hr2⟩ (by simp only; omega)
                · rw [c3] at kc
                  rw [if_pos (.inr (.inr c3))] at hr2
                  simp only [τ, evC_skip, evC_ret, evC_region, evC_seq, evC_cond, evC_bseq, blockEx, feedL, feedOf, runL, stepW, wantedV, Ev.step, opv, ev, getT, binV, intOp, put, constV, List.map, List.contains_nil, Bool.or_self, Nat.reduceEqDiff, if_true, if_false, decide_true, decide_false, Nat.reduceBEq, give, gives, V.hasSl, C.isSl, V.strip, C.strip, feeds, List.append_nil, List.nil_append, List.contains_cons, Bool.false_eq_true, List.getElem?_toArray, List.length_cons, constC, lenV, List.getElem?_cons_zero, List.getElem?_cons_succ, beq_self_eq_true, Bool.and_true, and_self, readV, D.toC, List.drop_zero, Option.bind_some, cond_false, List.map_cons, kstrip_ro, foldC, minC, Nat.lt_add_one, target, consOf, doCall, argsG, List.all_cons, List.all_nil, V.le, C.le, C.leL, cons_20, sealed_20, agg_39, esz_42, und_39, encR_len, encG_len, k1, k2, k3, ke, k4, k6, k8, k9, kc]
                  refine ⟨_, rfl, ?_⟩
                  exact Round.ret (.inr ⟨rfl, rfl, rfl, hr2⟩)
          · have k1 : ¬((i : Int) < g.length) := by omega
            rw [List.drop_eq_nil_of_le hi'] at hr2
            obtain rfl : i = g.length := by omega
            simp only [τ, evC_exit, evC_region, evC_seq, evC_cond, runL, stepW, wantedV, Ev.step, opv, ev, getT, binV, intOp, put, Nat.reduceEqDiff, if_true, if_false, decide_false, k1]
            refine ⟨_, rfl, ?_⟩
            exact Round.out (.inl ⟨rfl, m, hm1, rfl, hr2⟩)
        have h7 : IntKind.i64.wrap ((j : Int) + 1) = ((j + 1 : Nat) : Int) := by rw [wrap64] <;> omega
        obtain ⟨ex, ⟨m, fs'⟩, q1, q2 | q2⟩ := hout2
        · obtain ⟨rfl, m, hm, q3, q4⟩ := q2
          simp only [q1, q3, τ, getT, Nat.reduceEqDiff, if_true, if_false, h7]
          refine ⟨_, rfl, ?_⟩
          exact Round.again (j + 1, m) rfl ⟨by omega, by omega, q4⟩ (by simp only; omega)
        · obtain ⟨rfl, q3, q4, q5⟩ := q2
          simp only at q3 q4
          simp only [q1, q3]
          refine ⟨_, rfl, ?_⟩
          exact Round.ret ⟨rfl, .inr ⟨rfl, by simp only [getT, keep, List.map, Nat.reduceEqDiff, if_true, if_false, q4], q5⟩⟩
    · have h1 : ¬((j : Int) < l.length) := by omega
      rw [List.drop_eq_nil_of_le hj'] at hr
      simp only [σ, evC_exit, evC_region, evC_seq, evC_cond, runL, stepW, wantedV, Ev.step, opv, ev, getT, binV, intOp, put, Nat.reduceEqDiff, if_true, if_false, decide_false, h1]
      refine ⟨_, rfl, ?_⟩
      exact Round.out ⟨rfl, .inl ⟨rfl, hr⟩⟩
  obtain ⟨ex, ⟨m, fs'⟩, h1, h2, h3 | h3⟩ := hout
  · obtain ⟨rfl, h5⟩ := h3
    simp only at h2
    subst h2
    rw [h1, h5]
    simp only [getT, if_true, List.length_cons, C.le]
  · obtain ⟨rfl, h4, h5⟩ := h3
    simp only at h2 h4
    subst h2
    rw [h1, h5]
    simp only [if_true, List.length_cons, C.le, h4]

end Go.Proofs.YtbfllngekcckeaaGreatDoor
