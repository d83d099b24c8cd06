/- text.Same at the machine. Written by eqgen.py. -/
import Derived.Test.YtbfllngekcckeaaGreatDoorEvF11
namespace Go.Proofs.YtbfllngekcckeaaGreatDoor
open Go.Ev
set_option linter.unusedSimpArgs false
set_option linter.unusedVariables false
set_option maxHeartbeats 400000
set_option maxRecDepth 4000

theorem equalR_ev (k k' : K) (a b : List (Int × Int)) (fr : Fr) (fs : Frames) (ha : a.length < 1152921504606846976) :
    callE cfg 27 [.c (.sl k 2 (encR a)), .c (.sl k' 2 (encR b))] (fr :: fs) = some (some (.c (.bool (decide (a = b)))), fr :: fs) := by
  refine callE_code (fn := Tryz.f27) (rs := [.tmp 4]) (by kernel_rfl) (by kernel_rfl) (by kernel_rfl) rfl rfl rfl (by show 2 ≤ 26; decide) ?_
  by_cases hl : a.length = b.length
  · have h0 : ((a.length : Int) != (b.length : Int)) = false := by simp [hl]
    simp only [resTmpsR, List.filterMap, evC_skip, evC_ret, evC_region, evC_seq, evC_cond, evC_loop, blockEx, feedL, feedOf, runL, stepW, wantedV, Ev.step, opv, ev, getT, binV, intOp, put, params, constV, keep, List.map, List.contains_nil, Nat.reduceEqDiff, if_true, if_false, reduceCtorEq, give, V.hasSl, C.isSl, V.strip, C.strip, feeds, List.append_nil, Bool.false_eq_true, List.getElem?_toArray, constC, lenV, List.getElem?_cons_zero, Nat.zero_add, List.map_cons, finishR, resVs, resV, freezeVs, freezeV, freezeC, live_27_0, und_39, encR_len, h0]
    let σ : Nat → S := fun i => { m := [(0, .c (.sl k 2 (encR a))), (1, .c (.sl k' 2 (encR b))), (4, .c (.bool false)), (12, .c (.int .i64 a.length)), (13, .c (.int .i64 i))], fs := [] :: fr :: fs }
    generalize hL : loopE cfg (callE cfg) itE 27 [4] _ _ _ = out
    have hout : ∃ ex s, out = some (ex, s) ∧ s.fs = [] :: fr :: fs ∧ ((ex = .exit 0 ∧ a = b) ∨ (ex = .ret ∧ getT s.m 4 = .c (.bool false) ∧ a ≠ b)) := by
      rw [← hL]
      refine loopE_inv σ (fun i => a.length - i) (fun i => i ≤ a.length ∧ (a = b ↔ a.drop i = b.drop i)) (fun ex s => s.fs = [] :: fr :: fs ∧ ((ex = .exit 0 ∧ a = b) ∨ (ex = .ret ∧ getT s.m 4 = .c (.bool false) ∧ a ≠ b))) (fun i ⟨hi, hr⟩ => ?_) 0 ⟨Nat.zero_le _, Iff.rfl⟩
      rcases Nat.lt_or_ge i a.length with hi' | hi'
      · obtain ⟨x, x0, xd⟩ := drop_get hi'
        obtain ⟨y, y0, yd⟩ := drop_get (l := b) (i := i) (by omega)
        rw [xd, yd, List.cons.injEq] at hr
        have h1 : (i : Int) < a.length := by omega
        have h1' : (i : Int) < b.length := by omega
        have h2 : ((i : Int)).toNat = i := by omega
        have h3 : (0 : Int) ≤ i := by omega
        have hx := encR_get x0
        have hy := encR_get y0
        have hw : IntKind.i64.wrap ((i : Int) + 1) = ((i + 1 : Nat) : Int) := by rw [wrap64] <;> omega
        by_cases e1 : x.1 = y.1
        · by_cases e2 : x.2 = y.2
          · have c1 : (x.1 == y.1) = true := by simp [e1]
            have c2 : (x.2 == y.2) = true := by simp [e2]
            simp only [σ, evC_skip, evC_region, evC_draw, evC_seq, evC_cond, evC_bseq, blockEx, feedL, feedOf, runL, stepW, wantedV, Ev.step, opv, ev, getT, binV, intOp, put, constV, List.map, List.contains_nil, Bool.or_self, Nat.reduceEqDiff, if_true, if_false, decide_true, reduceCtorEq, Nat.reduceBEq, give, V.hasSl, C.isSl, V.strip, C.strip, feeds, List.append_nil, List.contains_cons, Bool.false_eq_true, List.length_cons, constC, Bool.not_true, Bool.and_true, and_self, readV, D.toC, List.drop_zero, List.length_nil, Nat.zero_add, List.take_succ_cons, List.take_zero, Bool.not_true, List.map_cons, Nat.zero_lt_succ, Nat.reduceAdd, Nat.le_refl, sz_41, agg_41, esz_39, eqf_41, encR_len, h1, h1', h2, h3, hx, hy, hw, eqCs, c1, c2]
            refine ⟨_, rfl, ?_⟩
            exact Round.again (i + 1) rfl ⟨by omega, hr.trans ⟨fun h => h.2, fun h => ⟨Prod.ext e1 e2, h⟩⟩⟩ (by omega)
          · have c1 : (x.1 == y.1) = true := by simp [e1]
            have c2 : (x.2 == y.2) = false := by rw [beq_eq_false_iff_ne]; exact e2
            simp only [σ, evC_skip, evC_ret, evC_region, evC_draw, evC_seq, evC_cond, evC_bseq, blockEx, feedL, feedOf, runL, stepW, wantedV, Ev.step, opv, ev, getT, binV, intOp, put, constV, List.map, List.contains_nil, Bool.or_self, Nat.reduceEqDiff, if_true, if_false, decide_true, reduceCtorEq, Nat.reduceBEq, give, V.hasSl, C.isSl, V.strip, C.strip, feeds, List.append_nil, List.contains_cons, Bool.false_eq_true, List.length_cons, constC, Bool.not_false, Bool.and_false, Bool.and_true, and_self, readV, D.toC, List.drop_zero, List.length_nil, Nat.zero_add, List.take_succ_cons, List.take_zero, List.map_cons, Nat.zero_lt_succ, Nat.reduceAdd, Nat.le_refl, sz_41, agg_41, esz_39, eqf_41, encR_len, h1, h1', h2, h3, hx, hy, eqCs, c1, c2]
            refine ⟨_, rfl, ?_⟩
            exact Round.ret ⟨rfl, .inr ⟨rfl, rfl, fun h => e2 (by rw [(hr.1 h).1])⟩⟩
        · have c1 : (x.1 == y.1) = false := by rw [beq_eq_false_iff_ne]; exact e1
          simp only [σ, evC_skip, evC_ret, evC_region, evC_draw, evC_seq, evC_cond, evC_bseq, blockEx, feedL, feedOf, runL, stepW, wantedV, Ev.step, opv, ev, getT, binV, intOp, put, constV, List.map, List.contains_nil, Bool.or_self, Nat.reduceEqDiff, if_true, if_false, decide_true, reduceCtorEq, Nat.reduceBEq, give, V.hasSl, C.isSl, V.strip, C.strip, feeds, List.append_nil, List.contains_cons, Bool.false_eq_true, List.length_cons, constC, Bool.not_false, Bool.and_true, Bool.false_and, and_self, readV, D.toC, List.drop_zero, List.length_nil, Nat.zero_add, List.take_succ_cons, List.take_zero, List.map_cons, Nat.zero_lt_succ, Nat.reduceAdd, Nat.le_refl, sz_41, agg_41, esz_39, eqf_41, encR_len, h1, h1', h2, h3, hx, hy, eqCs, c1]
          refine ⟨_, rfl, ?_⟩
          exact Round.ret ⟨rfl, .inr ⟨rfl, rfl, fun h => e1 (by rw [(hr.1 h).1])⟩⟩
      · have h1 : ¬((i : Int) < a.length) := by omega
        rw [List.drop_eq_nil_of_le hi', List.drop_eq_nil_of_le (by omega)] at hr
        simp only [σ, evC_exit, evC_region, evC_seq, evC_cond, runL, stepW, wantedV, Ev.step, opv, ev, getT, binV, intOp, put, Nat.reduceEqDiff, if_true, if_false, decide_false, reduceCtorEq, h1]
        exact ⟨_, rfl, Round.out ⟨rfl, .inl ⟨rfl, hr.2 rfl⟩⟩⟩
    obtain ⟨ex, ⟨m, fs'⟩, q1, q2, q3 | q3⟩ := hout
    · obtain ⟨rfl, q4⟩ := q3
      simp only at q2
      subst q2
      rw [q1, decide_eq_true q4]
      simp only [getT, if_true, List.length_cons, C.le]
    · obtain ⟨rfl, q4, q5⟩ := q3
      simp only at q2 q4
      subst q2
      rw [q1, decide_eq_false q5]
      simp only [if_true, List.length_cons, C.le, q4]
  · have h0 : ((a.length : Int) != (b.length : Int)) = true := by simp; omega
    have h5 : a ≠ b := fun h => hl (by rw [h])
    rw [decide_eq_false h5]
    simp only [resTmpsR, List.filterMap, evC_ret, evC_region, evC_seq, evC_cond, feedL, feedOf, runL, stepW, wantedV, Ev.step, opv, ev, getT, binV, intOp, put, params, constV, List.contains_nil, Nat.reduceEqDiff, if_true, if_false, reduceCtorEq, give, V.hasSl, C.isSl, V.strip, C.strip, feeds, List.append_nil, Bool.false_eq_true, List.getElem?_toArray, List.length_cons, constC, lenV, List.getElem?_cons_zero, Nat.zero_add, finishR, resVs, resV, freezeVs, freezeV, freezeC, C.le, und_39, encR_len, h0]

theorem sameR_ev (k k' : K) (a b : List (Int × Int)) (fr : Fr) (fs : Frames) (ha : a.length < 1152921504606846976) :
    callE cfg 26 [.c (.sl k 2 (encR a)), .c (.sl k' 2 (encR b))] (fr :: fs) = some (some (.c (.bool (decide (a = b)))), fr :: fs) := by
  refine callE_code (fn := Tryz.f26) (rs := [.tmp 4]) (by kernel_rfl) (by kernel_rfl) (by kernel_rfl) rfl rfl rfl (by show 2 ≤ 8; decide) ?_
  have h1 := equalR_ev k.strip k'.strip a b [] (fr :: fs) ha
  simp only [resTmpsR, List.filterMap, evC_ret, evC_region, evC_seq, feedL, feedOf, runL, stepW, wantedV, Ev.step, opv, ev, getT, put, params, constV, List.map, List.contains_nil, Bool.or_self, Nat.reduceEqDiff, if_true, if_false, reduceCtorEq, Nat.reduceBEq, give, gives, V.hasSl, C.isSl, V.strip, C.strip, feeds, List.append_nil, List.nil_append, List.contains_cons, Bool.false_eq_true, List.length_cons, constC, Bool.or_false, beq_self_eq_true, Bool.and_true, Nat.zero_add, kstrip_strip, finishR, resVs, resV, freezeVs, freezeV, freezeC, target, consOf, doCall, argsG, List.all_cons, List.all_nil, V.le, C.le, Nat.add_one_sub_one, cons_27, sealed_27, h1]

theorem equalG_ev (k k' : K) (a b : List Rg) (fr : Fr) (fs : Frames) (ha : a.length < 1152921504606846976) (hg : ∀ r ∈ a, r.length < 1152921504606846976) :
    callE cfg 25 [.c (.sl k 1 (encG a)), .c (.sl k' 1 (encG b)), .c (.fn (.func 26) [] [])] (fr :: fs) = some (some (.c (.bool (decide (a = b)))), fr :: fs) := by
  refine callE_code (fn := Tryz.f25) (rs := [.tmp 6]) (by kernel_rfl) (by kernel_rfl) (by kernel_rfl) rfl rfl rfl (by show 3 ≤ 32; decide) ?_
  by_cases hl : a.length = b.length
  · have h0 : ((a.length : Int) != (b.length : Int)) = false := by simp [hl]
    simp only [resTmpsR, List.filterMap, evC_skip, evC_ret, evC_region, evC_seq, evC_cond, evC_loop, blockEx, feedL, feedOf, runL, stepW, wantedV, Ev.step, opv, ev, getT, binV, intOp, put, params, constV, keep, List.map, List.contains_nil, Nat.reduceEqDiff, if_true, if_false, reduceCtorEq, give, V.hasSl, C.isSl, V.strip, C.strip, feeds, List.append_nil, Bool.false_eq_true, List.getElem?_toArray, constC, lenV, List.getElem?_cons_zero, Nat.zero_add, List.map_cons, Nat.reduceAdd, finishR, resVs, resV, freezeVs, freezeV, freezeC, live_25_0, und_42, encG_len, h0]
    let σ : Nat → S := fun i => { m := [(1, .c (.sl k' 1 (encG b))), (2, .c (.fn (.func 26) [] [])), (6, .c (.bool false)), (15, .c (.sl k.strip 1 (encG a))), (16, .c (.int .i64 a.length)), (17, .c (.int .i64 i))], fs := [] :: fr :: fs }
    generalize hL : loopE cfg (callE cfg) itE 25 [6] _ _ _ = out
    have hout : ∃ ex s, out = some (ex, s) ∧ s.fs = [] :: fr :: fs ∧ ((ex = .exit 0 ∧ a = b) ∨ (ex = .ret ∧ getT s.m 6 = .c (.bool false) ∧ a ≠ b)) := by
      rw [← hL]
      refine loopE_inv σ (fun i => a.length - i) (fun i => i ≤ a.length ∧ (a = b ↔ a.drop i = b.drop i)) (fun ex s => s.fs = [] :: fr :: fs ∧ ((ex = .exit 0 ∧ a = b) ∨ (ex = .ret ∧ getT s.m 6 = .c (.bool false) ∧ a ≠ b))) (fun i ⟨hi, hr⟩ => ?_) 0 ⟨Nat.zero_le _, Iff.rfl⟩
      rcases Nat.lt_or_ge i a.length with hi' | hi'
      · obtain ⟨x, x0, xd⟩ := drop_get hi'
        obtain ⟨y, y0, yd⟩ := drop_get (l := b) (i := i) (by omega)
        rw [xd, yd, List.cons.injEq] at hr
        have h1 : (i : Int) < a.length := by omega
        have h1' : (i : Int) < b.length := by omega
        have h2 : ((i : Int)).toNat = i := by omega
        have h3 : (0 : Int) ≤ i := by omega
        have hx := encG_get x0
        have hy := encG_get y0
        have hw : IntKind.i64.wrap ((i : Int) + 1) = ((i + 1 : Nat) : Int) := by rw [wrap64] <;> omega
        have hc := sameR_ev .ro .ro x y [] (fr :: fs) (hg x (List.mem_of_getElem? x0))
        by_cases e : x = y
        · rw [decide_eq_true e] at hc
          simp only [σ, evC_skip, evC_region, evC_seq, evC_cond, evC_bseq, blockEx, feedL, feedOf, runL, stepW, wantedV, Ev.step, opv, ev, getT, binV, intOp, unV, put, constV, List.map, List.contains_nil, Bool.or_self, Nat.reduceEqDiff, if_true, if_false, decide_true, Nat.reduceBEq, give, gives, V.hasSl, C.isSl, V.strip, C.strip, feeds, List.append_nil, List.nil_append, List.contains_cons, Bool.false_eq_true, List.length_cons, constC, Bool.not_true, Bool.and_true, and_self, readV, D.toC, List.drop_zero, Bool.not_true, List.map_cons, kstrip_ro, Nat.lt_add_one, target, consOf, doCall, argsG, List.all_cons, List.all_nil, V.le, C.le, Nat.add_one_sub_one, agg_39, esz_42, sealed_26, encG_len, h1, h1', h2, h3, hx, hy, hw, hc]
          refine ⟨_, rfl, ?_⟩
          exact Round.again (i + 1) rfl ⟨by omega, hr.trans ⟨fun h => h.2, fun h => ⟨e, h⟩⟩⟩ (by omega)
        · rw [decide_eq_false e] at hc
          simp only [σ, evC_skip, evC_ret, evC_region, evC_seq, evC_cond, evC_bseq, blockEx, feedL, feedOf, runL, stepW, wantedV, Ev.step, opv, ev, getT, binV, intOp, unV, put, constV, List.map, List.contains_nil, Bool.or_self, Nat.reduceEqDiff, if_true, if_false, decide_true, Nat.reduceBEq, give, gives, V.hasSl, C.isSl, V.strip, C.strip, feeds, List.append_nil, List.nil_append, List.contains_cons, Bool.false_eq_true, List.length_cons, constC, Bool.not_false, Bool.and_true, and_self, readV, D.toC, List.drop_zero, List.map_cons, kstrip_ro, Nat.lt_add_one, target, consOf, doCall, argsG, List.all_cons, List.all_nil, V.le, C.le, Nat.add_one_sub_one, agg_39, esz_42, sealed_26, encG_len, h1, h1', h2, h3, hx, hy, hc]
          refine ⟨_, rfl, ?_⟩
          exact Round.ret ⟨rfl, .inr ⟨rfl, rfl, fun h => e (hr.1 h).1⟩⟩
      · have h1 : ¬((i : Int) < a.length) := by omega
        rw [List.drop_eq_nil_of_le hi', List.drop_eq_nil_of_le (by omega)] at hr
        simp only [σ, evC_exit, evC_region, evC_seq, evC_cond, runL, stepW, wantedV, Ev.step, opv, ev, getT, binV, intOp, put, Nat.reduceEqDiff, if_true, if_false, decide_false, h1]
        exact ⟨_, rfl, Round.out ⟨rfl, .inl ⟨rfl, hr.2 rfl⟩⟩⟩
    obtain ⟨ex, ⟨m, fs'⟩, q1, q2, q3 | q3⟩ := hout
    · obtain ⟨rfl, q4⟩ := q3
      simp only at q2
      subst q2
      rw [q1, decide_eq_true q4]
      simp only [getT, if_true, List.length_cons, C.le]
    · obtain ⟨rfl, q4, q5⟩ := q3
      simp only at q2 q4
      subst q2
      rw [q1, decide_eq_false q5]
      simp only [if_true, List.length_cons, C.le, q4]
  · have h0 : ((a.length : Int) != (b.length : Int)) = true := by simp; omega
    have h5 : a ≠ b := fun h => hl (by rw [h])
    rw [decide_eq_false h5]
    simp only [resTmpsR, List.filterMap, evC_ret, evC_region, evC_seq, evC_cond, feedL, feedOf, runL, stepW, wantedV, Ev.step, opv, ev, getT, binV, intOp, put, params, constV, List.contains_nil, Nat.reduceEqDiff, if_true, if_false, reduceCtorEq, give, V.hasSl, C.isSl, V.strip, C.strip, feeds, List.append_nil, Bool.false_eq_true, List.getElem?_toArray, List.length_cons, constC, lenV, List.getElem?_cons_zero, Nat.zero_add, Nat.reduceAdd, finishR, resVs, resV, freezeVs, freezeV, freezeC, C.le, und_42, encG_len, h0]

theorem sameG_ev (k k' : K) (a b : List Rg) (fr : Fr) (fs : Frames) (ha : a.length < 1152921504606846976) (hg : ∀ r ∈ a, r.length < 1152921504606846976) :
    callE cfg 24 [.c (.sl k 1 (encG a)), .c (.sl k' 1 (encG b))] (fr :: fs) = some (some (.c (.bool (decide (a = b)))), fr :: fs) := by
  refine callE_code (fn := Tryz.f24) (rs := [.tmp 4]) (by kernel_rfl) (by kernel_rfl) (by kernel_rfl) rfl rfl rfl (by show 2 ≤ 8; decide) ?_
  have h1 := equalG_ev k.strip k'.strip a b [] (fr :: fs) ha hg
  simp only [resTmpsR, List.filterMap, evC_ret, evC_region, evC_seq, feedL, feedOf, runL, stepW, wantedV, Ev.step, opv, ev, getT, put, params, constV, List.map, List.contains_nil, Bool.or_self, Nat.reduceEqDiff, if_true, if_false, reduceCtorEq, Nat.reduceBEq, give, gives, V.hasSl, C.isSl, V.strip, C.strip, feeds, List.append_nil, List.nil_append, List.contains_cons, Bool.false_eq_true, List.length_cons, constC, Bool.or_false, beq_self_eq_true, Bool.and_true, Nat.zero_add, kstrip_strip, finishR, resVs, resV, freezeVs, freezeV, freezeC, target, consOf, doCall, argsG, List.all_cons, List.all_nil, V.le, C.le, C.leL, Nat.add_one_sub_one, cons_25, sealed_25, h1]

theorem equalL_ev (k k' : K) (a b : List Pg) (fr : Fr) (fs : Frames) (ha : a.length < 1152921504606846976) (hg : ∀ g ∈ a, g.length < 1152921504606846976 ∧ ∀ r ∈ g, r.length < 1152921504606846976) :
    callE cfg 23 [.c (.sl k 1 (encL a)), .c (.sl k' 1 (encL b)), .c (.fn (.func 24) [] [])] (fr :: fs) = some (some (.c (.bool (decide (a = b)))), fr :: fs) := by
  refine callE_code (fn := Tryz.f23) (rs := [.tmp 6]) (by kernel_rfl) (by kernel_rfl) (by kernel_rfl) rfl rfl rfl (by show 3 ≤ 32; decide) ?_
  by_cases hl : a.length = b.length
  · have h0 : ((a.length : Int) != (b.length : Int)) = false := by simp [hl]
    simp only [resTmpsR, List.filterMap, evC_skip, evC_ret, evC_region, evC_seq, evC_cond, evC_loop, blockEx, feedL, feedOf, runL, stepW, wantedV, Ev.step, opv, ev, getT, binV, intOp, put, params, constV, keep, List.map, List.contains_nil, Nat.reduceEqDiff, if_true, if_false, reduceCtorEq, give, V.hasSl, C.isSl, V.strip, C.strip, feeds, List.append_nil, Bool.false_eq_true, List.getElem?_toArray, constC, lenV, List.getElem?_cons_zero, Nat.zero_add, List.map_cons, Nat.reduceAdd, finishR, resVs, resV, freezeVs, freezeV, freezeC, live_23_0, und_26, encL_len, h0]
    let σ : Nat → S := fun i => { m := [(1, .c (.sl k' 1 (encL b))), (2, .c (.fn (.func 24) [] [])), (6, .c (.bool false)), (15, .c (.sl k.strip 1 (encL a))), (16, .c (.int .i64 a.length)), (17, .c (.int .i64 i))], fs := [] :: fr :: fs }
    generalize hL : loopE cfg (callE cfg) itE 23 [6] _ _ _ = out
    have hout : ∃ ex s, out = some (ex, s) ∧ s.fs = [] :: fr :: fs ∧ ((ex = .exit 0 ∧ a = b) ∨ (ex = .ret ∧ getT s.m 6 = .c (.bool false) ∧ a ≠ b)) := by
      rw [← hL]
      refine loopE_inv σ (fun i => a.length - i) (fun i => i ≤ a.length ∧ (a = b ↔ a.drop i = b.drop i)) (fun ex s => s.fs = [] :: fr :: fs ∧ ((ex = .exit 0 ∧ a = b) ∨ (ex = .ret ∧ getT s.m 6 = .c (.bool false) ∧ a ≠ b))) (fun i ⟨hi, hr⟩ => ?_) 0 ⟨Nat.zero_le _, Iff.rfl⟩
      rcases Nat.lt_or_ge i a.length with hi' | hi'
      · obtain ⟨x, x0, xd⟩ := drop_get hi'
        obtain ⟨y, y0, yd⟩ := drop_get (l := b) (i := i) (by omega)
        rw [xd, yd, List.cons.injEq] at hr
        have h1 : (i : Int) < a.length := by omega
        have h1' : (i : Int) < b.length := by omega
        have h2 : ((i : Int)).toNat = i := by omega
        have h3 : (0 : Int) ≤ i := by omega
        have hx := encL_get x0
        have hy := encL_get y0
        have hw : IntKind.i64.wrap ((i : Int) + 1) = ((i + 1 : Nat) : Int) := by rw [wrap64] <;> omega
        have hc := sameG_ev .ro .ro x y [] (fr :: fs) (hg x (List.mem_of_getElem? x0)).1 (hg x (List.mem_of_getElem? x0)).2
        by_cases e : x = y
        · rw [decide_eq_true e] at hc
          simp only [σ, evC_skip, evC_region, evC_seq, evC_cond, evC_bseq, blockEx, feedL, feedOf, runL, stepW, wantedV, Ev.step, opv, ev, getT, binV, intOp, unV, put, constV, List.map, List.contains_nil, Bool.or_self, Nat.reduceEqDiff, if_true, if_false, decide_true, Nat.reduceBEq, give, gives, V.hasSl, C.isSl, V.strip, C.strip, feeds, List.append_nil, List.nil_append, List.contains_cons, Bool.false_eq_true, List.length_cons, constC, Bool.not_true, Bool.and_true, and_self, readV, D.toC, List.drop_zero, Bool.not_true, List.map_cons, kstrip_ro, Nat.lt_add_one, target, consOf, doCall, argsG, List.all_cons, List.all_nil, V.le, C.le, Nat.add_one_sub_one, agg_42, esz_26, sealed_24, encL_len, h1, h1', h2, h3, hx, hy, hw, hc]
          refine ⟨_, rfl, ?_⟩
          exact Round.again (i + 1) rfl ⟨by omega, hr.trans ⟨fun h => h.2, fun h => ⟨e, h⟩⟩⟩ (by omega)
        · rw [decide_eq_false e] at hc
          simp only [σ, evC_skip, evC_ret, evC_region, evC_seq, evC_cond, evC_bseq, blockEx, feedL, feedOf, runL, stepW, wantedV, Ev.step, opv, ev, getT, binV, intOp, unV, put, constV, List.map, List.contains_nil, Bool.or_self, Nat.reduceEqDiff, if_true, if_false, decide_true, Nat.reduceBEq, give, gives, V.hasSl, C.isSl, V.strip, C.strip, feeds, List.append_nil, List.nil_append, List.contains_cons, Bool.false_eq_true, List.length_cons, constC, Bool.not_false, Bool.and_true, and_self, readV, D.toC, List.drop_zero, List.map_cons, kstrip_ro, Nat.lt_add_one, target, consOf, doCall, argsG, List.all_cons, List.all_nil, V.le, C.le, Nat.add_one_sub_one, agg_42, esz_26, sealed_24, encL_len, h1, h1', h2, h3, hx, hy, hc]
          refine ⟨_, rfl, ?_⟩
          exact Round.ret ⟨rfl, .inr ⟨rfl, rfl, fun h => e (hr.1 h).1⟩⟩
      · have h1 : ¬((i : Int) < a.length) := by omega
        rw [List.drop_eq_nil_of_le hi', List.drop_eq_nil_of_le (by omega)] at hr
        simp only [σ, evC_exit, evC_region, evC_seq, evC_cond, runL, stepW, wantedV, Ev.step, opv, ev, getT, binV, intOp, put, Nat.reduceEqDiff, if_true, if_false, decide_false, h1]
        exact ⟨_, rfl, Round.out ⟨rfl, .inl ⟨rfl, hr.2 rfl⟩⟩⟩
    obtain ⟨ex, ⟨m, fs'⟩, q1, q2, q3 | q3⟩ := hout
    · obtain ⟨rfl, q4⟩ := q3
      simp only at q2
      subst q2
      rw [q1, decide_eq_true q4]
      simp only [getT, if_true, List.length_cons, C.le]
    · obtain ⟨rfl, q4, q5⟩ := q3
      simp only at q2 q4
      subst q2
      rw [q1, decide_eq_false q5]
      simp only [if_true, List.length_cons, C.le, q4]
  · have h0 : ((a.length : Int) != (b.length : Int)) = true := by simp; omega
    have h5 : a ≠ b := fun h => hl (by rw [h])
    rw [decide_eq_false h5]
    simp only [resTmpsR, List.filterMap, evC_ret, evC_region, evC_seq, evC_cond, feedL, feedOf, runL, stepW, wantedV, Ev.step, opv, ev, getT, binV, intOp, put, params, constV, List.contains_nil, Nat.reduceEqDiff, if_true, if_false, reduceCtorEq, give, V.hasSl, C.isSl, V.strip, C.strip, feeds, List.append_nil, Bool.false_eq_true, List.getElem?_toArray, List.length_cons, constC, lenV, List.getElem?_cons_zero, Nat.zero_add, Nat.reduceAdd, finishR, resVs, resV, freezeVs, freezeV, freezeC, C.le, und_26, encL_len, h0]

theorem textsame_ev (k k' : K) (a b : List Pg) (fr : Fr) (fs : Frames) (hs : Small a) :
    callE cfg 11 [.c (.sl k 1 (encL a)), .c (.sl k' 1 (encL b))] (fr :: fs) = some (some (.c (.bool (decide (a = b)))), fr :: fs) := by
  refine callE_code (fn := Tryz.f11) (rs := [.tmp 4]) (by kernel_rfl) (by kernel_rfl) (by kernel_rfl) rfl rfl rfl (by show 2 ≤ 8; decide) ?_
  have h1 := equalL_ev k.strip k'.strip a b [] (fr :: fs) hs.len hs.parts
  simp only [resTmpsR, List.filterMap, evC_ret, evC_region, evC_seq, feedL, feedOf, runL, stepW, wantedV, Ev.step, opv, ev, getT, put, params, constV, List.map, List.contains_nil, Bool.or_self, Nat.reduceEqDiff, if_true, if_false, reduceCtorEq, Nat.reduceBEq, give, gives, V.hasSl, C.isSl, V.strip, C.strip, feeds, List.append_nil, List.nil_append, List.contains_cons, Bool.false_eq_true, List.length_cons, constC, Bool.or_false, beq_self_eq_true, Bool.and_true, Nat.zero_add, kstrip_strip, finishR, resVs, resV, freezeVs, freezeV, freezeC, target, consOf, doCall, argsG, List.all_cons, List.all_nil, V.le, C.le, C.leL, Nat.add_one_sub_one, cons_23, sealed_23, h1]

end Go.Proofs.YtbfllngekcckeaaGreatDoor
