/- Write. -/
import Derived.Test.YtbfllngekcckeaaGreatDoorEvF20
namespace Go.Proofs.YtbfllngekcckeaaGreatDoor
open Go.Ev
set_option linter.unusedSimpArgs false
set_option linter.unusedVariables false
set_option maxHeartbeats 400000
set_option maxRecDepth 4000

theorem row65_one (x : Int × Int) (fr : Fr) (fs : Frames) (h : badP x = false) : callE cfg 53 [.agg [.int .i64 x.1, .int .i64 x.2]] (fr :: fs) = some (some (.c (.str (ptW x))), fr :: fs) := pt_ev x fr fs h

theorem row65_ev (k : K) (l : List (Int × Int)) (fr : Fr) (fs : Frames) (hn : l.length ≤ 4001) (hg : ∀ x ∈ l, badP x = false) (hj : (joinF [44, 32] (l.map ptW)).length ≤ 140737488355328) :
    callE cfg 52 [.c (.sl k 2 (encR l)), .c (.fn (.func 53) [] [])] (fr :: fs) = some (some (.c (.str (rowW (l.map ptW)))), fr :: fs) := by
  refine callE_code (fn := Tryz.f52) (rs := [.tmp 4]) (by kernel_rfl) (by kernel_rfl) (by kernel_rfl) rfl rfl rfl (by show 2 ≤ 25; decide) ?_
  simp only [resTmpsR, List.filterMap, evC_ret, evC_region, evC_seq, evC_loop, blockEx, feedL, feedOf, runL, stepW, wantedV, Ev.step, opv, ev, getT, binV, intOp, strOp, put, params, constV, keep, List.map, List.contains_nil, Bool.or_self, Nat.reduceEqDiff, if_true, if_false, reduceCtorEq, Nat.reduceBEq, give, gives, V.hasSl, C.isSl, V.strip, C.strip, feeds, List.append_nil, List.nil_append, List.contains_cons, Bool.false_eq_true, List.getElem?_toArray, constC, lenV, List.getElem?_cons_zero, Bool.or_false, beq_self_eq_true, Bool.and_true, Nat.zero_add, List.map_cons, finishR, resVs, resV, freezeVs, freezeV, freezeC, target, consOf, doCall, argsG, List.all_cons, List.all_nil, V.le, C.le, cons_36, sealed_36, live_52_0, esz_58, und_38, encR_len]
  let σ : Nat × Fr → S := fun (i, ob) => { m := [(1, .c (.fn (.func 53) [] [])), (5, .c (.sl (if i = 0 then .nil else .own) 1 (encW ((l.map ptW).take i)))), (8, .c (.sl k.strip 2 (encR l))), (9, .c (.int .i64 l.length)), (10, .c (.int .i64 i))], fs := ob :: fr :: fs }
  generalize hL : loopE cfg (callE cfg) itE 52 [4] _ _ _ = out
  have hout : ∃ ex s, out = some (ex, s) ∧ ∃ k' ob, s.fs = ob :: fr :: fs ∧ ex = .exit 0 ∧ getT s.m 5 = .c (.sl k' 1 (encW (l.map ptW))) := by
    rw [← hL]
    refine loopE_inv σ (fun (i, _) => l.length - i) (fun (i, _) => i ≤ l.length) (fun ex s => ∃ k' ob, s.fs = ob :: fr :: fs ∧ ex = .exit 0 ∧ getT s.m 5 = .c (.sl k' 1 (encW (l.map ptW)))) (fun (i, ob) hi => ?_) (0, []) (by simp only; omega)
    simp only at hi
    rcases Nat.lt_or_ge i l.length with hi' | hi'
    · obtain ⟨x, h0, hd⟩ := drop_get hi'
      have h1 : (i : Int) < l.length := by omega
      have h2 : ((i : Int)).toNat = i := by omega
      have h3 : (0 : Int) ≤ i := by omega
      have he := encR_get h0
      have h4 := row65_one x [] (fr :: fs) (hg x (List.mem_of_getElem? h0))
      have h5 : encW ((l.map ptW).take i) ++ [[.str (ptW x)]] = encW ((l.map ptW).take (i + 1)) := by rw [encW_snoc, take_map h0]
      have h6 : IntKind.i64.wrap ((i : Int) + 1) = ((i + 1 : Nat) : Int) := by rw [wrap64] <;> omega
      have h7 : ¬(i + 1 = 0) := by omega
      have h8 : (encW ((l.map ptW).take i)).length + 1 < 8278675785607 := by
        rw [encW_len, List.length_take]
        omega
      by_cases hz : i = 0
      · have hk : (if i = 0 then K.nil else K.own) = K.nil := if_pos hz
        simp only [σ, evC_skip, evC_region, evC_seq, evC_cond, evC_bseq, blockEx, feedL, feedOf, runL, stepW, wantedV, Ev.step, opv, ev, getT, binV, intOp, put, constV, List.map, List.contains_nil, Bool.or_self, Nat.reduceEqDiff, if_true, if_false, decide_true, reduceCtorEq, Nat.reduceBEq, give, gives, V.hasSl, C.isSl, V.strip, C.strip, feeds, List.append_nil, List.nil_append, List.contains_cons, Bool.false_eq_true, List.length_cons, constC, List.getElem?_cons_zero, Bool.or_false, beq_self_eq_true, Bool.not_true, Bool.and_false, Bool.and_true, and_self, or_false, Nat.lt_irrefl, readV, D.toC, List.drop_zero, fillE, V.cells, toDs, C.toD, appendV, tailD, appOK, List.replicate, List.length_nil, Nat.zero_add, cfg_arr, cfg_esc, List.drop_succ_cons, List.take_succ_cons, List.take_zero, Bool.not_true, List.set_cons_zero, List.map_cons, kstrip_own, kstrip_nil, Nat.lt_add_one, Nat.zero_lt_succ, Nat.reduceAdd, Nat.reduceLeDiff, Nat.mul_one, target, consOf, doCall, argsG, List.all_cons, List.all_nil, V.le, C.le, C.leL, Ev.newObj, Ev.look, Ev.setF, Ev.setRange, List.getElem?_append, Nat.le_refl, Nat.add_one_sub_one, Nat.sub_self, sz_41, agg_41, esz_38, esz_58, elemT_58, zero_9, zero_41, und_58, elemI_58, sealed_53, encR_len, hk, h1, h2, h3, he, h4, h5, h6, h8, Nat.sub_self, set_last]
        refine ⟨_, rfl, ?_⟩
        exact Round.again (i + 1, ob ++ [[.int .i64 x.1, .int .i64 x.2]]) rfl (by simp only; omega) (by simp only; omega)
      · have hk : (if i = 0 then K.nil else K.own) = K.own := if_neg hz
        simp only [σ, evC_skip, evC_region, evC_seq, evC_cond, evC_bseq, blockEx, feedL, feedOf, runL, stepW, wantedV, Ev.step, opv, ev, getT, binV, intOp, put, constV, List.map, List.contains_nil, Bool.or_self, Nat.reduceEqDiff, if_true, if_false, decide_true, reduceCtorEq, Nat.reduceBEq, give, gives, V.hasSl, C.isSl, V.strip, C.strip, feeds, List.append_nil, List.nil_append, List.contains_cons, Bool.false_eq_true, List.length_cons, constC, List.getElem?_cons_zero, Bool.or_false, beq_self_eq_true, Bool.not_true, Bool.and_false, Bool.and_true, and_self, or_false, Nat.lt_irrefl, readV, D.toC, List.drop_zero, fillE, V.cells, toDs, C.toD, appendV, tailD, appOK, List.replicate, List.length_nil, Nat.zero_add, cfg_arr, cfg_esc, List.drop_succ_cons, List.take_succ_cons, List.take_zero, Bool.not_true, List.set_cons_zero, List.map_cons, kstrip_own, Nat.lt_add_one, Nat.zero_lt_succ, Nat.reduceAdd, Nat.reduceLeDiff, Nat.mul_one, target, consOf, doCall, argsG, List.all_cons, List.all_nil, V.le, C.le, C.leL, Ev.newObj, Ev.look, Ev.setF, Ev.setRange, List.getElem?_append, Nat.le_refl, Nat.add_one_sub_one, Nat.sub_self, sz_41, agg_41, esz_38, esz_58, elemT_58, zero_9, zero_41, und_58, elemI_58, sealed_53, encR_len, hk, h1, h2, h3, he, h4, h5, h6, h8, Nat.sub_self, set_last]
        refine ⟨_, rfl, ?_⟩
        exact Round.again (i + 1, ob ++ [[.int .i64 x.1, .int .i64 x.2]]) rfl (by simp only; omega) (by simp only; omega)
    · have h1 : ¬((i : Int) < l.length) := by omega
      obtain rfl : i = l.length := by omega
      simp only [σ, evC_exit, evC_region, evC_seq, evC_cond, runL, stepW, wantedV, Ev.step, opv, ev, getT, binV, intOp, put, Nat.reduceEqDiff, if_true, if_false, decide_false, Nat.sub_self, h1]
      refine ⟨_, rfl, ?_⟩
      exact Round.out ⟨_, ob, rfl, rfl, by simp only [getT, keep, List.map, Nat.reduceEqDiff, if_true, if_false]; rw [List.take_of_length_le (by simp)]⟩
  obtain ⟨ex, ⟨m, fs'⟩, h1, k', ob, h2, rfl, h4⟩ := hout
  simp only at h2 h4
  subst h2
  have h5 := join_prim k'.strip (l.map ptW) ([] :: fr :: fs) (by simp; omega) hj
  have h6 : 1 + (joinF [44, 32] (l.map ptW)).length ≤ 9223372036854775807 := by omega
  have h7 : (joinF [44, 32] (l.map ptW)).length + 1 + 1 ≤ 9223372036854775807 := by omega
  rw [h1]
  simp only [getT, Nat.reduceEqDiff, if_true, if_false, List.nil_append, Bool.false_eq_true, List.length_cons, List.length_nil, Nat.zero_add, kstrip_strip, C.le, List.cons_append, h4, h5, h6, h7]
  rfl

theorem row54_one (k : K) (r : Rg) (fr : Fr) (fs : Frames) (h : GoodR r) : callE cfg 38 [.c (.sl k 2 (encR r))] (fr :: fs) = some (some (.c (.str (rgW r))), fr :: fs) := by
  refine callE_code (fn := Tryz.f38) (rs := [.tmp 2]) (by kernel_rfl) (by kernel_rfl) (by kernel_rfl) rfl rfl rfl (by show 1 ≤ 15; decide) ?_
  have g1 := h.few
  have g2 := h.many
  obtain ⟨p, h0, hc⟩ : ∃ p, r[0]? = some p ∧ closed r = r ++ [p] := by
    cases r with
    | nil => simp at g1
    | cons p t => exact ⟨p, rfl, rfl⟩
  have h1 : (0 : Int) ≤ (r.length : Int) := by omega
  have h1' : (0 : Int) < (r.length : Int) := by omega
  have h2 : encR r ++ [[.int .i64 p.1, .int .i64 p.2]] = encR (closed r) := by simp [encR, hc, encP]
  have h3 := encR_get h0
  have h4 : cut 0 r.length (encR r) = encR r := by
    unfold cut
    rw [List.drop_zero, List.take_of_length_le (by rw [encR_len]; omega)]
  have h5 : r.length + 1 < 8278675785607 := by omega
  have h6 := row65_ev .ro (closed r) [] (fr :: fs) (by have := closed_len r; omega) (fun x hx => h.pts x (by
      simp only [closed, List.mem_append] at hx
      rcases hx with hx | hx
      · exact hx
      · exact List.mem_of_mem_take hx)) (by have := (rgW_len h).1; omega)
  cases k <;> simp only [resTmpsR, List.filterMap, evC_ret, evC_region, evC_draw, evC_seq, feedL, feedOf, runL, stepW, wantedV, Ev.step, opv, ev, getT, put, params, constV, List.map, List.contains_nil, Bool.or_self, Nat.reduceEqDiff, if_true, if_false, reduceCtorEq, Nat.reduceBEq, give, gives, V.hasSl, C.isSl, V.strip, C.strip, feeds, List.append_nil, List.nil_append, List.contains_cons, Bool.false_eq_true, List.getElem?_toArray, List.length_cons, constC, lenV, List.getElem?_cons_zero, Bool.or_false, beq_self_eq_true, Bool.and_true, and_self, or_false, readV, D.toC, List.drop_zero, fillE, V.cells, toDs, C.toD, appendV, tailD, appOK, List.replicate, List.length_nil, Nat.zero_add, cfg_arr, List.take_succ_cons, List.take_zero, Bool.true_or, List.set_cons_zero, List.map_cons, kstrip_own, kstrip_ro, kstrip_nil, kstrip_exact, Nat.lt_add_one, Nat.zero_lt_succ, Nat.reduceAdd, Nat.reduceLeDiff, Nat.one_mul, finishR, resVs, resV, freezeVs, freezeV, freezeC, target, consOf, doCall, argsG, List.all_cons, List.all_nil, V.le, C.le, C.leL, Ev.newObj, sliceV, boundV, asNat, List.cons_append, Int.reduceToNat, Int.toNat_natCast, Option.map_some, Option.map_none, Int.le_refl, Nat.le_refl, Nat.add_one_sub_one, cons_52, sealed_52, sz_41, agg_41, esz_39, elemT_39, zero_41, und_39, elemI_39, encR_len, h1, h1', h2, h3, h4, h5, h6, List.isEmpty, rgW]

theorem row54_ev (k : K) (l : List Rg) (fr : Fr) (fs : Frames) (hn : l.length ≤ 4001) (hg : ∀ x ∈ l, GoodR x) (hj : (joinF [44, 32] (l.map rgW)).length ≤ 140737488355328) :
    callE cfg 37 [.c (.sl k 1 (encG l)), .c (.fn (.func 38) [] [])] (fr :: fs) = some (some (.c (.str (rowW (l.map rgW)))), fr :: fs) := by
  refine callE_code (fn := Tryz.f37) (rs := [.tmp 4]) (by kernel_rfl) (by kernel_rfl) (by kernel_rfl) rfl rfl rfl (by show 2 ≤ 25; decide) ?_
  simp only [resTmpsR, List.filterMap, evC_ret, evC_region, evC_seq, evC_loop, blockEx, feedL, feedOf, runL, stepW, wantedV, Ev.step, opv, ev, getT, binV, intOp, strOp, put, params, constV, keep, List.map, List.contains_nil, Bool.or_self, Nat.reduceEqDiff, if_true, if_false, reduceCtorEq, Nat.reduceBEq, give, gives, V.hasSl, C.isSl, V.strip, C.strip, feeds, List.append_nil, List.nil_append, List.contains_cons, Bool.false_eq_true, List.getElem?_toArray, constC, lenV, List.getElem?_cons_zero, Bool.or_false, beq_self_eq_true, Bool.and_true, Nat.zero_add, List.map_cons, finishR, resVs, resV, freezeVs, freezeV, freezeC, target, consOf, doCall, argsG, List.all_cons, List.all_nil, V.le, C.le, cons_36, sealed_36, live_37_0, esz_58, und_36, encG_len]
  let σ : Nat × Fr → S := fun (i, ob) => { m := [(1, .c (.fn (.func 38) [] [])), (5, .c (.sl (if i = 0 then .nil else .own) 1 (encW ((l.map rgW).take i)))), (8, .c (.sl k.strip 1 (encG l))), (9, .c (.int .i64 l.length)), (10, .c (.int .i64 i))], fs := ob :: fr :: fs }
  generalize hL : loopE cfg (callE cfg) itE 37 [4] _ _ _ = out
  have hout : ∃ ex s, out = some (ex, s) ∧ ∃ k' ob, s.fs = ob :: fr :: fs ∧ ex = .exit 0 ∧ getT s.m 5 = .c (.sl k' 1 (encW (l.map rgW))) := by
    rw [← hL]
    refine loopE_inv σ (fun (i, _) => l.length - i) (fun (i, _) => i ≤ l.length) (fun ex s => ∃ k' ob, s.fs = ob :: fr :: fs ∧ ex = .exit 0 ∧ getT s.m 5 = .c (.sl k' 1 (encW (l.map rgW)))) (fun (i, ob) hi => ?_) (0, []) (by simp only; omega)
    simp only at hi
    rcases Nat.lt_or_ge i l.length with hi' | hi'
    · obtain ⟨x, h0, hd⟩ := drop_get hi'
      have h1 : (i : Int) < l.length := by omega
      have h2 : ((i : Int)).toNat = i := by omega
      have h3 : (0 : Int) ≤ i := by omega
      have he := encG_get h0
      have h4 := row54_one .ro x [] (fr :: fs) (hg x (List.mem_of_getElem? h0))
      have h5 : encW ((l.map rgW).take i) ++ [[.str (rgW x)]] = encW ((l.map rgW).take (i + 1)) := by rw [encW_snoc, take_map h0]
      have h6 : IntKind.i64.wrap ((i : Int) + 1) = ((i + 1 : Nat) : Int) := by rw [wrap64] <;> omega
      have h7 : ¬(i + 1 = 0) := by omega
      have h8 : (encW ((l.map rgW).take i)).length + 1 < 8278675785607 := by
        rw [encW_len, List.length_take]
        omega
      by_cases hz : i = 0
      · have hk : (if i = 0 then K.nil else K.own) = K.nil := if_pos hz
        simp only [σ, evC_skip, evC_region, evC_seq, evC_cond, evC_bseq, blockEx, feedL, feedOf, runL, stepW, wantedV, Ev.step, opv, ev, getT, binV, intOp, put, constV, List.map, List.contains_nil, Bool.or_self, Nat.reduceEqDiff, if_true, if_false, decide_true, reduceCtorEq, Nat.reduceBEq, give, gives, V.hasSl, C.isSl, V.strip, C.strip, feeds, List.append_nil, List.nil_append, List.contains_cons, Bool.false_eq_true, List.length_cons, constC, Bool.or_false, beq_self_eq_true, Bool.and_true, and_self, or_false, readV, D.toC, List.drop_zero, fillE, V.cells, toDs, C.toD, appendV, tailD, appOK, List.replicate, List.length_nil, Nat.zero_add, cfg_arr, List.set_cons_zero, List.map_cons, kstrip_own, kstrip_ro, kstrip_nil, Nat.lt_add_one, Nat.reduceLeDiff, Nat.mul_one, target, consOf, doCall, argsG, List.all_cons, List.all_nil, V.le, C.le, Ev.newObj, Nat.add_one_sub_one, agg_39, esz_36, esz_58, elemT_58, zero_9, und_58, elemI_58, sealed_38, encG_len, hk, h1, h2, h3, he, h4, h5, h6, h8]
        refine ⟨_, rfl, ?_⟩
        exact Round.again (i + 1, ob) rfl (by simp only; omega) (by simp only; omega)
      · have hk : (if i = 0 then K.nil else K.own) = K.own := if_neg hz
        simp only [σ, evC_skip, evC_region, evC_seq, evC_cond, evC_bseq, blockEx, feedL, feedOf, runL, stepW, wantedV, Ev.step, opv, ev, getT, binV, intOp, put, constV, List.map, List.contains_nil, Bool.or_self, Nat.reduceEqDiff, if_true, if_false, decide_true, reduceCtorEq, Nat.reduceBEq, give, gives, V.hasSl, C.isSl, V.strip, C.strip, feeds, List.append_nil, List.nil_append, List.contains_cons, Bool.false_eq_true, List.length_cons, constC, Bool.or_false, beq_self_eq_true, Bool.and_true, and_self, or_false, readV, D.toC, List.drop_zero, fillE, V.cells, toDs, C.toD, appendV, tailD, appOK, List.replicate, List.length_nil, Nat.zero_add, cfg_arr, List.set_cons_zero, List.map_cons, kstrip_own, kstrip_ro, Nat.lt_add_one, Nat.reduceLeDiff, Nat.mul_one, target, consOf, doCall, argsG, List.all_cons, List.all_nil, V.le, C.le, Ev.newObj, Nat.add_one_sub_one, agg_39, esz_36, esz_58, elemT_58, zero_9, und_58, elemI_58, sealed_38, encG_len, hk, h1, h2, h3, he, h4, h5, h6, h8]
        refine ⟨_, rfl, ?_⟩
        exact Round.again (i + 1, ob) rfl (by simp only; omega) (by simp only; omega)
    · have h1 : ¬((i : Int) < l.length) := by omega
      obtain rfl : i = l.length := by omega
      simp only [σ, evC_exit, evC_region, evC_seq, evC_cond, runL, stepW, wantedV, Ev.step, opv, ev, getT, binV, intOp, put, Nat.reduceEqDiff, if_true, if_false, decide_false, Nat.sub_self, h1]
      refine ⟨_, rfl, ?_⟩
      exact Round.out ⟨_, ob, rfl, rfl, by simp only [getT, keep, List.map, Nat.reduceEqDiff, if_true, if_false]; rw [List.take_of_length_le (by simp)]⟩
  obtain ⟨ex, ⟨m, fs'⟩, h1, k', ob, h2, rfl, h4⟩ := hout
  simp only at h2 h4
  subst h2
  have h5 := join_prim k'.strip (l.map rgW) ([] :: fr :: fs) (by simp; omega) hj
  have h6 : 1 + (joinF [44, 32] (l.map rgW)).length ≤ 9223372036854775807 := by omega
  have h7 : (joinF [44, 32] (l.map rgW)).length + 1 + 1 ≤ 9223372036854775807 := by omega
  rw [h1]
  simp only [getT, Nat.reduceEqDiff, if_true, if_false, List.nil_append, Bool.false_eq_true, List.length_cons, List.length_nil, Nat.zero_add, kstrip_strip, C.le, List.cons_append, h4, h5, h6, h7]
  rfl

theorem row34_one (k : K) (g : Pg) (fr : Fr) (fs : Frames) (h : GoodG g) : callE cfg 18 [.c (.sl k 1 (encG g))] (fr :: fs) = some (some (.c (.str (pgW g))), fr :: fs) := by
  refine callE_code (fn := Tryz.f18) (rs := [.tmp 2]) (by kernel_rfl) (by kernel_rfl) (by kernel_rfl) rfl rfl rfl (by show 1 ≤ 5; decide) ?_
  have h1 := row54_ev k.strip g [] (fr :: fs) (by have := h.many; omega) h.rings (by have := (pgW_len h).1; omega)
  simp only [resTmpsR, List.filterMap, evC_ret, evC_region, evC_seq, feedL, feedOf, runL, stepW, wantedV, Ev.step, opv, ev, getT, put, params, constV, List.map, List.contains_nil, Bool.or_self, Nat.reduceEqDiff, if_true, if_false, reduceCtorEq, Nat.reduceBEq, give, gives, V.hasSl, C.isSl, V.strip, C.strip, feeds, List.append_nil, List.nil_append, List.contains_cons, Bool.false_eq_true, List.length_cons, constC, Bool.or_false, beq_self_eq_true, Bool.and_true, kstrip_strip, finishR, resVs, resV, freezeVs, freezeV, freezeC, target, consOf, doCall, argsG, List.all_cons, List.all_nil, V.le, C.le, C.leL, Nat.add_one_sub_one, cons_37, sealed_37, h1]
  rfl

theorem row34_ev (k : K) (l : List Pg) (fr : Fr) (fs : Frames) (hn : l.length ≤ 4001) (hg : ∀ x ∈ l, GoodG x) (hj : (joinF [44, 32] (l.map pgW)).length ≤ 140737488355328) :
    callE cfg 17 [.c (.sl k 1 (encL l)), .c (.fn (.func 18) [] [])] (fr :: fs) = some (some (.c (.str (rowW (l.map pgW)))), fr :: fs) := by
  refine callE_code (fn := Tryz.f17) (rs := [.tmp 4]) (by kernel_rfl) (by kernel_rfl) (by kernel_rfl) rfl rfl rfl (by show 2 ≤ 25; decide) ?_
  simp only [resTmpsR, List.filterMap, evC_ret, evC_region, evC_seq, evC_loop, blockEx, feedL, feedOf, runL, stepW, wantedV, Ev.step, opv, ev, getT, binV, intOp, strOp, put, params, constV, keep, List.map, List.contains_nil, Bool.or_self, Nat.reduceEqDiff, if_true, if_false, reduceCtorEq, Nat.reduceBEq, give, gives, V.hasSl, C.isSl, V.strip, C.strip, feeds, List.append_nil, List.nil_append, List.contains_cons, Bool.false_eq_true, List.getElem?_toArray, constC, lenV, List.getElem?_cons_zero, Bool.or_false, beq_self_eq_true, Bool.and_true, Nat.zero_add, List.map_cons, finishR, resVs, resV, freezeVs, freezeV, freezeC, target, consOf, doCall, argsG, List.all_cons, List.all_nil, V.le, C.le, cons_36, sealed_36, live_17_0, esz_58, und_26, encL_len]
  let σ : Nat × Fr → S := fun (i, ob) => { m := [(1, .c (.fn (.func 18) [] [])), (5, .c (.sl (if i = 0 then .nil else .own) 1 (encW ((l.map pgW).take i)))), (8, .c (.sl k.strip 1 (encL l))), (9, .c (.int .i64 l.length)), (10, .c (.int .i64 i))], fs := ob :: fr :: fs }
  generalize hL : loopE cfg (callE cfg) itE 17 [4] _ _ _ = out
  have hout : ∃ ex s, out = some (ex, s) ∧ ∃ k' ob, s.fs = ob :: fr :: fs ∧ ex = .exit 0 ∧ getT s.m 5 = .c (.sl k' 1 (encW (l.map pgW))) := by
    rw [← hL]
    refine loopE_inv σ (fun (i, _) => l.length - i) (fun (i, _) => i ≤ l.length) (fun ex s => ∃ k' ob, s.fs = ob :: fr :: fs ∧ ex = .exit 0 ∧ getT s.m 5 = .c (.sl k' 1 (encW (l.map pgW)))) (fun (i, ob) hi => ?_) (0, []) (by simp only; omega)
    simp only at hi
    rcases Nat.lt_or_ge i l.length with hi' | hi'
    · obtain ⟨x, h0, hd⟩ := drop_get hi'
      have h1 : (i : Int) < l.length := by omega
      have h2 : ((i : Int)).toNat = i := by omega
      have h3 : (0 : Int) ≤ i := by omega
      have he := encL_get h0
      have h4 := row34_one .ro x [] (fr :: fs) (hg x (List.mem_of_getElem? h0))
      have h5 : encW ((l.map pgW).take i) ++ [[.str (pgW x)]] = encW ((l.map pgW).take (i + 1)) := by rw [encW_snoc, take_map h0]
      have h6 : IntKind.i64.wrap ((i : Int) + 1) = ((i + 1 : Nat) : Int) := by rw [wrap64] <;> omega
      have h7 : ¬(i + 1 = 0) := by omega
      have h8 : (encW ((l.map pgW).take i)).length + 1 < 8278675785607 := by
        rw [encW_len, List.length_take]
        omega
      by_cases hz : i = 0
      · have hk : (if i = 0 then K.nil else K.own) = K.nil := if_pos hz
        simp only [σ, evC_skip, evC_region, evC_seq, evC_cond, evC_bseq, blockEx, feedL, feedOf, runL, stepW, wantedV, Ev.step, opv, ev, getT, binV, intOp, put, constV, List.map, List.contains_nil, Bool.or_self, Nat.reduceEqDiff, if_true, if_false, decide_true, reduceCtorEq, Nat.reduceBEq, give, gives, V.hasSl, C.isSl, V.strip, C.strip, feeds, List.append_nil, List.nil_append, List.contains_cons, Bool.false_eq_true, List.length_cons, constC, Bool.or_false, beq_self_eq_true, Bool.and_true, and_self, or_false, readV, D.toC, List.drop_zero, fillE, V.cells, toDs, C.toD, appendV, tailD, appOK, List.replicate, List.length_nil, Nat.zero_add, cfg_arr, List.set_cons_zero, List.map_cons, kstrip_own, kstrip_ro, kstrip_nil, Nat.lt_add_one, Nat.reduceLeDiff, Nat.mul_one, target, consOf, doCall, argsG, List.all_cons, List.all_nil, V.le, C.le, Ev.newObj, Nat.add_one_sub_one, agg_42, esz_26, esz_58, elemT_58, zero_9, und_58, elemI_58, sealed_18, encL_len, hk, h1, h2, h3, he, h4, h5, h6, h8]
        refine ⟨_, rfl, ?_⟩
        exact Round.again (i + 1, ob) rfl (by simp only; omega) (by simp only; omega)
      · have hk : (if i = 0 then K.nil else K.own) = K.own := if_neg hz
        simp only [σ, evC_skip, evC_region, evC_seq, evC_cond, evC_bseq, blockEx, feedL, feedOf, runL, stepW, wantedV, Ev.step, opv, ev, getT, binV, intOp, put, constV, List.map, List.contains_nil, Bool.or_self, Nat.reduceEqDiff, if_true, if_false, decide_true, reduceCtorEq, Nat.reduceBEq, give, gives, V.hasSl, C.isSl, V.strip, C.strip, feeds, List.append_nil, List.nil_append, List.contains_cons, Bool.false_eq_true, List.length_cons, constC, Bool.or_false, beq_self_eq_true, Bool.and_true, and_self, or_false, readV, D.toC, List.drop_zero, fillE, V.cells, toDs, C.toD, appendV, tailD, appOK, List.replicate, List.length_nil, Nat.zero_add, cfg_arr, List.set_cons_zero, List.map_cons, kstrip_own, kstrip_ro, Nat.lt_add_one, Nat.reduceLeDiff, Nat.mul_one, target, consOf, doCall, argsG, List.all_cons, List.all_nil, V.le, C.le, Ev.newObj, Nat.add_one_sub_one, agg_42, esz_26, esz_58, elemT_58, zero_9, und_58, elemI_58, sealed_18, encL_len, hk, h1, h2, h3, he, h4, h5, h6, h8]
        refine ⟨_, rfl, ?_⟩
        exact Round.again (i + 1, ob) rfl (by simp only; omega) (by simp only; omega)
    · have h1 : ¬((i : Int) < l.length) := by omega
      obtain rfl : i = l.length := by omega
      simp only [σ, evC_exit, evC_region, evC_seq, evC_cond, runL, stepW, wantedV, Ev.step, opv, ev, getT, binV, intOp, put, Nat.reduceEqDiff, if_true, if_false, decide_false, Nat.sub_self, h1]
      refine ⟨_, rfl, ?_⟩
      exact Round.out ⟨_, ob, rfl, rfl, by simp only [getT, keep, List.map, Nat.reduceEqDiff, if_true, if_false]; rw [List.take_of_length_le (by simp)]⟩
  obtain ⟨ex, ⟨m, fs'⟩, h1, k', ob, h2, rfl, h4⟩ := hout
  simp only at h2 h4
  subst h2
  have h5 := join_prim k'.strip (l.map pgW) ([] :: fr :: fs) (by simp; omega) hj
  have h6 : 1 + (joinF [44, 32] (l.map pgW)).length ≤ 9223372036854775807 := by omega
  have h7 : (joinF [44, 32] (l.map pgW)).length + 1 + 1 ≤ 9223372036854775807 := by omega
  rw [h1]
  simp only [getT, Nat.reduceEqDiff, if_true, if_false, List.nil_append, Bool.false_eq_true, List.length_cons, List.length_nil, Nat.zero_add, kstrip_strip, C.le, List.cons_append, h4, h5, h6, h7]
  rfl

theorem write_ev (k : K) (l : List Pg) (fr : Fr) (fs : Frames) (hm : mayL 0 l = true) : callE cfg 6 [.c (.sl k 1 (encL l))] (fr :: fs) = some (some (.c (.str (wL l))), fr :: fs) := by
  obtain ⟨hn, hg⟩ := sizes hm
  obtain ⟨g1, g2, _⟩ := mayL_good 0 l (by omega) hm
  refine callE_code (fn := Tryz.f6) (rs := [.tmp 2]) (by kernel_rfl) (by kernel_rfl) (by kernel_rfl) rfl rfl rfl (by show 1 ≤ 14; decide) ?_
  have h := may_ev k.strip l [] (fr :: fs) hn hg
  rw [hm] at h
  unfold wL
  by_cases h0 : l.length = 0
  · have h1 : ((l.length : Int) == 0) = true := by simp [h0]
    rw [if_pos h0]
    simp only [resTmpsR, List.filterMap, evC_ret, evC_region, evC_seq, evC_cond, evC_bseq, blockEx, feedL, feedOf, runL, stepW, wantedV, Ev.step, opv, ev, getT, binV, intOp, unV, put, params, constV, List.map, List.contains_nil, Bool.or_self, Nat.reduceEqDiff, if_true, if_false, reduceCtorEq, Nat.reduceBEq, give, gives, V.hasSl, C.isSl, V.strip, C.strip, feeds, List.append_nil, List.nil_append, List.contains_cons, Bool.false_eq_true, List.getElem?_toArray, List.length_cons, constC, lenV, List.getElem?_cons_zero, Bool.not_true, Bool.and_true, Bool.not_true, kstrip_strip, finishR, resVs, resV, freezeVs, freezeV, freezeC, target, consOf, doCall, argsG, List.all_cons, List.all_nil, V.le, C.le, Nat.add_one_sub_one, cons_9, sealed_9, und_26, encL_len, h, h1, emptyW]
  · have h1 : ((l.length : Int) == 0) = false := by rw [beq_eq_false_iff_ne]; omega
    have h2 := polysW_len g2 (by omega)
    have h3 := row34_ev k.strip l [] (fr :: fs) (by omega) g2 (by omega)
    have h4 : 13 + (rowW (l.map pgW)).length ≤ 9223372036854775807 := by omega
    rw [if_neg h0]
    simp only [resTmpsR, List.filterMap, evC_skip, evC_ret, evC_region, evC_seq, evC_cond, evC_bseq, blockEx, feedL, feedOf, runL, stepW, wantedV, Ev.step, opv, ev, getT, binV, intOp, strOp, unV, put, params, constV, List.map, List.contains_nil, Bool.or_self, Nat.reduceEqDiff, if_true, if_false, reduceCtorEq, Nat.reduceBEq, give, gives, V.hasSl, C.isSl, V.strip, C.strip, feeds, List.append_nil, List.nil_append, List.contains_cons, Bool.false_eq_true, List.getElem?_toArray, List.length_cons, constC, lenV, List.getElem?_cons_zero, Bool.or_false, beq_self_eq_true, Bool.not_true, Bool.and_true, List.length_nil, Nat.zero_add, Bool.not_true, kstrip_strip, Nat.reduceAdd, finishR, resVs, resV, freezeVs, freezeV, freezeC, target, consOf, doCall, argsG, List.all_cons, List.all_nil, V.le, C.le, C.leL, List.cons_append, Nat.add_one_sub_one, cons_9, sealed_9, cons_17, sealed_17, und_26, encL_len, h, h1, h3, wordW, h4]

theorem write_no (k : K) (l : List Pg) (fr : Fr) (fs : Frames) (hs : Small l) (hm : mayL 0 l = false) : callE cfg 6 [.c (.sl k 1 (encL l))] (fr :: fs) = some (some (.c (.str [])), fr :: fs) := by
  refine callE_code (fn := Tryz.f6) (rs := [.tmp 2]) (by kernel_rfl) (by kernel_rfl) (by kernel_rfl) rfl rfl rfl (by show 1 ≤ 14; decide) ?_
  have h := may_ev k.strip l [] (fr :: fs) hs.len hs.parts
  rw [hm] at h
  simp only [resTmpsR, List.filterMap, evC_ret, evC_region, evC_seq, evC_cond, evC_bseq, blockEx, feedL, feedOf, runL, stepW, wantedV, Ev.step, opv, ev, getT, unV, put, params, constV, List.map, List.contains_nil, Bool.or_self, Nat.reduceEqDiff, if_true, if_false, reduceCtorEq, Nat.reduceBEq, give, gives, V.hasSl, C.isSl, V.strip, C.strip, feeds, List.append_nil, List.nil_append, List.contains_cons, Bool.false_eq_true, List.length_cons, constC, Bool.not_false, Bool.and_true, kstrip_strip, finishR, resVs, resV, freezeVs, freezeV, freezeC, target, consOf, doCall, argsG, List.all_cons, List.all_nil, V.le, C.le, Nat.add_one_sub_one, cons_9, sealed_9, h]

end Go.Proofs.YtbfllngekcckeaaGreatDoor
