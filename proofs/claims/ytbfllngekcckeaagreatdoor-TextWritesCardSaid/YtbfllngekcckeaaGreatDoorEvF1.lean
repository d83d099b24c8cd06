/- The text functions, one by one. May, step by step. -/
import Derived.Test.YtbfllngekcckeaaGreatDoorEvT
import Derived.Test.YtbfllngekcckeaaGreatDoorEvSx
namespace Go.Proofs.YtbfllngekcckeaaGreatDoor
open Go.Ev
set_option linter.unusedSimpArgs false
set_option maxHeartbeats 400000
set_option maxRecDepth 4000

theorem new_ev (k : K) (es : List (List D)) (fs : Frames) (hz : ∀ e ∈ es, ∃ r, e = [D.sl 1 r]) (hn : es.length < 5629499534213) :
   callE cfg 7 [.c (.sl k 1 es)] fs = some (some (.c (.sl (if es.length = 0 then .nil else .own) 1 es)), fs) := by
  refine callE_code (fn := Tryz.f7) (rs := [.tmp 2]) (by kernel_rfl) (by kernel_rfl) (by kernel_rfl) rfl rfl rfl (by show 1 ≤ 18; decide) ?_
  simp only [resTmpsR, List.filterMap, evC_ret, evC_region, evC_seq, evC_loop, blockEx, feedL, feedOf, runL, stepW, wantedV, Ev.step, opv, ev, getT, put, params, constV, keep, List.map, List.contains_nil, Nat.reduceEqDiff, if_true, if_false, reduceCtorEq, give, V.hasSl, C.isSl, V.strip, C.strip, feeds, List.append_nil, List.nil_append, List.contains_cons, Bool.false_eq_true, List.getElem?_toArray, constC, lenV, List.getElem?_cons_zero, Bool.or_false, beq_self_eq_true, List.map_cons, finishR, resVs, resV, freezeVs, freezeV, freezeC, live_7_0, esz_26, und_22]
  let σ : Nat → S := fun i => { m := [(3, .c (.sl (if i = 0 then .nil else .own) 1 (es.take i))), (6, .c (.sl k.strip 1 es)), (7, .c (.int .i64 es.length)), (8, .c (.int .i64 i))], fs := [] :: fs }
  generalize hL : loopE cfg (callE cfg) itE 7 [2] _ _ _ = out
  have hout : ∃ s', out = some (.exit 0, keep (cfg.live 7 0) s') ∧ s' = { σ es.length with m := (9, .c (.bool false)) :: (σ es.length).m } := by
    refine ⟨_, ?_, rfl⟩
    rw [← hL]
    refine loopE_exit (l := cfg.live 7 0) σ es.length (fun i hi => ?_) ?_ (by simp)
    · have h1 : (i : Int) < es.length := by omega
      have h2 : ((i : Int)).toNat = i := by omega
      have h3 : (0 : Int) ≤ i := by omega
      obtain ⟨r, he⟩ : ∃ r, es[i]? = some [D.sl 1 r] := by
        obtain ⟨r, hr⟩ := hz es[i] (List.getElem_mem hi)
        exact ⟨r, by rw [List.getElem?_eq_getElem hi, hr]⟩
      have h4 : (es.take i).length + 1 < 5629499534213 := by simp; omega
      have h5 : es.take i ++ [[D.sl 1 r]] = es.take (i + 1) := by rw [List.take_add_one, he]; rfl
      have h6 : IntKind.i64.wrap ((i : Int) + 1) = ((i + 1 : Nat) : Int) := by rw [IntKind.wrap_i64]; omega
      have h7 : ¬(i + 1 = 0) := by omega
      by_cases h0 : i = 0
      · have hk : (if i = 0 then K.nil else K.own) = K.nil := if_pos h0
        simp only [σ, evC_skip, evC_region, evC_seq, evC_cond, evC_bseq, blockEx, feedL, feedOf, runL, stepW, wantedV, Ev.step, opv, ev, getT, binV, intOp, put, constV, keep, List.map, List.contains_nil, Bool.or_self, Nat.reduceEqDiff, if_true, if_false, decide_true, reduceCtorEq, Nat.reduceBEq, give, V.hasSl, C.isSl, V.strip, C.strip, feeds, List.append_nil, List.nil_append, List.contains_cons, Bool.false_eq_true, List.length_cons, constC, Bool.or_false, beq_self_eq_true, and_self, or_false, readV, D.toC, List.drop_zero, fillE, V.cells, toDs, C.toD, appendV, tailD, appOK, List.replicate, List.length_nil, Nat.zero_add, cfg_arr, List.set_cons_zero, List.map_cons, kstrip_own, kstrip_ro, kstrip_nil, Nat.lt_add_one, Nat.reduceLeDiff, Nat.mul_one, Ev.newObj, live_7_0, agg_37, esz_22, esz_26, elemT_26, zero_42, und_26, elemI_26, hk, h1, h2, h3, he, h4, h5, h6, or_false, h7]
        refine ⟨_, rfl, ?_⟩
        rfl
      · simp only [σ, evC_skip, evC_region, evC_seq, evC_cond, evC_bseq, blockEx, feedL, feedOf, runL, stepW, wantedV, Ev.step, opv, ev, getT, binV, intOp, put, constV, keep, List.map, List.contains_nil, Bool.or_self, Nat.reduceEqDiff, if_true, if_false, decide_true, reduceCtorEq, Nat.reduceBEq, give, V.hasSl, C.isSl, V.strip, C.strip, feeds, List.append_nil, List.nil_append, List.contains_cons, Bool.false_eq_true, List.length_cons, constC, Bool.or_false, beq_self_eq_true, and_self, or_false, readV, D.toC, List.drop_zero, fillE, V.cells, toDs, C.toD, appendV, tailD, appOK, List.replicate, List.length_nil, Nat.zero_add, cfg_arr, List.set_cons_zero, List.map_cons, kstrip_own, kstrip_ro, Nat.lt_add_one, Nat.reduceLeDiff, Nat.mul_one, Ev.newObj, live_7_0, agg_37, esz_22, esz_26, elemT_26, zero_42, und_26, elemI_26, h1, h2, h3, he, h4, h5, h6, or_false, h7, h0]
        refine ⟨_, rfl, ?_⟩
        rfl
    · have h1 : ¬((es.length : Int) < es.length) := by omega
      simp only [σ, evC_exit, evC_region, evC_seq, evC_cond, runL, stepW, wantedV, Ev.step, opv, ev, getT, binV, intOp, put, Nat.reduceEqDiff, if_true, if_false, decide_false, List.take_length, h1]
  obtain ⟨s', h1, rfl⟩ := hout
  rw [h1]
  simp only [σ, getT, keep, List.map, Nat.reduceEqDiff, if_true, if_false, List.map_cons, List.take_length, live_7_0, List.take_length]
theorem old_ev (k : K) (es : List (List D)) (fs : Frames) (hz : ∀ e ∈ es, ∃ r, e = [D.sl 1 r]) (hn : es.length < 5629499534213) :
   callE cfg 14 [.c (.sl k 1 es)] fs = some (some (.c (.sl (if es.length = 0 then .nil else .own) 1 es)), fs) := by
  refine callE_code (fn := Tryz.f14) (rs := [.tmp 2]) (by kernel_rfl) (by kernel_rfl) (by kernel_rfl) rfl rfl rfl (by show 1 ≤ 18; decide) ?_
  simp only [resTmpsR, List.filterMap, evC_ret, evC_region, evC_seq, evC_loop, blockEx, feedL, feedOf, runL, stepW, wantedV, Ev.step, opv, ev, getT, put, params, constV, keep, List.map, List.contains_nil, Nat.reduceEqDiff, if_true, if_false, reduceCtorEq, give, V.hasSl, C.isSl, V.strip, C.strip, feeds, List.append_nil, List.nil_append, List.contains_cons, Bool.false_eq_true, List.getElem?_toArray, constC, lenV, List.getElem?_cons_zero, Bool.or_false, beq_self_eq_true, List.map_cons, finishR, resVs, resV, freezeVs, freezeV, freezeC, live_14_0, esz_22, und_26]
  let σ : Nat → S := fun i => { m := [(3, .c (.sl (if i = 0 then .nil else .own) 1 (es.take i))), (6, .c (.sl k.strip 1 es)), (7, .c (.int .i64 es.length)), (8, .c (.int .i64 i))], fs := [] :: fs }
  generalize hL : loopE cfg (callE cfg) itE 14 [2] _ _ _ = out
  have hout : ∃ s', out = some (.exit 0, keep (cfg.live 14 0) s') ∧ s' = { σ es.length with m := (9, .c (.bool false)) :: (σ es.length).m } := by
    refine ⟨_, ?_, rfl⟩
    rw [← hL]
    refine loopE_exit (l := cfg.live 14 0) σ es.length (fun i hi => ?_) ?_ (by simp)
    · have h1 : (i : Int) < es.length := by omega
      have h2 : ((i : Int)).toNat = i := by omega
      have h3 : (0 : Int) ≤ i := by omega
      obtain ⟨r, he⟩ : ∃ r, es[i]? = some [D.sl 1 r] := by
        obtain ⟨r, hr⟩ := hz es[i] (List.getElem_mem hi)
        exact ⟨r, by rw [List.getElem?_eq_getElem hi, hr]⟩
      have h4 : (es.take i).length + 1 < 5629499534213 := by simp; omega
      have h5 : es.take i ++ [[D.sl 1 r]] = es.take (i + 1) := by rw [List.take_add_one, he]; rfl
      have h6 : IntKind.i64.wrap ((i : Int) + 1) = ((i + 1 : Nat) : Int) := by rw [IntKind.wrap_i64]; omega
      have h7 : ¬(i + 1 = 0) := by omega
      by_cases h0 : i = 0
      · have hk : (if i = 0 then K.nil else K.own) = K.nil := if_pos h0
        simp only [σ, evC_skip, evC_region, evC_seq, evC_cond, evC_bseq, blockEx, feedL, feedOf, runL, stepW, wantedV, Ev.step, opv, ev, getT, binV, intOp, put, constV, keep, List.map, List.contains_nil, Bool.or_self, Nat.reduceEqDiff, if_true, if_false, decide_true, reduceCtorEq, Nat.reduceBEq, give, V.hasSl, C.isSl, V.strip, C.strip, feeds, List.append_nil, List.nil_append, List.contains_cons, Bool.false_eq_true, List.length_cons, constC, Bool.or_false, beq_self_eq_true, and_self, or_false, readV, D.toC, List.drop_zero, fillE, V.cells, toDs, C.toD, appendV, tailD, appOK, List.replicate, List.length_nil, Nat.zero_add, cfg_arr, List.set_cons_zero, List.map_cons, kstrip_own, kstrip_ro, kstrip_nil, Nat.lt_add_one, Nat.reduceLeDiff, Nat.mul_one, Ev.newObj, live_14_0, agg_42, esz_22, esz_26, elemT_22, zero_37, und_22, elemI_22, hk, h1, h2, h3, he, h4, h5, h6, or_false, h7]
        refine ⟨_, rfl, ?_⟩
        rfl
      · simp only [σ, evC_skip, evC_region, evC_seq, evC_cond, evC_bseq, blockEx, feedL, feedOf, runL, stepW, wantedV, Ev.step, opv, ev, getT, binV, intOp, put, constV, keep, List.map, List.contains_nil, Bool.or_self, Nat.reduceEqDiff, if_true, if_false, decide_true, reduceCtorEq, Nat.reduceBEq, give, V.hasSl, C.isSl, V.strip, C.strip, feeds, List.append_nil, List.nil_append, List.contains_cons, Bool.false_eq_true, List.length_cons, constC, Bool.or_false, beq_self_eq_true, and_self, or_false, readV, D.toC, List.drop_zero, fillE, V.cells, toDs, C.toD, appendV, tailD, appOK, List.replicate, List.length_nil, Nat.zero_add, cfg_arr, List.set_cons_zero, List.map_cons, kstrip_own, kstrip_ro, Nat.lt_add_one, Nat.reduceLeDiff, Nat.mul_one, Ev.newObj, live_14_0, agg_42, esz_22, esz_26, elemT_22, zero_37, und_22, elemI_22, h1, h2, h3, he, h4, h5, h6, or_false, h7, h0]
        refine ⟨_, rfl, ?_⟩
        rfl
    · have h1 : ¬((es.length : Int) < es.length) := by omega
      simp only [σ, evC_exit, evC_region, evC_seq, evC_cond, runL, stepW, wantedV, Ev.step, opv, ev, getT, binV, intOp, put, Nat.reduceEqDiff, if_true, if_false, decide_false, List.take_length, h1]
  obtain ⟨s', h1, rfl⟩ := hout
  rw [h1]
  simp only [σ, getT, keep, List.map, Nat.reduceEqDiff, if_true, if_false, List.map_cons, List.take_length, live_14_0, List.take_length]
def byteD (n : Int) : List D := [.int .u8 (IntKind.u8.wrap n)]

def put4 (n : Int) : List (List D) := [byteD (n.fdiv 16777216), byteD (n.fdiv 65536), byteD (n.fdiv 256), byteD n]

theorem put_ev (k : K) (hk : k = .nil ∨ k = .own) (es : List (List D)) (n : Int) (fs : Frames) (hn : es.length + 4 < 70368744177664) :
    callE cfg 33 [.c (.sl k 1 es), .c (.int .i64 n)] fs = some (some (.c (.sl .own 1 (es ++ put4 n))), fs) := by
  refine callE_code (fn := Tryz.f33) (rs := [.tmp 4]) (by kernel_rfl) (by kernel_rfl) (by kernel_rfl) rfl rfl rfl (by show 2 ≤ 19; decide) ?_
  have m1 : min 24 64 = 24 := rfl
  have m2 : min 16 64 = 16 := rfl
  have m3 : min 8 64 = 8 := rfl
  rcases hk with rfl | rfl
  · simp only [resTmpsR, List.filterMap, evC_ret, evC_region, evC_seq, feedL, feedOf, runL, stepW, wantedV, Ev.step, opv, ev, getT, binV, shiftOp, put, params, constV, List.map, List.contains_nil, Bool.or_self, Nat.reduceEqDiff, if_true, if_false, reduceCtorEq, Nat.reduceBEq, give, V.hasSl, C.isSl, V.strip, C.strip, feeds, List.append_nil, List.nil_append, List.contains_cons, Bool.false_eq_true, List.length_cons, constC, Bool.or_false, beq_self_eq_true, and_self, or_false, Nat.reduceLT, fillE, V.cells, toDs, C.toD, appendV, tailD, appOK, List.replicate, List.length_nil, Nat.zero_add, cfg_arr, IntKind.bits, Int.reducePow, List.set_cons_zero, List.set_cons_succ, kstrip_own, kstrip_nil, Nat.lt_add_one, Nat.zero_lt_succ, Nat.reduceAdd, Nat.reduceLeDiff, Nat.mul_one, finishR, resVs, resV, freezeVs, freezeV, freezeC, convV, Ev.newObj, List.cons_append, Int.reduceLT, Int.reduceToNat, esz_43, elemT_43, zero_5, conv_3_5, und_43, elemI_43, hn, m1, m2, m3]
    rfl
  · simp only [resTmpsR, List.filterMap, evC_ret, evC_region, evC_seq, feedL, feedOf, runL, stepW, wantedV, Ev.step, opv, ev, getT, binV, shiftOp, put, params, constV, List.map, List.contains_nil, Bool.or_self, Nat.reduceEqDiff, if_true, if_false, reduceCtorEq, Nat.reduceBEq, give, V.hasSl, C.isSl, V.strip, C.strip, feeds, List.append_nil, List.nil_append, List.contains_cons, Bool.false_eq_true, List.length_cons, constC, Bool.or_false, beq_self_eq_true, and_self, or_false, Nat.reduceLT, fillE, V.cells, toDs, C.toD, appendV, tailD, appOK, List.replicate, List.length_nil, Nat.zero_add, cfg_arr, IntKind.bits, Int.reducePow, List.set_cons_zero, List.set_cons_succ, kstrip_own, Nat.lt_add_one, Nat.zero_lt_succ, Nat.reduceAdd, Nat.reduceLeDiff, Nat.mul_one, finishR, resVs, resV, freezeVs, freezeV, freezeC, convV, Ev.newObj, List.cons_append, Int.reduceLT, Int.reduceToNat, esz_43, elemT_43, zero_5, conv_3_5, und_43, elemI_43, hn, m1, m2, m3]
    rfl

theorem near_ev (n : Int) (fr : Fr) (fs : Frames) : callE cfg 22 [.c (.int .i64 n)] (fr :: fs) = some (some (.c (.bool (decide (n ≥ -134217728) && decide (n ≤ 134217728)))), fr :: fs) := by
  refine callE_code (fn := Tryz.f22) (rs := [.tmp 2]) (by kernel_rfl) (by kernel_rfl) (by kernel_rfl) rfl rfl rfl (by show 1 ≤ 9; decide) ?_
  by_cases h : n ≥ -134217728
  · simp only [resTmpsR, List.filterMap, evC_ret, evC_region, evC_seq, feedL, feedOf, runL, stepW, wantedV, Ev.step, opv, ev, getT, binV, intOp, put, params, constV, List.contains_nil, Bool.or_self, Nat.reduceEqDiff, if_true, if_false, decide_true, reduceCtorEq, Nat.reduceBEq, give, V.hasSl, C.isSl, V.strip, C.strip, feeds, List.append_nil, List.nil_append, List.contains_cons, Bool.false_eq_true, List.getElem?_toArray, List.length_cons, constC, List.getElem?_cons_zero, List.getElem?_cons_succ, Bool.or_false, beq_self_eq_true, Bool.true_and, Option.bind_some, cond_true, finishR, resVs, resV, freezeVs, freezeV, freezeC, C.le, Int.reduceNeg, h]
  · simp only [resTmpsR, List.filterMap, evC_ret, evC_region, evC_seq, feedL, feedOf, runL, stepW, wantedV, Ev.step, opv, ev, getT, binV, intOp, put, params, constV, List.contains_nil, Bool.or_self, Nat.reduceEqDiff, if_true, if_false, decide_false, reduceCtorEq, Nat.reduceBEq, give, V.hasSl, C.isSl, V.strip, C.strip, feeds, List.append_nil, List.nil_append, List.contains_cons, Bool.false_eq_true, List.getElem?_toArray, List.length_cons, constC, List.getElem?_cons_zero, List.getElem?_cons_succ, Bool.or_false, beq_self_eq_true, Bool.false_and, Option.bind_some, bb_ft, finishR, resVs, resV, freezeVs, freezeV, freezeC, C.le, pickV, Int.reduceNeg, h]

def put4r (m : Int) : List (List D) := [byteD (IntKind.i64.wrap (m.tdiv 16777216)), byteD ((IntKind.i64.wrap (m.tdiv 65536)).tmod 256), byteD ((IntKind.i64.wrap (m.tdiv 256)).tmod 256), byteD (m.tmod 256)]

theorem put4_same (n : Int) (h1 : -2147483648 ≤ n) (h2 : n < 2147483648) : put4r (if n < 0 then IntKind.i64.wrap (n + 4294967296) else n) = put4 n := by
  have u8 : ∀ m : Int, IntKind.u8.wrap m = m % 256 := fun m => by simp [IntKind.wrap, IntKind.bits, IntKind.signed]
  have key : ∀ m : Int, 0 ≤ m → m < 4294967296 → put4r m = [byteD (m / 16777216), byteD (m / 65536), byteD (m / 256), byteD m] := fun m h3 h4 => by
    unfold put4r byteD
    rw [Int.tdiv_eq_ediv_of_nonneg h3, Int.tdiv_eq_ediv_of_nonneg h3, Int.tdiv_eq_ediv_of_nonneg h3, IntKind.wrap_i64, IntKind.wrap_i64, IntKind.wrap_i64]
    rw [Int.tmod_eq_emod_of_nonneg h3, Int.tmod_eq_emod_of_nonneg (by omega), Int.tmod_eq_emod_of_nonneg (by omega)]
    simp only [u8, List.cons.injEq, D.int.injEq, true_and, and_true]
    refine ⟨by omega, by omega, by omega, by omega⟩
  unfold put4 byteD
  rw [Int.fdiv_eq_ediv_of_nonneg _ (by omega), Int.fdiv_eq_ediv_of_nonneg _ (by omega), Int.fdiv_eq_ediv_of_nonneg _ (by omega)]
  by_cases h : n < 0
  · rw [if_pos h, IntKind.wrap_i64, key _ (by omega) (by omega)]
    unfold byteD
    simp only [u8, List.cons.injEq, D.int.injEq, true_and, and_true]
    refine ⟨by omega, by omega, by omega, by omega⟩
  · rw [if_neg h, key _ (by omega) (by omega)]
    rfl

def nearB (n : Int) : Bool := decide (n ≥ -134217728) && decide (n ≤ 134217728)

theorem mayin_ev (x y : Int) (fr : Fr) (fs : Frames) : callE cfg 21 [.agg [.int .i64 x, .int .i64 y]] (fr :: fs) = some (some (.c (.bool (!nearB x || !nearB y))), fr :: fs) := by
  refine callE_code (fn := Tryz.f21) (rs := [.tmp 2]) (by kernel_rfl) (by kernel_rfl) (by kernel_rfl) rfl rfl rfl (by show 1 ≤ 13; decide) ?_
  have hx := near_ev x [] (fr :: fs)
  have hy := near_ev y [] (fr :: fs)
  cases h : nearB x
  · unfold nearB at h
    simp only [resTmpsR, List.filterMap, evC_ret, evC_region, evC_seq, feedL, feedOf, runL, stepW, wantedV, Ev.step, opv, ev, getT, unV, put, params, constV, List.map, List.contains_nil, Bool.or_self, Nat.reduceEqDiff, if_true, if_false, reduceCtorEq, Nat.reduceBEq, give, gives, V.hasSl, C.isSl, V.strip, C.strip, feeds, List.append_nil, List.nil_append, List.contains_cons, Bool.false_eq_true, List.getElem?_toArray, List.length_cons, constC, List.getElem?_cons_zero, List.getElem?_cons_succ, Bool.or_false, beq_self_eq_true, Bool.not_false, Bool.and_true, Bool.false_and, readV, List.drop_zero, V.cells, List.length_nil, Nat.zero_add, cfg_esc, Option.bind_some, List.drop_succ_cons, List.take_zero, Bool.true_or, bb_tf, List.set_cons_zero, finishR, resVs, resV, freezeVs, freezeV, freezeC, target, consOf, doCall, argsG, List.all_cons, List.all_nil, V.le, C.le, C.leL, Ev.newObj, Ev.look, Ev.setF, Ev.setRange, pickV, List.cons_append, Int.reduceNeg, cons_22, sealed_22, agg_3, lay_41, hx, h]
  · unfold nearB at h
    simp only [resTmpsR, List.filterMap, evC_ret, evC_region, evC_seq, feedL, feedOf, runL, stepW, wantedV, Ev.step, opv, ev, getT, unV, put, params, constV, List.map, List.contains_nil, Bool.or_self, Nat.reduceEqDiff, if_true, if_false, reduceCtorEq, Nat.reduceBEq, give, gives, V.hasSl, C.isSl, V.strip, C.strip, feeds, List.append_nil, List.nil_append, List.contains_cons, Bool.false_eq_true, List.getElem?_toArray, List.length_cons, constC, List.getElem?_cons_zero, List.getElem?_cons_succ, Bool.or_false, Bool.false_or, beq_self_eq_true, Bool.not_true, Bool.and_true, Bool.false_and, readV, List.drop_zero, V.cells, List.length_nil, Nat.zero_add, cfg_esc, Option.bind_some, List.drop_succ_cons, List.take_succ_cons, List.take_zero, Bool.false_or, Bool.not_true, cond_false, List.set_cons_zero, Nat.reduceAdd, finishR, resVs, resV, freezeVs, freezeV, freezeC, target, consOf, doCall, argsG, List.all_cons, List.all_nil, V.le, C.le, C.leL, Ev.newObj, Ev.look, Ev.setF, Ev.setRange, List.cons_append, Int.reduceNeg, cons_22, sealed_22, agg_3, lay_41, hx, hy, h]
    rfl

end Go.Proofs.YtbfllngekcckeaaGreatDoor
namespace Go.Proofs.YtbfllngekcckeaaGreatDoor
open Go.Ev
set_option linter.unusedSimpArgs false
set_option linter.unusedVariables false
set_option maxHeartbeats 400000
set_option maxRecDepth 4000

def encP (p : Int × Int) : List D := [.int .i64 p.1, .int .i64 p.2]
def encR (r : List (Int × Int)) : List (List D) := r.map encP
def encG (g : List (List (Int × Int))) : List (List D) := g.map fun r => [.sl 2 (encR r)]
def encL (l : List (List (List (Int × Int)))) : List (List D) := l.map fun g => [.sl 1 (encG g)]
def badP (p : Int × Int) : Bool := !nearB p.1 || !nearB p.2

theorem encR_len (r : List (Int × Int)) : (encR r).length = r.length := by simp [encR]
theorem encG_len (g : List (List (Int × Int))) : (encG g).length = g.length := by simp [encG]
theorem encL_len (l : List (List (List (Int × Int)))) : (encL l).length = l.length := by simp [encL]
theorem encR_get {r : List (Int × Int)} {i : Nat} {p : Int × Int} (h : r[i]? = some p) : (encR r)[i]? = some [.int .i64 p.1, .int .i64 p.2] := by simp [encR, h, encP]
theorem encG_get {g : List (List (Int × Int))} {i : Nat} {r : List (Int × Int)} (h : g[i]? = some r) : (encG g)[i]? = some [.sl 2 (encR r)] := by simp [encG, h]
theorem encL_get {l : List (List (List (Int × Int)))} {i : Nat} {g : List (List (Int × Int))} (h : l[i]? = some g) : (encL l)[i]? = some [.sl 1 (encG g)] := by simp [encL, h]

/-- From the index on. -/
def idxB : Nat → List (Int × Int) → Int
  | _, [] => -1
  | i, p :: r => if badP p then i else idxB (i + 1) r

theorem idxB_any : ∀ (i : Nat) (r : List (Int × Int)), decide (idxB i r ≥ 0) = r.any badP
  | _, [] => rfl
  | i, p :: r => by
    simp only [idxB, List.any_cons]
    by_cases h : badP p = true
    · simp [h]
    · simpa [h] using idxB_any (i + 1) r

theorem drop_get {α : Type} {l : List α} {i : Nat} (h : i < l.length) : ∃ x, l[i]? = some x ∧ l.drop i = x :: l.drop (i + 1) := ⟨l[i], by simp [h], by rw [List.drop_eq_getElem_cons h]⟩

theorem index_ev (k : K) (r : List (Int × Int)) (fr : Fr) (fs : Frames) (hn : r.length < 9223372036854775807) :
    callE cfg 41 [.c (.sl k 2 (encR r)), .c (.fn (.func 21) [] [])] (fr :: fs) = some (some (.c (.int .i64 (idxB 0 r))), fr :: fs) := by
  refine callE_code (fn := Tryz.f41) (rs := [.tmp 4]) (by kernel_rfl) (by kernel_rfl) (by kernel_rfl) rfl rfl rfl (by show 2 ≤ 19; decide) ?_
  simp only [resTmpsR, List.filterMap, evC_ret, evC_region, evC_seq, evC_loop, blockEx, feedL, feedOf, runL, stepW, wantedV, Ev.step, opv, ev, getT, put, params, constV, keep, List.map, List.contains_nil, Nat.reduceEqDiff, if_true, if_false, reduceCtorEq, give, V.hasSl, C.isSl, V.strip, C.strip, feeds, List.append_nil, Bool.false_eq_true, List.getElem?_toArray, constC, lenV, List.getElem?_cons_zero, Nat.zero_add, List.map_cons, finishR, resVs, resV, freezeVs, freezeV, freezeC, Int.reduceNeg, live_41_0, und_39, encR_len]
  let σ : Nat → S := fun i => { m := [(0, .c (.sl k 2 (encR r))), (1, .c (.fn (.func 21) [] [])), (4, .c (.int .i64 0)), (7, .c (.int .i64 r.length)), (8, .c (.int .i64 i))], fs := [] :: fr :: fs }
  generalize hL : loopE cfg (callE cfg) itE 41 [4] _ _ _ = out
  have hout : ∃ ex s, out = some (ex, s) ∧ s.fs = [] :: fr :: fs ∧ ((ex = .exit 0 ∧ idxB 0 r = -1) ∨ (ex = .ret ∧ getT s.m 4 = .c (.int .i64 (idxB 0 r)))) := by
    rw [← hL]
    refine loopE_inv σ (fun i => r.length - i) (fun i => i ≤ r.length ∧ idxB 0 r = idxB i (r.drop i)) (fun ex s => s.fs = [] :: fr :: fs ∧ ((ex = .exit 0 ∧ idxB 0 r = -1) ∨ (ex = .ret ∧ getT s.m 4 = .c (.int .i64 (idxB 0 r))))) (fun i ⟨hi, hr⟩ => ?_) 0 ⟨by omega, rfl⟩
    rcases Nat.lt_or_ge i r.length with hi' | hi'
    · obtain ⟨p, h0, hd⟩ := drop_get hi'
      rw [hd] at hr
      have h1 : (i : Int) < r.length := by omega
      have h2 : ((i : Int)).toNat = i := by omega
      have h3 : (0 : Int) ≤ i := by omega
      have he := encR_get h0
      have h6 : IntKind.i64.wrap ((i : Int) + 1) = ((i + 1 : Nat) : Int) := by rw [wrap64] <;> omega
      have hm := mayin_ev p.1 p.2 [] (fr :: fs)
      have hm' : callE cfg 21 [.agg [.int .i64 p.1, .int .i64 p.2]] ([] :: fr :: fs) = some (some (.c (.bool (badP p))), [] :: fr :: fs) := hm
      simp only [idxB] at hr
      cases hb : badP p
      · rw [hb] at hr hm'
        simp only [σ, evC_skip, evC_region, evC_seq, evC_cond, evC_bseq, blockEx, feedL, feedOf, runL, stepW, wantedV, Ev.step, opv, ev, getT, binV, intOp, put, constV, List.map, List.contains_nil, Bool.or_self, Nat.reduceEqDiff, if_true, if_false, decide_true, reduceCtorEq, Nat.reduceBEq, give, gives, V.hasSl, C.isSl, V.strip, C.strip, feeds, List.append_nil, List.nil_append, List.contains_cons, Bool.false_eq_true, List.length_cons, constC, Bool.and_true, and_self, readV, D.toC, List.drop_zero, List.length_nil, Nat.zero_add, List.take_succ_cons, List.take_zero, List.map_cons, Nat.zero_lt_succ, Nat.reduceAdd, Nat.reduceLeDiff, target, consOf, doCall, argsG, List.all_cons, List.all_nil, V.le, C.le, C.leL, Int.reduceNeg, sz_41, agg_41, esz_39, encR_len, sealed_21, h1, h2, h3, he, h6, hm']
        exact ⟨_, rfl, Round.again (i + 1) rfl ⟨by omega, hr⟩ (by omega)⟩
      · rw [hb] at hr hm'
        simp only [σ, evC_skip, evC_ret, evC_region, evC_seq, evC_cond, evC_bseq, blockEx, feedL, feedOf, runL, stepW, wantedV, Ev.step, opv, ev, getT, binV, intOp, put, List.map, List.contains_nil, Bool.or_self, Nat.reduceEqDiff, if_true, if_false, decide_true, reduceCtorEq, Nat.reduceBEq, give, gives, V.hasSl, C.isSl, V.strip, C.strip, feeds, List.append_nil, List.nil_append, List.contains_cons, Bool.false_eq_true, List.length_cons, Bool.or_false, beq_self_eq_true, Bool.and_true, and_self, readV, D.toC, List.drop_zero, List.length_nil, Nat.zero_add, List.take_succ_cons, List.take_zero, List.map_cons, Nat.zero_lt_succ, Nat.reduceAdd, Nat.reduceLeDiff, target, consOf, doCall, argsG, List.all_cons, List.all_nil, V.le, C.le, C.leL, Int.reduceNeg, sz_41, agg_41, esz_39, encR_len, sealed_21, h1, h2, h3, he, hm']
        exact ⟨_, rfl, Round.ret ⟨rfl, .inr ⟨rfl, by rw [hr]; rfl⟩⟩⟩
    · have h1 : ¬((i : Int) < r.length) := by omega
      rw [List.drop_eq_nil_of_le hi'] at hr
      simp only [σ, evC_exit, evC_region, evC_seq, evC_cond, runL, stepW, wantedV, Ev.step, opv, ev, getT, binV, intOp, put, Nat.reduceEqDiff, if_true, if_false, decide_false, reduceCtorEq, Int.reduceNeg, h1]
      exact ⟨_, rfl, Round.out ⟨rfl, .inl ⟨rfl, hr⟩⟩⟩
  obtain ⟨ex, ⟨m, fs'⟩, h1, h2, h3 | h3⟩ := hout
  · obtain ⟨rfl, h4⟩ := h3
    simp only at h2
    subst h2
    rw [h1, h4]
    simp only [getT, if_true, List.length_cons, C.le, Int.reduceNeg]
  · obtain ⟨rfl, h4⟩ := h3
    simp only at h2 h4
    subst h2
    rw [h1]
    simp only [if_true, List.length_cons, C.le, h4]

theorem contains_ev (k : K) (r : List (Int × Int)) (fr : Fr) (fs : Frames) (hn : r.length < 9223372036854775807) :
    callE cfg 20 [.c (.sl k 2 (encR r)), .c (.fn (.func 21) [] [])] (fr :: fs) = some (some (.c (.bool (r.any badP))), fr :: fs) := by
  refine callE_code (fn := Tryz.f20) (rs := [.tmp 4]) (by kernel_rfl) (by kernel_rfl) (by kernel_rfl) rfl rfl rfl (by show 2 ≤ 9; decide) ?_
  have h := index_ev k.strip r [] (fr :: fs) hn
  simp only [resTmpsR, List.filterMap, evC_ret, evC_region, evC_seq, feedL, feedOf, runL, stepW, wantedV, Ev.step, opv, ev, getT, binV, intOp, put, params, constV, List.map, List.contains_nil, Bool.or_self, Nat.reduceEqDiff, if_true, if_false, reduceCtorEq, Nat.reduceBEq, give, gives, V.hasSl, C.isSl, V.strip, C.strip, feeds, List.append_nil, List.nil_append, List.contains_cons, Bool.false_eq_true, List.length_cons, constC, Bool.or_false, beq_self_eq_true, Bool.and_true, Nat.zero_add, kstrip_strip, finishR, resVs, resV, freezeVs, freezeV, freezeC, target, consOf, doCall, argsG, List.all_cons, List.all_nil, V.le, C.le, C.leL, cons_41, sealed_41, h, idxB_any]

end Go.Proofs.YtbfllngekcckeaaGreatDoor
