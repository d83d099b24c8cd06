/- The text functions, one by one. -/
import Derived.Test.YtbfllngekcckeaaDoorEvT
import Derived.Test.YtbfllngekcckeaaDoorEvSx
namespace Go.Proofs.YtbfllngekcckeaaDoor
open Go.Ev
set_option linter.unusedSimpArgs false
set_option maxHeartbeats 400000
set_option maxRecDepth 4000

theorem new_ev (k : K) (es : List (List D)) (fs : Frames) (hz : ∀ e ∈ es, ∃ r, e = [D.sl 1 r]) (hn : es.length < 5629499534213) :
   callE cfg 10 [.c (.sl k 1 es)] fs = some (some (.c (.sl (if es.length = 0 then .nil else .own) 1 es)), fs) := by
  refine callE_code (fn := Tryd.f10) (rs := [.tmp 2]) (by kernel_rfl) (by kernel_rfl) (by kernel_rfl) rfl rfl rfl (by show 1 ≤ 18; decide) ?_
  simp only [resTmpsR, List.filterMap, evC_ret, evC_region, evC_seq, evC_loop, blockEx, feedL, feedOf, runL, stepW, wantedV, Ev.step, opv, ev, getT, put, params, constV, keep, List.map, List.contains_nil, Nat.reduceEqDiff, if_true, if_false, reduceCtorEq, give, V.hasSl, C.isSl, V.strip, C.strip, feeds, List.append_nil, List.nil_append, List.contains_cons, Bool.false_eq_true, List.getElem?_toArray, constC, lenV, List.getElem?_cons_zero, Bool.or_false, beq_self_eq_true, List.map_cons, finishR, resVs, resV, freezeVs, freezeV, freezeC, live_10_0, esz_27, und_22]
  let σ : Nat → S := fun i => { m := [(3, .c (.sl (if i = 0 then .nil else .own) 1 (es.take i))), (6, .c (.sl k.strip 1 es)), (7, .c (.int .i64 es.length)), (8, .c (.int .i64 i))], fs := [] :: fs }
  generalize hL : loopE cfg (callE cfg) itE 10 [2] _ _ _ = out
  have hout : ∃ s', out = some (.exit 0, keep (cfg.live 10 0) s') ∧ s' = { σ es.length with m := (9, .c (.bool false)) :: (σ es.length).m } := by
    refine ⟨_, ?_, rfl⟩
    rw [← hL]
    refine loopE_exit (l := cfg.live 10 0) σ es.length (fun i hi => ?_) ?_ (by simp)
    · have h1 : (i : Int) < es.length := by omega
      have h2 : ((i : Int)).toNat = i := by omega
      have h3 : (0 : Int) ≤ i := by omega
      obtain ⟨r, he⟩ : ∃ r, es[i]? = some [D.sl 1 r] := by
        obtain ⟨r, hr⟩ := hz es[i] (List.getElem_mem hi)
        exact ⟨r, by rw [List.getElem?_eq_getElem hi, hr]⟩
      have h4 : (es.take i).length + 1 < 5629499534213 := by simp; omega
      have h5 : es.take i ++ [[D.sl 1 r]] = es.take (i + 1) := by rw [List.take_add_one, he]; rfl
      have h6 : IntKind.i64.wrap ((i : Int) + 1) = ((i + 1 : Nat) : Int) := by rw [IntKind.wrap_i64]; omega
      have h7 : ¬(i + 1 = 0) := by omega
      by_cases h0 : i = 0
      · have hk : (if i = 0 then K.nil else K.own) = K.nil := if_pos h0
        simp only [σ, evC_skip, evC_region, evC_seq, evC_cond, evC_bseq, blockEx, feedL, feedOf, runL, stepW, wantedV, Ev.step, opv, ev, getT, binV, intOp, put, constV, keep, List.map, List.contains_nil, Bool.or_self, Nat.reduceEqDiff, if_true, if_false, decide_true, reduceCtorEq, Nat.reduceBEq, give, V.hasSl, C.isSl, V.strip, C.strip, feeds, List.append_nil, List.nil_append, List.contains_cons, Bool.false_eq_true, List.length_cons, constC, Bool.or_false, beq_self_eq_true, and_self, or_false, readV, D.toC, List.drop_zero, fillE, V.cells, toDs, C.toD, appendV, tailD, appOK, List.replicate, List.length_nil, Nat.zero_add, cfg_arr, List.set_cons_zero, List.map_cons, kstrip_own, kstrip_ro, kstrip_nil, Nat.lt_add_one, Nat.reduceLeDiff, Nat.mul_one, Ev.newObj, live_10_0, agg_44, esz_22, esz_27, elemT_27, zero_49, und_27, elemI_27, hk, h1, h2, h3, he, h4, h5, h6, or_false, h7]
        refine ⟨_, rfl, ?_⟩
        rfl
      · simp only [σ, evC_skip, evC_region, evC_seq, evC_cond, evC_bseq, blockEx, feedL, feedOf, runL, stepW, wantedV, Ev.step, opv, ev, getT, binV, intOp, put, constV, keep, List.map, List.contains_nil, Bool.or_self, Nat.reduceEqDiff, if_true, if_false, decide_true, reduceCtorEq, Nat.reduceBEq, give, V.hasSl, C.isSl, V.strip, C.strip, feeds, List.append_nil, List.nil_append, List.contains_cons, Bool.false_eq_true, List.length_cons, constC, Bool.or_false, beq_self_eq_true, and_self, or_false, readV, D.toC, List.drop_zero, fillE, V.cells, toDs, C.toD, appendV, tailD, appOK, List.replicate, List.length_nil, Nat.zero_add, cfg_arr, List.set_cons_zero, List.map_cons, kstrip_own, kstrip_ro, Nat.lt_add_one, Nat.reduceLeDiff, Nat.mul_one, Ev.newObj, live_10_0, agg_44, esz_22, esz_27, elemT_27, zero_49, und_27, elemI_27, h1, h2, h3, he, h4, h5, h6, or_false, h7, h0]
        refine ⟨_, rfl, ?_⟩
        rfl
    · have h1 : ¬((es.length : Int) < es.length) := by omega
      simp only [σ, evC_exit, evC_region, evC_seq, evC_cond, runL, stepW, wantedV, Ev.step, opv, ev, getT, binV, intOp, put, Nat.reduceEqDiff, if_true, if_false, decide_false, List.take_length, h1]
  obtain ⟨s', h1, rfl⟩ := hout
  rw [h1]
  simp only [σ, getT, keep, List.map, Nat.reduceEqDiff, if_true, if_false, List.map_cons, List.take_length, live_10_0, List.take_length]
theorem old_ev (k : K) (es : List (List D)) (fs : Frames) (hz : ∀ e ∈ es, ∃ r, e = [D.sl 1 r]) (hn : es.length < 5629499534213) :
   callE cfg 15 [.c (.sl k 1 es)] fs = some (some (.c (.sl (if es.length = 0 then .nil else .own) 1 es)), fs) := by
  refine callE_code (fn := Tryd.f15) (rs := [.tmp 2]) (by kernel_rfl) (by kernel_rfl) (by kernel_rfl) rfl rfl rfl (by show 1 ≤ 18; decide) ?_
  simp only [resTmpsR, List.filterMap, evC_ret, evC_region, evC_seq, evC_loop, blockEx, feedL, feedOf, runL, stepW, wantedV, Ev.step, opv, ev, getT, put, params, constV, keep, List.map, List.contains_nil, Nat.reduceEqDiff, if_true, if_false, reduceCtorEq, give, V.hasSl, C.isSl, V.strip, C.strip, feeds, List.append_nil, List.nil_append, List.contains_cons, Bool.false_eq_true, List.getElem?_toArray, constC, lenV, List.getElem?_cons_zero, Bool.or_false, beq_self_eq_true, List.map_cons, finishR, resVs, resV, freezeVs, freezeV, freezeC, live_15_0, esz_22, und_27]
  let σ : Nat → S := fun i => { m := [(3, .c (.sl (if i = 0 then .nil else .own) 1 (es.take i))), (6, .c (.sl k.strip 1 es)), (7, .c (.int .i64 es.length)), (8, .c (.int .i64 i))], fs := [] :: fs }
  generalize hL : loopE cfg (callE cfg) itE 15 [2] _ _ _ = out
  have hout : ∃ s', out = some (.exit 0, keep (cfg.live 15 0) s') ∧ s' = { σ es.length with m := (9, .c (.bool false)) :: (σ es.length).m } := by
    refine ⟨_, ?_, rfl⟩
    rw [← hL]
    refine loopE_exit (l := cfg.live 15 0) σ es.length (fun i hi => ?_) ?_ (by simp)
    · have h1 : (i : Int) < es.length := by omega
      have h2 : ((i : Int)).toNat = i := by omega
      have h3 : (0 : Int) ≤ i := by omega
      obtain ⟨r, he⟩ : ∃ r, es[i]? = some [D.sl 1 r] := by
        obtain ⟨r, hr⟩ := hz es[i] (List.getElem_mem hi)
        exact ⟨r, by rw [List.getElem?_eq_getElem hi, hr]⟩
      have h4 : (es.take i).length + 1 < 5629499534213 := by simp; omega
      have h5 : es.take i ++ [[D.sl 1 r]] = es.take (i + 1) := by rw [List.take_add_one, he]; rfl
      have h6 : IntKind.i64.wrap ((i : Int) + 1) = ((i + 1 : Nat) : Int) := by rw [IntKind.wrap_i64]; omega
      have h7 : ¬(i + 1 = 0) := by omega
      by_cases h0 : i = 0
      · have hk : (if i = 0 then K.nil else K.own) = K.nil := if_pos h0
        simp only [σ, evC_skip, evC_region, evC_seq, evC_cond, evC_bseq, blockEx, feedL, feedOf, runL, stepW, wantedV, Ev.step, opv, ev, getT, binV, intOp, put, constV, keep, List.map, List.contains_nil, Bool.or_self, Nat.reduceEqDiff, if_true, if_false, decide_true, reduceCtorEq, Nat.reduceBEq, give, V.hasSl, C.isSl, V.strip, C.strip, feeds, List.append_nil, List.nil_append, List.contains_cons, Bool.false_eq_true, List.length_cons, constC, Bool.or_false, beq_self_eq_true, and_self, or_false, readV, D.toC, List.drop_zero, fillE, V.cells, toDs, C.toD, appendV, tailD, appOK, List.replicate, List.length_nil, Nat.zero_add, cfg_arr, List.set_cons_zero, List.map_cons, kstrip_own, kstrip_ro, kstrip_nil, Nat.lt_add_one, Nat.reduceLeDiff, Nat.mul_one, Ev.newObj, live_15_0, agg_49, esz_22, esz_27, elemT_22, zero_44, und_22, elemI_22, hk, h1, h2, h3, he, h4, h5, h6, or_false, h7]
        refine ⟨_, rfl, ?_⟩
        rfl
      · simp only [σ, evC_skip, evC_region, evC_seq, evC_cond, evC_bseq, blockEx, feedL, feedOf, runL, stepW, wantedV, Ev.step, opv, ev, getT, binV, intOp, put, constV, keep, List.map, List.contains_nil, Bool.or_self, Nat.reduceEqDiff, if_true, if_false, decide_true, reduceCtorEq, Nat.reduceBEq, give, V.hasSl, C.isSl, V.strip, C.strip, feeds, List.append_nil, List.nil_append, List.contains_cons, Bool.false_eq_true, List.length_cons, constC, Bool.or_false, beq_self_eq_true, and_self, or_false, readV, D.toC, List.drop_zero, fillE, V.cells, toDs, C.toD, appendV, tailD, appOK, List.replicate, List.length_nil, Nat.zero_add, cfg_arr, List.set_cons_zero, List.map_cons, kstrip_own, kstrip_ro, Nat.lt_add_one, Nat.reduceLeDiff, Nat.mul_one, Ev.newObj, live_15_0, agg_49, esz_22, esz_27, elemT_22, zero_44, und_22, elemI_22, h1, h2, h3, he, h4, h5, h6, or_false, h7, h0]
        refine ⟨_, rfl, ?_⟩
        rfl
    · have h1 : ¬((es.length : Int) < es.length) := by omega
      simp only [σ, evC_exit, evC_region, evC_seq, evC_cond, runL, stepW, wantedV, Ev.step, opv, ev, getT, binV, intOp, put, Nat.reduceEqDiff, if_true, if_false, decide_false, List.take_length, h1]
  obtain ⟨s', h1, rfl⟩ := hout
  rw [h1]
  simp only [σ, getT, keep, List.map, Nat.reduceEqDiff, if_true, if_false, List.map_cons, List.take_length, live_15_0, List.take_length]
def byteD (n : Int) : List D := [.int .u8 (IntKind.u8.wrap n)]

def put4 (n : Int) : List (List D) := [byteD (n.fdiv 16777216), byteD (n.fdiv 65536), byteD (n.fdiv 256), byteD n]

theorem put_ev (k : K) (hk : k = .nil ∨ k = .own) (es : List (List D)) (n : Int) (fs : Frames) (hn : es.length + 4 < 70368744177664) :
    callE cfg 22 [.c (.sl k 1 es), .c (.int .i64 n)] fs = some (some (.c (.sl .own 1 (es ++ put4 n))), fs) := by
  refine callE_code (fn := Tryd.f22) (rs := [.tmp 4]) (by kernel_rfl) (by kernel_rfl) (by kernel_rfl) rfl rfl rfl (by show 2 ≤ 19; decide) ?_
  have m1 : min 24 64 = 24 := rfl
  have m2 : min 16 64 = 16 := rfl
  have m3 : min 8 64 = 8 := rfl
  rcases hk with rfl | rfl
  · simp only [resTmpsR, List.filterMap, evC_ret, evC_region, evC_seq, feedL, feedOf, runL, stepW, wantedV, Ev.step, opv, ev, getT, binV, shiftOp, put, params, constV, List.map, List.contains_nil, Bool.or_self, Nat.reduceEqDiff, if_true, if_false, reduceCtorEq, Nat.reduceBEq, give, V.hasSl, C.isSl, V.strip, C.strip, feeds, List.append_nil, List.nil_append, List.contains_cons, Bool.false_eq_true, List.length_cons, constC, Bool.or_false, beq_self_eq_true, and_self, or_false, Nat.reduceLT, fillE, V.cells, toDs, C.toD, appendV, tailD, appOK, List.replicate, List.length_nil, Nat.zero_add, cfg_arr, IntKind.bits, Int.reducePow, List.set_cons_zero, List.set_cons_succ, kstrip_own, kstrip_nil, Nat.lt_add_one, Nat.zero_lt_succ, Nat.reduceAdd, Nat.reduceLeDiff, Nat.mul_one, finishR, resVs, resV, freezeVs, freezeV, freezeC, convV, Ev.newObj, List.cons_append, Int.reduceLT, Int.reduceToNat, esz_25, elemT_25, zero_5, conv_3_5, und_25, elemI_25, hn, m1, m2, m3]
    rfl
  · simp only [resTmpsR, List.filterMap, evC_ret, evC_region, evC_seq, feedL, feedOf, runL, stepW, wantedV, Ev.step, opv, ev, getT, binV, shiftOp, put, params, constV, List.map, List.contains_nil, Bool.or_self, Nat.reduceEqDiff, if_true, if_false, reduceCtorEq, Nat.reduceBEq, give, V.hasSl, C.isSl, V.strip, C.strip, feeds, List.append_nil, List.nil_append, List.contains_cons, Bool.false_eq_true, List.length_cons, constC, Bool.or_false, beq_self_eq_true, and_self, or_false, Nat.reduceLT, fillE, V.cells, toDs, C.toD, appendV, tailD, appOK, List.replicate, List.length_nil, Nat.zero_add, cfg_arr, IntKind.bits, Int.reducePow, List.set_cons_zero, List.set_cons_succ, kstrip_own, Nat.lt_add_one, Nat.zero_lt_succ, Nat.reduceAdd, Nat.reduceLeDiff, Nat.mul_one, finishR, resVs, resV, freezeVs, freezeV, freezeC, convV, Ev.newObj, List.cons_append, Int.reduceLT, Int.reduceToNat, esz_25, elemT_25, zero_5, conv_3_5, und_25, elemI_25, hn, m1, m2, m3]
    rfl

theorem near_ev (n : Int) (fr : Fr) (fs : Frames) : callE cfg 43 [.c (.int .i64 n)] (fr :: fs) = some (some (.c (.bool (decide (n ≥ -134217728) && decide (n ≤ 134217728)))), fr :: fs) := by
  refine callE_code (fn := Tryd.f43) (rs := [.tmp 2]) (by kernel_rfl) (by kernel_rfl) (by kernel_rfl) rfl rfl rfl (by show 1 ≤ 9; decide) ?_
  by_cases h : n ≥ -134217728
  · simp only [resTmpsR, List.filterMap, evC_ret, evC_region, evC_seq, feedL, feedOf, runL, stepW, wantedV, Ev.step, opv, ev, getT, binV, intOp, put, params, constV, List.contains_nil, Bool.or_self, Nat.reduceEqDiff, if_true, if_false, decide_true, reduceCtorEq, Nat.reduceBEq, give, V.hasSl, C.isSl, V.strip, C.strip, feeds, List.append_nil, List.nil_append, List.contains_cons, Bool.false_eq_true, List.getElem?_toArray, List.length_cons, constC, List.getElem?_cons_zero, List.getElem?_cons_succ, Bool.or_false, beq_self_eq_true, Bool.true_and, Option.bind_some, cond_true, finishR, resVs, resV, freezeVs, freezeV, freezeC, C.le, Int.reduceNeg, h]
  · simp only [resTmpsR, List.filterMap, evC_ret, evC_region, evC_seq, feedL, feedOf, runL, stepW, wantedV, Ev.step, opv, ev, getT, binV, intOp, put, params, constV, List.contains_nil, Bool.or_self, Nat.reduceEqDiff, if_true, if_false, decide_false, reduceCtorEq, Nat.reduceBEq, give, V.hasSl, C.isSl, V.strip, C.strip, feeds, List.append_nil, List.nil_append, List.contains_cons, Bool.false_eq_true, List.getElem?_toArray, List.length_cons, constC, List.getElem?_cons_zero, List.getElem?_cons_succ, Bool.or_false, beq_self_eq_true, Bool.false_and, Option.bind_some, bb_ft, finishR, resVs, resV, freezeVs, freezeV, freezeC, C.le, pickV, Int.reduceNeg, h]

def put4r (m : Int) : List (List D) := [byteD (IntKind.i64.wrap (m.tdiv 16777216)), byteD ((IntKind.i64.wrap (m.tdiv 65536)).tmod 256), byteD ((IntKind.i64.wrap (m.tdiv 256)).tmod 256), byteD (m.tmod 256)]

theorem refput_raw (k : K) (hk : k = .nil ∨ k = .own) (es : List (List D)) (n : Int) (fs : Frames) (hn : es.length + 4 < 70368744177664) :
    callE cfg 23 [.c (.sl k 1 es), .c (.int .i64 n)] fs = some (some (.c (.sl .own 1 (es ++ put4r (if n < 0 then IntKind.i64.wrap (n + 4294967296) else n)))), fs) := by
  refine callE_code (fn := Tryd.f23) (rs := [.tmp 4]) (by kernel_rfl) (by kernel_rfl) (by kernel_rfl) rfl rfl rfl (by show 2 ≤ 26; decide) ?_
  by_cases h : n < 0
  · rcases hk with rfl | rfl
    · simp only [resTmpsR, List.filterMap, evC_ret, evC_region, evC_seq, evC_cond, feedL, feedOf, runL, stepW, wantedV, Ev.step, opv, ev, getT, binV, intOp, put, params, constV, List.map, List.contains_nil, Bool.or_self, Nat.reduceEqDiff, if_true, if_false, decide_true, reduceCtorEq, Nat.reduceBEq, give, V.hasSl, C.isSl, V.strip, C.strip, feeds, List.append_nil, List.nil_append, List.contains_cons, Bool.false_eq_true, List.length_cons, constC, Bool.or_false, beq_self_eq_true, and_self, or_false, Nat.reduceLT, fillE, V.cells, toDs, C.toD, appendV, tailD, appOK, List.replicate, List.length_nil, Nat.zero_add, cfg_arr, List.set_cons_zero, List.set_cons_succ, kstrip_own, kstrip_nil, Nat.lt_add_one, Nat.zero_lt_succ, Nat.reduceAdd, Nat.reduceLeDiff, Nat.mul_one, finishR, resVs, resV, freezeVs, freezeV, freezeC, convV, Ev.newObj, List.cons_append, Int.reduceEq, esz_25, elemT_25, zero_5, conv_3_5, und_25, elemI_25, hn, h]
      rfl
    · simp only [resTmpsR, List.filterMap, evC_ret, evC_region, evC_seq, evC_cond, feedL, feedOf, runL, stepW, wantedV, Ev.step, opv, ev, getT, binV, intOp, put, params, constV, List.map, List.contains_nil, Bool.or_self, Nat.reduceEqDiff, if_true, if_false, decide_true, reduceCtorEq, Nat.reduceBEq, give, V.hasSl, C.isSl, V.strip, C.strip, feeds, List.append_nil, List.nil_append, List.contains_cons, Bool.false_eq_true, List.length_cons, constC, Bool.or_false, beq_self_eq_true, and_self, or_false, Nat.reduceLT, fillE, V.cells, toDs, C.toD, appendV, tailD, appOK, List.replicate, List.length_nil, Nat.zero_add, cfg_arr, List.set_cons_zero, List.set_cons_succ, kstrip_own, Nat.lt_add_one, Nat.zero_lt_succ, Nat.reduceAdd, Nat.reduceLeDiff, Nat.mul_one, finishR, resVs, resV, freezeVs, freezeV, freezeC, convV, Ev.newObj, List.cons_append, Int.reduceEq, esz_25, elemT_25, zero_5, conv_3_5, und_25, elemI_25, hn, h]
      rfl
  · rcases hk with rfl | rfl
    · simp only [resTmpsR, List.filterMap, evC_skip, evC_ret, evC_region, evC_seq, evC_cond, feedL, feedOf, runL, stepW, wantedV, Ev.step, opv, ev, getT, binV, intOp, put, params, constV, List.map, List.contains_nil, Bool.or_self, Nat.reduceEqDiff, if_true, if_false, decide_false, reduceCtorEq, Nat.reduceBEq, give, V.hasSl, C.isSl, V.strip, C.strip, feeds, List.append_nil, List.nil_append, List.contains_cons, Bool.false_eq_true, List.length_cons, constC, Bool.or_false, beq_self_eq_true, and_self, or_false, Nat.reduceLT, fillE, V.cells, toDs, C.toD, appendV, tailD, appOK, List.replicate, List.length_nil, Nat.zero_add, cfg_arr, List.set_cons_zero, List.set_cons_succ, kstrip_own, kstrip_nil, Nat.lt_add_one, Nat.zero_lt_succ, Nat.reduceAdd, Nat.reduceLeDiff, Nat.mul_one, finishR, resVs, resV, freezeVs, freezeV, freezeC, convV, Ev.newObj, List.cons_append, Int.reduceEq, esz_25, elemT_25, zero_5, conv_3_5, und_25, elemI_25, hn, h]
      rfl
    · simp only [resTmpsR, List.filterMap, evC_skip, evC_ret, evC_region, evC_seq, evC_cond, feedL, feedOf, runL, stepW, wantedV, Ev.step, opv, ev, getT, binV, intOp, put, params, constV, List.map, List.contains_nil, Bool.or_self, Nat.reduceEqDiff, if_true, if_false, decide_false, reduceCtorEq, Nat.reduceBEq, give, V.hasSl, C.isSl, V.strip, C.strip, feeds, List.append_nil, List.nil_append, List.contains_cons, Bool.false_eq_true, List.length_cons, constC, Bool.or_false, beq_self_eq_true, and_self, or_false, Nat.reduceLT, fillE, V.cells, toDs, C.toD, appendV, tailD, appOK, List.replicate, List.length_nil, Nat.zero_add, cfg_arr, List.set_cons_zero, List.set_cons_succ, kstrip_own, Nat.lt_add_one, Nat.zero_lt_succ, Nat.reduceAdd, Nat.reduceLeDiff, Nat.mul_one, finishR, resVs, resV, freezeVs, freezeV, freezeC, convV, Ev.newObj, List.cons_append, Int.reduceEq, esz_25, elemT_25, zero_5, conv_3_5, und_25, elemI_25, hn, h]
      rfl

theorem put4_same (n : Int) (h1 : -2147483648 ≤ n) (h2 : n < 2147483648) : put4r (if n < 0 then IntKind.i64.wrap (n + 4294967296) else n) = put4 n := by
  have u8 : ∀ m : Int, IntKind.u8.wrap m = m % 256 := fun m => by simp [IntKind.wrap, IntKind.bits, IntKind.signed]
  have key : ∀ m : Int, 0 ≤ m → m < 4294967296 → put4r m = [byteD (m / 16777216), byteD (m / 65536), byteD (m / 256), byteD m] := fun m h3 h4 => by
    unfold put4r byteD
    rw [Int.tdiv_eq_ediv_of_nonneg h3, Int.tdiv_eq_ediv_of_nonneg h3, Int.tdiv_eq_ediv_of_nonneg h3, IntKind.wrap_i64, IntKind.wrap_i64, IntKind.wrap_i64]
    rw [Int.tmod_eq_emod_of_nonneg h3, Int.tmod_eq_emod_of_nonneg (by omega), Int.tmod_eq_emod_of_nonneg (by omega)]
    simp only [u8, List.cons.injEq, D.int.injEq, true_and, and_true]
    refine ⟨by omega, by omega, by omega, by omega⟩
  unfold put4 byteD
  rw [Int.fdiv_eq_ediv_of_nonneg _ (by omega), Int.fdiv_eq_ediv_of_nonneg _ (by omega), Int.fdiv_eq_ediv_of_nonneg _ (by omega)]
  by_cases h : n < 0
  · rw [if_pos h, IntKind.wrap_i64, key _ (by omega) (by omega)]
    unfold byteD
    simp only [u8, List.cons.injEq, D.int.injEq, true_and, and_true]
    refine ⟨by omega, by omega, by omega, by omega⟩
  · rw [if_neg h, key _ (by omega) (by omega)]
    rfl

theorem refput_ev (k : K) (hk : k = .nil ∨ k = .own) (es : List (List D)) (n : Int) (fs : Frames) (hn : es.length + 4 < 70368744177664) (h1 : -2147483648 ≤ n) (h2 : n < 2147483648) :
    callE cfg 23 [.c (.sl k 1 es), .c (.int .i64 n)] fs = some (some (.c (.sl .own 1 (es ++ put4 n))), fs) := by
  rw [refput_raw k hk es n fs hn, put4_same n h1 h2]

def nearB (n : Int) : Bool := decide (n ≥ -134217728) && decide (n ≤ 134217728)

theorem mayin_ev (x y : Int) (fr : Fr) (fs : Frames) : callE cfg 42 [.agg [.int .i64 x, .int .i64 y]] (fr :: fs) = some (some (.c (.bool (!nearB x || !nearB y))), fr :: fs) := by
  refine callE_code (fn := Tryd.f42) (rs := [.tmp 2]) (by kernel_rfl) (by kernel_rfl) (by kernel_rfl) rfl rfl rfl (by show 1 ≤ 13; decide) ?_
  have hx := near_ev x [] (fr :: fs)
  have hy := near_ev y [] (fr :: fs)
  cases h : nearB x
  · unfold nearB at h
    simp only [resTmpsR, List.filterMap, evC_ret, evC_region, evC_seq, feedL, feedOf, runL, stepW, wantedV, Ev.step, opv, ev, getT, unV, put, params, constV, List.map, List.contains_nil, Bool.or_self, Nat.reduceEqDiff, if_true, if_false, reduceCtorEq, Nat.reduceBEq, give, gives, V.hasSl, C.isSl, V.strip, C.strip, feeds, List.append_nil, List.nil_append, List.contains_cons, Bool.false_eq_true, List.getElem?_toArray, List.length_cons, constC, List.getElem?_cons_zero, List.getElem?_cons_succ, Bool.or_false, beq_self_eq_true, Bool.not_false, Bool.and_true, Bool.false_and, readV, List.drop_zero, V.cells, List.length_nil, Nat.zero_add, cfg_esc, Option.bind_some, List.drop_succ_cons, List.take_zero, Bool.true_or, bb_tf, List.set_cons_zero, finishR, resVs, resV, freezeVs, freezeV, freezeC, target, consOf, doCall, argsG, List.all_cons, List.all_nil, V.le, C.le, C.leL, Ev.newObj, Ev.look, Ev.setF, Ev.setRange, pickV, List.cons_append, Int.reduceNeg, cons_43, sealed_43, agg_3, lay_48, hx, h]
  · unfold nearB at h
    simp only [resTmpsR, List.filterMap, evC_ret, evC_region, evC_seq, feedL, feedOf, runL, stepW, wantedV, Ev.step, opv, ev, getT, unV, put, params, constV, List.map, List.contains_nil, Bool.or_self, Nat.reduceEqDiff, if_true, if_false, reduceCtorEq, Nat.reduceBEq, give, gives, V.hasSl, C.isSl, V.strip, C.strip, feeds, List.append_nil, List.nil_append, List.contains_cons, Bool.false_eq_true, List.getElem?_toArray, List.length_cons, constC, List.getElem?_cons_zero, List.getElem?_cons_succ, Bool.or_false, Bool.false_or, beq_self_eq_true, Bool.not_true, Bool.and_true, Bool.false_and, readV, List.drop_zero, V.cells, List.length_nil, Nat.zero_add, cfg_esc, Option.bind_some, List.drop_succ_cons, List.take_succ_cons, List.take_zero, Bool.false_or, Bool.not_true, cond_false, List.set_cons_zero, Nat.reduceAdd, finishR, resVs, resV, freezeVs, freezeV, freezeC, target, consOf, doCall, argsG, List.all_cons, List.all_nil, V.le, C.le, C.leL, Ev.newObj, Ev.look, Ev.setF, Ev.setRange, List.cons_append, Int.reduceNeg, cons_43, sealed_43, agg_3, lay_48, hx, hy, h]
    rfl

end Go.Proofs.YtbfllngekcckeaaDoor
