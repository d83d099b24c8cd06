/- The reference's Pack. -/
import Derived.Test.YtbfllngekcckeaaDoorEvF6
namespace Go.Proofs.YtbfllngekcckeaaDoor
open Go.Ev
set_option linter.unusedSimpArgs false
set_option linter.unusedVariables false
set_option maxHeartbeats 400000
set_option maxRecDepth 4000

theorem refput_nil (z : Nat) (n : Nat) (fs : Frames) (hn : n < 2147483648) : callE cfg 23 [.c (.sl .nil z []), .c (.int .i64 n)] fs = some (some (.c (.sl .own 1 (put4 n))), fs) := by
  refine callE_code (fn := Tryd.f23) (rs := [.tmp 4]) (by kernel_rfl) (by kernel_rfl) (by kernel_rfl) rfl rfl rfl (by show 2 ≤ 26; decide) ?_
  have h : ¬((n : Int) < 0) := by omega
  rw [← put4_same n (by omega) (by omega), if_neg h]
  simp only [resTmpsR, List.filterMap, evC_skip, evC_ret, evC_region, evC_seq, evC_cond, feedL, feedOf, runL, stepW, wantedV, Ev.step, opv, ev, getT, binV, intOp, put, params, constV, List.map, List.contains_nil, Bool.or_self, Nat.reduceEqDiff, if_true, if_false, decide_false, reduceCtorEq, Nat.reduceBEq, give, V.hasSl, C.isSl, V.strip, C.strip, feeds, List.append_nil, List.nil_append, List.contains_cons, Bool.false_eq_true, List.length_cons, constC, Bool.or_false, beq_self_eq_true, and_self, or_false, Nat.reduceLT, fillE, V.cells, toDs, C.toD, appendV, tailD, appOK, List.replicate, List.length_nil, Nat.zero_add, cfg_arr, List.set_cons_zero, List.set_cons_succ, kstrip_own, kstrip_nil, Nat.lt_add_one, Nat.zero_lt_succ, Nat.reduceAdd, Nat.reduceLeDiff, Nat.mul_one, finishR, resVs, resV, freezeVs, freezeV, freezeC, convV, Ev.newObj, List.cons_append, Int.reduceEq, esz_25, elemT_25, zero_5, conv_3_5, und_25, elemI_25, h]
  rfl

theorem nearB_le {n : Int} (h : nearB n = true) : -134217728 ≤ n ∧ n ≤ 134217728 := by
  simp only [nearB, Bool.and_eq_true, decide_eq_true_eq] at h
  omega

theorem badP_le {p : Int × Int} (h : badP p = false) : -2147483648 ≤ p.1 ∧ p.1 < 2147483648 ∧ -2147483648 ≤ p.2 ∧ p.2 < 2147483648 := by
  simp only [badP, Bool.or_eq_false_iff, Bool.not_eq_false'] at h
  have h1 := nearB_le h.1
  have h2 := nearB_le h.2
  omega

theorem refpack_no (k : K) (l : List Pg) (fr : Fr) (fs : Frames) (hn : l.length < 1152921504606846976) (hg : ∀ g ∈ l, g.length < 1152921504606846976 ∧ ∀ r ∈ g, r.length < 1152921504606846976) (hm : mayL 0 l = false) :
    callE cfg 11 [.c (.sl k 1 (encL l))] (fr :: fs) = some (some (.c (.sl .nil 1 [])), fr :: fs) := by
  refine callE_code (fn := Tryd.f11) (rs := [.tmp 2]) (by kernel_rfl) (by kernel_rfl) (by kernel_rfl) rfl rfl rfl (by show 1 ≤ 84; decide) ?_
  have h := refmay_ev k.strip l [] (fr :: fs) hn hg
  rw [hm] at h
  simp only [resTmpsR, List.filterMap, evC_ret, evC_region, evC_seq, evC_cond, feedL, feedOf, runL, stepW, wantedV, Ev.step, opv, ev, getT, unV, put, params, constV, List.map, List.contains_nil, Nat.reduceEqDiff, if_true, if_false, reduceCtorEq, give, gives, V.hasSl, C.isSl, V.strip, C.strip, feeds, List.append_nil, List.nil_append, Bool.false_eq_true, List.length_cons, Bool.not_false, Bool.and_true, kstrip_strip, finishR, resVs, resV, freezeVs, freezeV, freezeC, target, consOf, doCall, argsG, List.all_cons, List.all_nil, V.le, C.le, Nat.add_one_sub_one, cons_12, sealed_12, esz_25, h]

theorem refpack_yes (k : K) (l : List Pg) (fr : Fr) (fs : Frames) (hm : mayL 0 l = true) :
    callE cfg 11 [.c (.sl k 1 (encL l))] (fr :: fs) = some (some (.c (.sl .own 1 (pL l))), fr :: fs) := by
  obtain ⟨hn, hg⟩ := sizes hm
  obtain ⟨hnl, hgood, _⟩ := mayL_good 0 l (by omega) hm
  have hlen := pL_len hm
  refine callE_code (fn := Tryd.f11) (rs := [.tmp 2]) (by kernel_rfl) (by kernel_rfl) (by kernel_rfl) rfl rfl rfl (by show 1 ≤ 84; decide) ?_
  have h := refmay_ev k.strip l [] (fr :: fs) hn hg
  rw [hm] at h
  have h0 := refput_nil 0 l.length ([] :: fr :: fs) (by omega)
  simp only [resTmpsR, List.filterMap, evC_skip, evC_ret, evC_region, evC_seq, evC_cond, evC_loop, blockEx, feedL, feedOf, runL, stepW, wantedV, Ev.step, opv, ev, getT, unV, put, params, constV, keep, List.map, List.contains_nil, Bool.or_self, Nat.reduceEqDiff, if_true, if_false, reduceCtorEq, Nat.reduceBEq, give, gives, V.hasSl, C.isSl, V.strip, C.strip, feeds, List.append_nil, List.nil_append, List.contains_cons, Bool.false_eq_true, List.getElem?_toArray, List.length_cons, constC, lenV, List.getElem?_cons_zero, Bool.or_false, beq_self_eq_true, Bool.not_true, Bool.and_true, Bool.not_true, List.map_cons, kstrip_own, kstrip_nil, kstrip_strip, finishR, resVs, resV, freezeVs, freezeV, freezeC, target, consOf, doCall, argsG, List.all_cons, List.all_nil, V.le, C.le, Nat.add_one_sub_one, cons_12, sealed_12, cons_23, sealed_23, live_11_0, esz_25, und_22, encL_len, h, h0, esz0]
  let σ : Nat × List (List D) → S := fun (j, o) => { m := [(0, .c (.sl k 1 (encL l))), (3, .c (.sl .own 1 o)), (4, .c (.int .i64 j))], fs := [] :: fr :: fs }
  generalize hL : loopE cfg (callE cfg) itE 11 [2] _ _ _ = out
  have hout : ∃ ex s, out = some (ex, s) ∧ s.fs = [] :: fr :: fs ∧ ex = .exit 0 ∧ getT s.m 3 = .c (.sl .own 1 (pL l)) := by
    rw [← hL]
    refine loopE_inv σ (fun (j, _) => l.length - j) (fun (j, o) => j ≤ l.length ∧ pL l = o ++ (l.drop j).flatMap pG) (fun ex s => s.fs = [] :: fr :: fs ∧ ex = .exit 0 ∧ getT s.m 3 = .c (.sl .own 1 (pL l))) (fun (j, o) ⟨hj, hr⟩ => ?_) (0, put4 l.length) ⟨by omega, rfl⟩
    rcases Nat.lt_or_ge j l.length with hj' | hj'
    · obtain ⟨g, g0, hd⟩ := drop_get hj'
      rw [hd, List.flatMap_cons, pG] at hr
      have hgm : g ∈ l := List.mem_of_getElem? g0
      have h1 : (j : Int) < l.length := by omega
      have h2 : ((j : Int)).toNat = j := by omega
      have h3 : (0 : Int) ≤ j := by omega
      have he := encL_get g0
      have hgl := (hgood g hgm).many
      have hl := congrArg List.length hr
      simp only [List.length_append, put4_len] at hl
      have h4 := refput_ev .own (.inr rfl) o g.length ([] :: fr :: fs) (by omega) (by omega) (by omega)
      simp only [σ, evC_skip, evC_region, evC_seq, evC_cond, evC_loop, evC_bseq, blockEx, feedL, feedOf, runL, stepW, wantedV, Ev.step, opv, ev, getT, binV, intOp, strOp, put, constV, keep, List.map, List.contains_nil, Bool.or_self, Nat.reduceEqDiff, if_true, if_false, decide_true, reduceCtorEq, Nat.reduceBEq, give, gives, V.hasSl, C.isSl, V.strip, C.strip, feeds, List.append_nil, List.nil_append, List.contains_cons, Bool.false_eq_true, List.getElem?_toArray, List.length_cons, constC, lenV, List.getElem?_cons_zero, Bool.or_false, beq_self_eq_true, Bool.and_true, and_self, readV, D.toC, List.drop_zero, List.map_cons, kstrip_own, Nat.lt_add_one, target, consOf, doCall, argsG, List.all_cons, List.all_nil, V.le, C.le, Nat.add_one_sub_one, cons_23, sealed_23, live_11_2, agg_44, esz_22, und_22, und_44, encL_len, encG_len, h1, h2, h3, he, h4]
      let τ : Nat × List (List D) → S := fun (i, o) => { m := [(0, .c (.sl k 1 (encL l))), (3, .c (.sl .own 1 o)), (4, .c (.int .i64 j)), (5, .c (.int .i64 i))], fs := [] :: fr :: fs }
      generalize hL2 : loopE cfg (callE cfg) itE 11 [2] _ _ _ = out2
      have hout2 : ∃ ex s, out2 = some (ex, s) ∧ ∃ o, ex = .exit 2 ∧ s = τ (g.length, o) ∧ pL l = o ++ (l.drop (j + 1)).flatMap pG := by
        rw [← hL2]
        refine loopE_inv τ (fun (i, _) => g.length - i) (fun (i, o) => i ≤ g.length ∧ pL l = o ++ ((g.drop i).flatMap pR ++ (l.drop (j + 1)).flatMap pG)) _ (fun (i, o) ⟨hi, hr2⟩ => ?_) (0, o ++ put4 g.length) ⟨by omega, by rw [hr]; simp only [List.append_assoc, List.drop_zero]⟩
        rcases Nat.lt_or_ge i g.length with hi' | hi'
        · obtain ⟨r, k0, kd⟩ := drop_get hi'
          rw [kd, List.flatMap_cons, pR] at hr2
          have k1 : (i : Int) < g.length := by omega
          have k2 : ((i : Int)).toNat = i := by omega
          have k3 : (0 : Int) ≤ i := by omega
          have ke := encG_get k0
          have hgr := (hgood g hgm).rings r (List.mem_of_getElem? k0)
          have kl := hgr.many
          have kl2 := congrArg List.length hr2
          simp only [List.length_append, put4_len] at kl2
          have k4 := refput_ev .own (.inr rfl) o r.length ([] :: fr :: fs) (by omega) (by omega) (by omega)
          simp only [τ, evC_skip, evC_region, evC_seq, evC_cond, evC_loop, evC_bseq, blockEx, feedL, feedOf, runL, stepW, wantedV, Ev.step, opv, ev, getT, binV, intOp, strOp, put, constV, keep, List.map, List.contains_nil, Bool.or_self, Nat.reduceEqDiff, if_true, if_false, decide_true, reduceCtorEq, Nat.reduceBEq, give, gives, V.hasSl, C.isSl, V.strip, C.strip, feeds, List.append_nil, List.nil_append, List.contains_cons, Bool.false_eq_true, List.getElem?_toArray, List.length_cons, constC, lenV, List.getElem?_cons_zero, Bool.or_false, beq_self_eq_true, Bool.and_true, and_self, readV, D.toC, List.drop_zero, List.map_cons, kstrip_own, Nat.lt_add_one, target, consOf, doCall, argsG, List.all_cons, List.all_nil, V.le, C.le, Nat.add_one_sub_one, cons_23, sealed_23, live_11_4, agg_44, agg_46, esz_22, esz_44, und_44, und_46, encR_len, encG_len, encL_len, h1, h2, h3, he, k1, k2, k3, ke, k4]
          let υ : Nat × List (List D) → S := fun (p, o) => { m := [(0, .c (.sl k 1 (encL l))), (3, .c (.sl .own 1 o)), (4, .c (.int .i64 j)), (5, .c (.int .i64 i)), (6, .c (.int .i64 p))], fs := [] :: fr :: fs }
          generalize hL3 : loopE cfg (callE cfg) itE 11 [2] _ _ _ = out3
          have hout3 : ∃ ex s, out3 = some (ex, s) ∧ ∃ o, ex = .exit 4 ∧ s = υ (r.length, o) ∧ pL l = o ++ ((g.drop (i + 1)).flatMap pR ++ (l.drop (j + 1)).flatMap pG) := by
            rw [← hL3]
            refine loopE_inv υ (fun (p, _) => r.length - p) (fun (p, o) => p ≤ r.length ∧ pL l = o ++ ((r.drop p).flatMap pP ++ ((g.drop (i + 1)).flatMap pR ++ (l.drop (j + 1)).flatMap pG))) _ (fun (p, o) ⟨hp, hr3⟩ => ?_) (0, o ++ put4 r.length) ⟨by omega, by rw [hr2]; simp only [List.append_assoc, List.drop_zero]⟩
            rcases Nat.lt_or_ge p r.length with hp' | hp'
            · obtain ⟨q, m0, md⟩ := drop_get hp'
              rw [md, List.flatMap_cons, pP] at hr3
              have m1 : (p : Int) < r.length := by omega
              have m2 : ((p : Int)).toNat = p := by omega
              have m3 : (0 : Int) ≤ p := by omega
              have me := encR_get m0
              have m7 : IntKind.i64.wrap ((p : Int) + 1) = ((p + 1 : Nat) : Int) := by rw [wrap64] <;> omega
              have ml2 := congrArg List.length hr3
              simp only [List.length_append, put4_len] at ml2
              obtain ⟨b1, b2, b3, b4⟩ := badP_le (hgr.pts q (List.mem_of_getElem? m0))
              have m4 := refput_ev .own (.inr rfl) o q.1 ([] :: fr :: fs) (by omega) b1 b2
              have m5 := refput_ev .own (.inr rfl) (o ++ put4 q.1) q.2 ([] :: fr :: fs) (by simp only [List.length_append, put4_len]; omega) b3 b4
              simp only [υ, evC_skip, evC_region, evC_seq, evC_cond, evC_bseq, blockEx, feedL, feedOf, runL, stepW, wantedV, Ev.step, opv, ev, getT, binV, intOp, put, constV, List.map, List.contains_nil, Bool.or_self, Nat.reduceEqDiff, if_true, if_false, decide_true, reduceCtorEq, Nat.reduceBEq, give, gives, V.hasSl, C.isSl, V.strip, C.strip, feeds, List.append_nil, List.nil_append, List.contains_cons, Bool.false_eq_true, List.getElem?_toArray, List.length_cons, constC, lenV, List.getElem?_cons_zero, List.getElem?_cons_succ, Bool.or_false, beq_self_eq_true, Bool.and_true, and_self, readV, D.toC, List.drop_zero, Nat.zero_add, List.drop_succ_cons, List.map_cons, kstrip_own, Nat.lt_add_one, Nat.zero_lt_succ, target, consOf, doCall, argsG, List.all_cons, List.all_nil, V.le, C.le, Nat.add_one_sub_one, cons_23, sealed_23, agg_3, agg_44, agg_46, esz_22, esz_44, esz_46, lay_48, und_46, encR_len, encG_len, encL_len, h1, h2, h3, he, k1, k2, k3, ke, m1, m2, m3, me, m7, m4, m5]
              refine ⟨_, rfl, ?_⟩
              exact Round.again (p + 1, o ++ put4 q.1 ++ put4 q.2) rfl ⟨by omega, by rw [hr3]; simp only [List.append_assoc]⟩ (by simp only; omega)
            · have m1 : ¬((p : Int) < r.length) := by omega
              rw [List.drop_eq_nil_of_le hp'] at hr3
              obtain rfl : p = r.length := by omega
              simp only [υ, evC_exit, evC_region, evC_seq, evC_cond, feedL, feedOf, runL, stepW, wantedV, Ev.step, opv, ev, getT, binV, intOp, put, List.map, List.contains_nil, Nat.reduceEqDiff, if_true, if_false, decide_false, reduceCtorEq, give, V.hasSl, C.isSl, V.strip, C.strip, feeds, List.append_nil, Bool.false_eq_true, List.getElem?_toArray, lenV, List.getElem?_cons_zero, and_self, readV, D.toC, List.drop_zero, List.map_cons, Nat.lt_add_one, Nat.sub_self, agg_44, agg_46, esz_22, esz_44, und_46, encR_len, encG_len, encL_len, h1, h2, h3, he, k1, k2, k3, ke, m1]
              refine ⟨_, rfl, ?_⟩
              exact Round.out ⟨o, rfl, rfl, hr3⟩
          have k7 : IntKind.i64.wrap ((i : Int) + 1) = ((i + 1 : Nat) : Int) := by rw [wrap64] <;> omega
          obtain ⟨ex, ⟨mm, fs'⟩, q1, o, rfl, q2, q3⟩ := hout3
          simp only [q1, q2, υ, getT, Nat.reduceEqDiff, if_true, if_false, reduceCtorEq, Bool.false_eq_true, k7]
          refine ⟨_, rfl, ?_⟩
          exact Round.again (i + 1, o) rfl ⟨by omega, q3⟩ (by simp only; omega)
        · have k1 : ¬((i : Int) < g.length) := by omega
          rw [List.drop_eq_nil_of_le hi'] at hr2
          obtain rfl : i = g.length := by omega
          simp only [τ, evC_exit, evC_region, evC_seq, evC_cond, feedL, feedOf, runL, stepW, wantedV, Ev.step, opv, ev, getT, binV, intOp, put, List.map, List.contains_nil, Nat.reduceEqDiff, if_true, if_false, decide_false, reduceCtorEq, give, V.hasSl, C.isSl, V.strip, C.strip, feeds, List.append_nil, Bool.false_eq_true, List.getElem?_toArray, lenV, List.getElem?_cons_zero, and_self, readV, D.toC, List.drop_zero, List.map_cons, Nat.lt_add_one, Nat.sub_self, agg_44, esz_22, und_44, encG_len, encL_len, h1, h2, h3, he, k1]
          refine ⟨_, rfl, ?_⟩
          exact Round.out ⟨o, rfl, rfl, hr2⟩
      have h7 : IntKind.i64.wrap ((j : Int) + 1) = ((j + 1 : Nat) : Int) := by rw [wrap64] <;> omega
      obtain ⟨ex, ⟨mm, fs'⟩, q1, o, rfl, q2, q3⟩ := hout2
      simp only [q1, q2, τ, getT, Nat.reduceEqDiff, if_true, if_false, reduceCtorEq, Bool.false_eq_true, h7]
      refine ⟨_, rfl, ?_⟩
      exact Round.again (j + 1, o) rfl ⟨by omega, q3⟩ (by simp only; omega)
    · have h1 : ¬((j : Int) < l.length) := by omega
      rw [List.drop_eq_nil_of_le hj'] at hr
      simp only [List.flatMap_nil, List.append_nil] at hr
      simp only [σ, evC_exit, evC_region, evC_seq, evC_cond, feedL, feedOf, runL, stepW, wantedV, Ev.step, opv, ev, getT, binV, intOp, put, List.contains_nil, Nat.reduceEqDiff, if_true, if_false, decide_false, reduceCtorEq, give, V.hasSl, C.isSl, V.strip, C.strip, feeds, List.append_nil, Bool.false_eq_true, List.getElem?_toArray, lenV, List.getElem?_cons_zero, und_22, encL_len, h1]
      refine ⟨_, rfl, ?_⟩
      exact Round.out ⟨rfl, rfl, by rw [hr]; rfl⟩
  obtain ⟨ex, ⟨m, fs'⟩, h1, h2, rfl, h4⟩ := hout
  simp only at h2 h4
  subst h2
  rw [h1]
  simp only [getT, Nat.reduceEqDiff, if_true, if_false, kstrip_own, h4]

end Go.Proofs.YtbfllngekcckeaaDoor
