/- The reference's May. -/
import Derived.Test.YtbfllngekcckeaaGreatDoorEvF3
namespace Go.Proofs.YtbfllngekcckeaaGreatDoor
open Go.Ev
set_option linter.unusedSimpArgs false
set_option linter.unusedVariables false
set_option maxHeartbeats 400000
set_option maxRecDepth 4000

theorem refmay_ev (k : K) (l : List Pg) (fr : Fr) (fs : Frames) (hn : l.length < 1152921504606846976) (hg : ∀ g ∈ l, g.length < 1152921504606846976 ∧ ∀ r ∈ g, r.length < 1152921504606846976) :
    callE cfg 10 [.c (.sl k 1 (encL l))] (fr :: fs) = some (some (.c (.bool (mayL 0 l))), fr :: fs) := by
  refine callE_code (fn := Tryz.f10) (rs := [.tmp 2]) (by kernel_rfl) (by kernel_rfl) (by kernel_rfl) rfl rfl rfl (by show 1 ≤ 91; decide) ?_
  simp only [resTmpsR, List.filterMap, evC_ret, evC_region, evC_seq, evC_loop, blockEx, runL, stepW, wantedV, Ev.step, opv, ev, getT, put, params, constV, keep, List.map, Nat.reduceEqDiff, if_true, if_false, reduceCtorEq, give, constC, List.map_cons, finishR, resVs, resV, freezeVs, freezeV, freezeC, Int.reduceNeg, live_10_0]
  let σ : Nat × Nat → S := fun (j, n) => { m := [(0, .c (.sl k 1 (encL l))), (2, .c (.bool false)), (3, .c (.int .i64 n)), (4, .c (.int .i64 j))], fs := [] :: fr :: fs }
  generalize hL : loopE cfg (callE cfg) itE 10 [2] _ _ _ = out
  have hout : ∃ ex s, out = some (ex, s) ∧ s.fs = [] :: fr :: fs ∧ ((ex = .exit 0 ∧ mayL 0 l = true) ∨ (ex = .ret ∧ getT s.m 2 = .c (.bool false) ∧ mayL 0 l = false)) := by
    rw [← hL]
    refine loopE_inv σ (fun (j, n) => l.length - j) (fun (j, n) => j ≤ l.length ∧ n ≤ 4000 ∧ mayL 0 l = mayL n (l.drop j)) (fun ex s => s.fs = [] :: fr :: fs ∧ ((ex = .exit 0 ∧ mayL 0 l = true) ∨ (ex = .ret ∧ getT s.m 2 = .c (.bool false) ∧ mayL 0 l = false))) (fun (j, n) ⟨hj, hn1, hr⟩ => ?_) (0, 0) ⟨by omega, by omega, rfl⟩
    rcases Nat.lt_or_ge j l.length with hj' | hj'
    · obtain ⟨g, h0, hd⟩ := drop_get hj'
      rw [hd] at hr
      simp only [mayL] at hr
      have hgm : g ∈ l := List.mem_of_getElem? h0
      have h1 : (j : Int) < l.length := by omega
      have h2 : ((j : Int)).toNat = j := by omega
      have h3 : (0 : Int) ≤ j := by omega
      have he := encL_get h0
      have hgl := (hg g hgm).1
      by_cases hz : g.length = 0
      · rw [if_pos hz] at hr
        have h4 : ((g.length : Int) == 0) = true := by simp [hz]
        simp only [σ, evC_skip, evC_ret, evC_region, evC_seq, evC_cond, evC_bseq, blockEx, feedL, feedOf, runL, stepW, wantedV, Ev.step, opv, ev, getT, binV, intOp, put, constV, List.map, List.contains_nil, Nat.reduceEqDiff, if_true, if_false, decide_true, reduceCtorEq, give, V.hasSl, C.isSl, V.strip, C.strip, feeds, List.append_nil, Bool.false_eq_true, List.getElem?_toArray, constC, lenV, List.getElem?_cons_zero, and_self, readV, D.toC, List.drop_zero, List.map_cons, Nat.lt_add_one, Int.reduceNeg, agg_37, esz_22, und_22, und_37, encL_len, encG_len, h1, h2, h3, he, h4]
        refine ⟨_, rfl, ?_⟩
        exact Round.ret ⟨rfl, .inr ⟨rfl, rfl, hr⟩⟩
      · rw [if_neg hz] at hr
        have h4 : ((g.length : Int) == 0) = false := by rw [beq_eq_false_iff_ne]; omega
        simp only [σ, evC_skip, evC_region, evC_seq, evC_cond, evC_loop, evC_bseq, blockEx, feedL, feedOf, runL, stepW, wantedV, Ev.step, opv, ev, getT, binV, intOp, strOp, put, constV, keep, List.map, List.contains_nil, Bool.or_self, Nat.reduceEqDiff, if_true, if_false, decide_true, reduceCtorEq, Nat.reduceBEq, give, V.hasSl, C.isSl, V.strip, C.strip, feeds, List.append_nil, List.contains_cons, Bool.false_eq_true, List.getElem?_toArray, constC, lenV, List.getElem?_cons_zero, and_self, readV, D.toC, List.drop_zero, List.map_cons, Nat.lt_add_one, Int.reduceNeg, live_10_2, agg_37, esz_22, und_22, und_37, encL_len, encG_len, h1, h2, h3, he, h4]
        let τ : Nat × Nat → S := fun (i, m) => { m := [(0, .c (.sl k 1 (encL l))), (2, .c (.bool false)), (3, .c (.int .i64 m)), (4, .c (.int .i64 j)), (5, .c (.int .i64 i))], fs := [] :: fr :: fs }
        generalize hL2 : loopE cfg (callE cfg) itE 10 [2] _ _ _ = out2
        have hout2 : ∃ ex s, out2 = some (ex, s) ∧ ((ex = .exit 2 ∧ ∃ m : Nat, m ≤ 4000 ∧ s = τ (g.length, m) ∧ mayL 0 l = mayL m (l.drop (j + 1))) ∨ (ex = .ret ∧ s.fs = [] :: fr :: fs ∧ getT s.m 2 = .c (.bool false) ∧ mayL 0 l = false)) := by
          rw [← hL2]
          refine loopE_inv τ (fun (i, m) => g.length - i) (fun (i, m) => i ≤ g.length ∧ m ≤ 4000 ∧ mayL 0 l = (match mayG m (g.drop i) with | none => false | some n' => mayL n' (l.drop (j + 1)))) _ (fun (i, m) ⟨hi, hm1, hr2⟩ => ?_) (0, n) ⟨by omega, by omega, hr⟩
          rcases Nat.lt_or_ge i g.length with hi' | hi'
          · obtain ⟨r, k0, kd⟩ := drop_get hi'
            rw [kd] at hr2
            simp only [mayG] at hr2
            have k1 : (i : Int) < g.length := by omega
            have k2 : ((i : Int)).toNat = i := by omega
            have k3 : (0 : Int) ≤ i := by omega
            have ke := encG_get k0
            have kl := ((hg g hgm).2 r (List.mem_of_getElem? k0))
            have k6 : IntKind.i64.wrap ((m : Int) + (r.length : Int)) = ((m + r.length : Nat) : Int) := by rw [wrap64] <;> omega
            have k7 : IntKind.i64.wrap ((i : Int) + 1) = ((i + 1 : Nat) : Int) := by rw [wrap64] <;> omega
            by_cases c1 : r.length < 3
            · rw [if_pos (.inl c1)] at hr2
              have k8 : ((r.length : Int) < 3) := by omega
              simp only [τ, evC_skip, evC_ret, evC_region, evC_seq, evC_cond, evC_bseq, blockEx, feedL, feedOf, runL, stepW, wantedV, Ev.step, opv, ev, getT, binV, intOp, put, constV, List.map, List.contains_nil, Bool.or_self, Nat.reduceEqDiff, if_true, if_false, decide_true, reduceCtorEq, Nat.reduceBEq, give, V.hasSl, C.isSl, V.strip, C.strip, feeds, List.append_nil, List.contains_cons, Bool.false_eq_true, List.getElem?_toArray, constC, lenV, List.getElem?_cons_zero, List.getElem?_cons_succ, and_self, readV, D.toC, List.drop_zero, Option.bind_some, bb_tf, List.map_cons, kstrip_ro, Nat.lt_add_one, pickV, Int.reduceNeg, agg_37, agg_39, esz_22, esz_37, und_37, und_39, encR_len, encG_len, encL_len, h1, h2, h3, he, k1, k2, k3, ke, k8]
              refine ⟨_, rfl, ?_⟩
              exact Round.ret (.inr ⟨rfl, rfl, rfl, hr2⟩)
            · have k8 : ¬((r.length : Int) < 3) := by omega
              by_cases c2 : r.length > 4000
              · rw [if_pos (.inr (.inl (by omega)))] at hr2
                have k9 : ((r.length : Int) > 4000) := by omega
                simp only [τ, evC_skip, evC_ret, evC_region, evC_seq, evC_cond, evC_bseq, blockEx, feedL, feedOf, runL, stepW, wantedV, Ev.step, opv, ev, getT, binV, intOp, put, constV, List.map, List.contains_nil, Bool.or_self, Nat.reduceEqDiff, if_true, if_false, decide_true, decide_false, reduceCtorEq, Nat.reduceBEq, give, V.hasSl, C.isSl, V.strip, C.strip, feeds, List.append_nil, List.contains_cons, Bool.false_eq_true, List.getElem?_toArray, constC, lenV, List.getElem?_cons_zero, List.getElem?_cons_succ, beq_self_eq_true, and_self, readV, D.toC, List.drop_zero, Option.bind_some, bb_tf, cond_false, List.map_cons, kstrip_ro, Nat.lt_add_one, pickV, Int.reduceNeg, agg_37, agg_39, esz_22, esz_37, und_37, und_39, encR_len, encG_len, encL_len, h1, h2, h3, he, k1, k2, k3, ke, k8, k9]
                refine ⟨_, rfl, ?_⟩
                exact Round.ret (.inr ⟨rfl, rfl, rfl, hr2⟩)
              · have k9 : ¬((r.length : Int) > 4000) := by omega
                have kmin : min r.length 4001 = r.length := by omega
                rw [kmin] at hr2
                by_cases c3 : m + r.length > 4000
                · rw [if_pos (.inr (.inl c3))] at hr2
                  have k10 : (((m + r.length : Nat) : Int) > 4000) := by omega
                  simp only [τ, evC_skip, evC_ret, evC_region, evC_seq, evC_cond, evC_bseq, blockEx, feedL, feedOf, runL, stepW, wantedV, Ev.step, opv, ev, getT, binV, intOp, put, constV, List.map, List.contains_nil, Bool.or_self, Nat.reduceEqDiff, if_true, if_false, decide_true, decide_false, reduceCtorEq, Nat.reduceBEq, give, V.hasSl, C.isSl, V.strip, C.strip, feeds, List.append_nil, List.contains_cons, Bool.false_eq_true, List.getElem?_toArray, constC, lenV, List.getElem?_cons_zero, List.getElem?_cons_succ, beq_self_eq_true, and_self, readV, D.toC, List.drop_zero, Option.bind_some, cond_false, List.map_cons, kstrip_ro, Nat.lt_add_one, Int.reduceNeg, agg_37, agg_39, esz_22, esz_37, und_37, und_39, encR_len, encG_len, encL_len, h1, h2, h3, he, k1, k2, k3, ke, k6, k8, k9, k10]
                  refine ⟨_, rfl, ?_⟩
                  exact Round.ret (.inr ⟨rfl, rfl, rfl, hr2⟩)
                · have k10 : ¬(((m + r.length : Nat) : Int) > 4000) := by omega
                  simp only [τ, evC_skip, evC_region, evC_seq, evC_cond, evC_loop, evC_bseq, blockEx, feedL, feedOf, runL, stepW, wantedV, Ev.step, opv, ev, getT, binV, intOp, strOp, put, constV, keep, List.map, List.contains_nil, Bool.or_self, Nat.reduceEqDiff, if_true, if_false, decide_true, decide_false, reduceCtorEq, Nat.reduceBEq, give, V.hasSl, C.isSl, V.strip, C.strip, feeds, List.append_nil, List.contains_cons, Bool.false_eq_true, List.getElem?_toArray, constC, lenV, List.getElem?_cons_zero, List.getElem?_cons_succ, beq_self_eq_true, and_self, readV, D.toC, List.drop_zero, Option.bind_some, cond_false, List.map_cons, kstrip_ro, Nat.lt_add_one, Int.reduceNeg, live_10_4, agg_37, agg_39, esz_22, esz_37, und_37, und_39, encR_len, encG_len, encL_len, h1, h2, h3, he, k1, k2, k3, ke, k6, k8, k9, k10]
                  let υ : Nat → S := fun p => { m := [(0, .c (.sl k 1 (encL l))), (2, .c (.bool false)), (3, .c (.int .i64 (m + r.length : Nat))), (4, .c (.int .i64 j)), (5, .c (.int .i64 i)), (6, .c (.sl .ro 2 (encR r))), (7, .c (.int .i64 p))], fs := [] :: fr :: fs }
                  generalize hL3 : loopE cfg (callE cfg) itE 10 [2] _ _ _ = out3
                  have hout3 : ∃ ex s, out3 = some (ex, s) ∧ ((ex = .exit 4 ∧ s = υ r.length ∧ r.any badP = false) ∨ (ex = .ret ∧ s.fs = [] :: fr :: fs ∧ getT s.m 2 = .c (.bool false) ∧ r.any badP = true)) := by
                    rw [← hL3]
                    refine loopE_inv υ (fun p => r.length - p) (fun p => p ≤ r.length ∧ r.any badP = (r.drop p).any badP) _ (fun p ⟨hp, hr3⟩ => ?_) 0 ⟨by omega, rfl⟩
                    rcases Nat.lt_or_ge p r.length with hp' | hp'
                    · obtain ⟨q, m0, md⟩ := drop_get hp'
                      rw [md, List.any_cons] at hr3
                      have m1 : (p : Int) < r.length := by omega
                      have m2 : ((p : Int)).toNat = p := by omega
                      have m3 : (0 : Int) ≤ p := by omega
                      have me := encR_get m0
                      have m7 : IntKind.i64.wrap ((p : Int) + 1) = ((p + 1 : Nat) : Int) := by rw [wrap64] <;> omega
                      by_cases a1 : q.1 > 134217728
                      · have hb : badP q = true := by simp [badP, nearB]; omega
                        simp only [υ, evC_skip, evC_ret, evC_region, evC_seq, evC_cond, evC_bseq, blockEx, feedL, feedOf, runL, stepW, wantedV, Ev.step, opv, ev, getT, binV, intOp, put, constV, List.map, List.contains_nil, Nat.reduceEqDiff, if_true, if_false, decide_true, reduceCtorEq, give, V.hasSl, C.isSl, V.strip, C.strip, feeds, List.append_nil, Bool.false_eq_true, List.getElem?_toArray, constC, lenV, List.getElem?_cons_zero, List.getElem?_cons_succ, and_self, readV, D.toC, List.drop_zero, Nat.zero_add, Option.bind_some, bb_tf, List.map_cons, kstrip_ro, Nat.zero_lt_succ, pickV, Int.reduceNeg, agg_3, esz_39, lay_41, und_39, encR_len, m1, m2, m3, me, a1]
                        refine ⟨_, rfl, ?_⟩
                        exact Round.ret (.inr ⟨rfl, rfl, rfl, by rw [hr3, hb]; rfl⟩)
                      · by_cases a2 : q.1 < -134217728
                        · have hb : badP q = true := by simp [badP, nearB]; omega
                          simp only [υ, evC_skip, evC_ret, evC_region, evC_seq, evC_cond, evC_bseq, blockEx, feedL, feedOf, runL, stepW, wantedV, Ev.step, opv, ev, getT, binV, intOp, put, constV, List.map, List.contains_nil, Nat.reduceEqDiff, if_true, if_false, decide_true, decide_false, reduceCtorEq, give, V.hasSl, C.isSl, V.strip, C.strip, feeds, List.append_nil, Bool.false_eq_true, List.getElem?_toArray, constC, lenV, List.getElem?_cons_zero, List.getElem?_cons_succ, beq_self_eq_true, and_self, readV, D.toC, List.drop_zero, Nat.zero_add, Option.bind_some, bb_tf, cond_false, List.map_cons, kstrip_ro, Nat.zero_lt_succ, pickV, Int.reduceNeg, agg_3, esz_39, lay_41, und_39, encR_len, m1, m2, m3, me, a1, a2]
                          refine ⟨_, rfl, ?_⟩
                          exact Round.ret (.inr ⟨rfl, rfl, rfl, by rw [hr3, hb]; rfl⟩)
                        · by_cases a3 : q.2 > 134217728
                          · have hb : badP q = true := by simp [badP, nearB]; omega
                            simp only [υ, evC_skip, evC_ret, evC_region, evC_seq, evC_cond, evC_bseq, blockEx, feedL, feedOf, runL, stepW, wantedV, Ev.step, opv, ev, getT, binV, intOp, put, constV, List.map, List.contains_nil, Nat.reduceEqDiff, if_true, if_false, decide_true, decide_false, reduceCtorEq, give, V.hasSl, C.isSl, V.strip, C.strip, feeds, List.append_nil, Bool.false_eq_true, List.getElem?_toArray, constC, lenV, List.getElem?_cons_zero, List.getElem?_cons_succ, beq_self_eq_true, and_self, readV, D.toC, List.drop_zero, Nat.zero_add, Option.bind_some, List.drop_succ_cons, bb_tf, cond_false, List.map_cons, kstrip_ro, Nat.zero_lt_succ, pickV, Int.reduceNeg, agg_3, esz_39, lay_41, und_39, encR_len, m1, m2, m3, me, a1, a2, a3]
                            refine ⟨_, rfl, ?_⟩
                            exact Round.ret (.inr ⟨rfl, rfl, rfl, by rw [hr3, hb]; rfl⟩)
                          · by_cases a4 : q.2 < -134217728
                            · have hb : badP q = true := by simp [badP, nearB]; omega
                              simp only [υ, evC_skip, evC_ret, evC_region, evC_seq, evC_cond, evC_bseq, blockEx, feedL, feedOf, runL, stepW, wantedV, Ev.step, opv, ev, getT, binV, intOp, put, constV, List.map, List.contains_nil, Nat.reduceEqDiff, if_true, if_false, decide_true, decide_false, reduceCtorEq, give, V.hasSl, C.isSl, V.strip, C.strip, feeds, List.append_nil, Bool.false_eq_true, List.getElem?_toArray, constC, lenV, List.getElem?_cons_zero, List.getElem?_cons_succ, beq_self_eq_true, and_self, readV, D.toC, List.drop_zero, Nat.zero_add, Option.bind_some, List.drop_succ_cons, cond_false, List.map_cons, kstrip_ro, Nat.zero_lt_succ, Int.reduceNeg, agg_3, esz_39, lay_41, und_39, encR_len, m1, m2, m3, me, a1, a2, a3, a4]
                              refine ⟨_, rfl, ?_⟩
                              exact Round.ret (.inr ⟨rfl, rfl, rfl, by rw [hr3, hb]; rfl⟩)
                            · have hb : badP q = false := by simp [badP, nearB]; omega
                              simp only [υ, evC_skip, evC_region, evC_seq, evC_cond, evC_bseq, blockEx, feedL, feedOf, runL, stepW, wantedV, Ev.step, opv, ev, getT, binV, intOp, put, constV, List.map, List.contains_nil, Bool.or_self, Nat.reduceEqDiff, if_true, if_false, decide_true, decide_false, reduceCtorEq, Nat.reduceBEq, give, V.hasSl, C.isSl, V.strip, C.strip, feeds, List.append_nil, List.contains_cons, Bool.false_eq_true, List.getElem?_toArray, constC, lenV, List.getElem?_cons_zero, List.getElem?_cons_succ, beq_self_eq_true, and_self, readV, D.toC, List.drop_zero, Nat.zero_add, Option.bind_some, List.drop_succ_cons, cond_false, List.map_cons, kstrip_ro, Nat.zero_lt_succ, Int.reduceNeg, agg_3, esz_39, lay_41, und_39, encR_len, m1, m2, m3, me, m7, a1, a2, a3, a4]
                              refine ⟨_, rfl, ?_⟩
                              exact Round.again (p + 1) rfl ⟨by omega, by rw [hr3, hb]; rfl⟩ (by omega)
                    · have m1 : ¬((p : Int) < r.length) := by omega
                      rw [List.drop_eq_nil_of_le hp'] at hr3
                      obtain rfl : p = r.length := by omega
                      simp only [υ, evC_exit, evC_region, evC_seq, evC_cond, feedL, feedOf, runL, stepW, wantedV, Ev.step, opv, ev, getT, binV, intOp, put, List.contains_nil, Nat.reduceEqDiff, if_true, if_false, decide_false, reduceCtorEq, give, V.hasSl, C.isSl, V.strip, C.strip, feeds, List.append_nil, Bool.false_eq_true, List.getElem?_toArray, lenV, List.getElem?_cons_zero, kstrip_ro, Int.reduceNeg, und_39, encR_len, m1]
                      refine ⟨_, rfl, ?_⟩
                      exact Round.out (.inl ⟨rfl, rfl, hr3⟩)
                  obtain ⟨ex, ⟨mm, fs'⟩, q1, q2 | q2⟩ := hout3
                  · obtain ⟨rfl, q3, q4⟩ := q2
                    rw [if_neg (by rw [q4]; simp; omega)] at hr2
                    simp only [q1, q3, υ, getT, Nat.reduceEqDiff, if_true, if_false, reduceCtorEq, Bool.false_eq_true, k7]
                    refine ⟨_, rfl, ?_⟩
                    exact Round.again (i + 1, m + r.length) rfl ⟨by omega, by omega, hr2⟩ (by simp only; omega)
                  · obtain ⟨rfl, q3, q4, q5⟩ := q2
                    simp only at q3 q4
                    rw [if_pos (.inr (.inr q5))] at hr2
                    simp only [q1, q3]
                    refine ⟨_, rfl, ?_⟩
                    exact Round.ret (.inr ⟨rfl, rfl, by simp only [getT, keep, List.map, Nat.reduceEqDiff, if_true, if_false, reduceCtorEq, q4], hr2⟩)
          · have k1 : ¬((i : Int) < g.length) := by omega
            rw [List.drop_eq_nil_of_le hi'] at hr2
            obtain rfl : i = g.length := by omega
            simp only [τ, evC_exit, evC_region, evC_seq, evC_cond, feedL, feedOf, runL, stepW, wantedV, Ev.step, opv, ev, getT, binV, intOp, put, List.map, List.contains_nil, Nat.reduceEqDiff, if_true, if_false, decide_false, reduceCtorEq, give, V.hasSl, C.isSl, V.strip, C.strip, feeds, List.append_nil, Bool.false_eq_true, List.getElem?_toArray, lenV, List.getElem?_cons_zero, and_self, readV, D.toC, List.drop_zero, List.map_cons, Nat.lt_add_one, Int.reduceNeg, agg_37, esz_22, und_37, encG_len, encL_len, h1, h2, h3, he, k1]
            refine ⟨_, rfl, ?_⟩
            exact Round.out (.inl ⟨rfl, m, hm1, rfl, hr2⟩)
        have h7 : IntKind.i64.wrap ((j : Int) + 1) = ((j + 1 : Nat) : Int) := by rw [wrap64] <;> omega
        obtain ⟨ex, ⟨m, fs'⟩, q1, q2 | q2⟩ := hout2
        · obtain ⟨rfl, m, hm, q3, q4⟩ := q2
          simp only [q1, q3, τ, getT, Nat.reduceEqDiff, if_true, if_false, reduceCtorEq, Bool.false_eq_true, h7]
          refine ⟨_, rfl, ?_⟩
          exact Round.again (j + 1, m) rfl ⟨by omega, by omega, q4⟩ (by simp only; omega)
        · obtain ⟨rfl, q3, q4, q5⟩ := q2
          simp only at q3 q4
          simp only [q1, q3]
          refine ⟨_, rfl, ?_⟩
          exact Round.ret ⟨rfl, .inr ⟨rfl, by simp only [getT, keep, List.map, Nat.reduceEqDiff, if_true, if_false, reduceCtorEq, q4], q5⟩⟩
    · have h1 : ¬((j : Int) < l.length) := by omega
      rw [List.drop_eq_nil_of_le hj'] at hr
      simp only [σ, evC_exit, evC_region, evC_seq, evC_cond, feedL, feedOf, runL, stepW, wantedV, Ev.step, opv, ev, getT, binV, intOp, put, List.contains_nil, Nat.reduceEqDiff, if_true, if_false, decide_false, reduceCtorEq, give, V.hasSl, C.isSl, V.strip, C.strip, feeds, List.append_nil, Bool.false_eq_true, List.getElem?_toArray, lenV, List.getElem?_cons_zero, Int.reduceNeg, und_22, encL_len, h1]
      refine ⟨_, rfl, ?_⟩
      exact Round.out ⟨rfl, .inl ⟨rfl, hr⟩⟩
  obtain ⟨ex, ⟨m, fs'⟩, h1, h2, h3 | h3⟩ := hout
  · obtain ⟨rfl, h5⟩ := h3
    simp only at h2
    subst h2
    rw [h1, h5]
    simp only [getT, if_true, List.length_cons, C.le]
  · obtain ⟨rfl, h4, h5⟩ := h3
    simp only at h2 h4
    subst h2
    rw [h1, h5]
    simp only [if_true, List.length_cons, C.le, h4]

end Go.Proofs.YtbfllngekcckeaaGreatDoor
