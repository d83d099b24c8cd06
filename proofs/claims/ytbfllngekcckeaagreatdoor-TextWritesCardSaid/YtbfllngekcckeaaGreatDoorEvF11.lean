/- The reference's Same. -/
import Derived.Test.YtbfllngekcckeaaGreatDoorEvF10
namespace Go.Proofs.YtbfllngekcckeaaGreatDoor
open Go.Ev
set_option linter.unusedSimpArgs false
set_option linter.unusedVariables false
set_option maxHeartbeats 400000
set_option maxRecDepth 4000

theorem same_ev (k k' : K) (a b : List Pg) (fr : Fr) (fs : Frames) (ha : Small a) (hb : Small b) :
    callE cfg 12 [.c (.sl k 1 (encL a)), .c (.sl k' 1 (encL b))] (fr :: fs) = some (some (.c (.bool (decide (a = b)))), fr :: fs) := by
  refine callE_code (fn := Tryz.f12) (rs := [.tmp 4]) (by kernel_rfl) (by kernel_rfl) (by kernel_rfl) rfl rfl rfl (by show 2 ≤ 89; decide) ?_
  have hal := ha.len
  have hbl := hb.len
  by_cases hlen : a.length = b.length
  · have c0 : ((a.length : Int) != b.length) = false := by simp [hlen]
    simp only [resTmpsR, List.filterMap, evC_skip, evC_ret, evC_region, evC_seq, evC_cond, evC_loop, blockEx, feedL, feedOf, runL, stepW, wantedV, Ev.step, opv, ev, getT, binV, intOp, put, params, constV, keep, List.map, List.contains_nil, Nat.reduceEqDiff, if_true, if_false, reduceCtorEq, give, V.hasSl, C.isSl, V.strip, C.strip, feeds, List.append_nil, Bool.false_eq_true, List.getElem?_toArray, constC, lenV, List.getElem?_cons_zero, Nat.zero_add, List.map_cons, finishR, resVs, resV, freezeVs, freezeV, freezeC, live_12_0, und_22, encL_len, c0]
    let σ : Nat → S := fun j => { m := [(0, .c (.sl k 1 (encL a))), (1, .c (.sl k' 1 (encL b))), (4, .c (.bool false)), (5, .c (.int .i64 j))], fs := [] :: fr :: fs }
    generalize hL : loopE cfg (callE cfg) itE 12 [4] _ _ _ = out
    have hout : ∃ ex s, out = some (ex, s) ∧ s.fs = [] :: fr :: fs ∧ ((ex = .exit 0 ∧ a = b) ∨ (ex = .ret ∧ getT s.m 4 = .c (.bool false) ∧ a ≠ b)) := by
      rw [← hL]
      refine loopE_inv σ (fun j => a.length - j) (fun j => j ≤ a.length ∧ (a = b ↔ a.drop j = b.drop j)) (fun ex s => s.fs = [] :: fr :: fs ∧ ((ex = .exit 0 ∧ a = b) ∨ (ex = .ret ∧ getT s.m 4 = .c (.bool false) ∧ a ≠ b))) (fun j ⟨hj, hr⟩ => ?_) 0 ⟨by omega, Iff.rfl⟩
      rcases Nat.lt_or_ge j a.length with hj' | hj'
      · obtain ⟨g, g0, hd⟩ := drop_get hj'
        obtain ⟨g', g0', hd'⟩ := drop_get (l := b) (i := j) (by omega)
        rw [hd, hd', List.cons.injEq] at hr
        obtain ⟨hgl, hgr⟩ := ha.parts g (List.mem_of_getElem? g0)
        obtain ⟨hgl', hgr'⟩ := hb.parts g' (List.mem_of_getElem? g0')
        have h1 : (j : Int) < a.length := by omega
        have h1' : (j : Int) < b.length := by omega
        have h2 : ((j : Int)).toNat = j := by omega
        have h3 : (0 : Int) ≤ j := by omega
        have he := encL_get g0
        have he' := encL_get g0'
        have h7 : IntKind.i64.wrap ((j : Int) + 1) = ((j + 1 : Nat) : Int) := by rw [wrap64] <;> omega
        by_cases hgg : g.length = g'.length
        · have c1 : ((g.length : Int) != g'.length) = false := by simp [hgg]
          simp only [σ, evC_skip, evC_region, evC_draw, evC_seq, evC_cond, evC_loop, evC_bseq, blockEx, feedL, feedOf, runL, stepW, wantedV, Ev.step, opv, ev, getT, binV, intOp, strOp, put, constV, keep, List.map, List.contains_nil, Bool.or_self, Nat.reduceEqDiff, if_true, if_false, decide_true, reduceCtorEq, Nat.reduceBEq, give, V.hasSl, C.isSl, V.strip, C.strip, feeds, List.append_nil, List.contains_cons, Bool.false_eq_true, List.getElem?_toArray, constC, lenV, List.getElem?_cons_zero, and_self, readV, D.toC, List.drop_zero, List.map_cons, Nat.lt_add_one, live_12_2, agg_37, esz_22, und_22, und_37, encL_len, encG_len, h1, h1', h2, h3, he, he', c1]
          let τ : Nat → S := fun i => { m := [(0, .c (.sl k 1 (encL a))), (1, .c (.sl k' 1 (encL b))), (4, .c (.bool false)), (5, .c (.int .i64 j)), (6, .c (.int .i64 i))], fs := [] :: fr :: fs }
          generalize hL2 : loopE cfg (callE cfg) itE 12 [4] _ _ _ = out2
          have hout2 : ∃ ex s, out2 = some (ex, s) ∧ ((ex = .exit 2 ∧ s = τ g.length ∧ (a = b ↔ a.drop (j + 1) = b.drop (j + 1))) ∨ (ex = .ret ∧ s.fs = [] :: fr :: fs ∧ getT s.m 4 = .c (.bool false) ∧ a ≠ b)) := by
            rw [← hL2]
            refine loopE_inv τ (fun i => g.length - i) (fun i => i ≤ g.length ∧ (a = b ↔ g.drop i = g'.drop i ∧ a.drop (j + 1) = b.drop (j + 1))) _ (fun i ⟨hi, hr2⟩ => ?_) 0 ⟨by omega, hr⟩
            rcases Nat.lt_or_ge i g.length with hi' | hi'
            · obtain ⟨r, r0, rd⟩ := drop_get hi'
              obtain ⟨r', r0', rd'⟩ := drop_get (l := g') (i := i) (by omega)
              rw [rd, rd', List.cons.injEq, and_assoc] at hr2
              have hrl := hgr r (List.mem_of_getElem? r0)
              have hrl' := hgr' r' (List.mem_of_getElem? r0')
              have k1 : (i : Int) < g.length := by omega
              have k1' : (i : Int) < g'.length := by omega
              have k2 : ((i : Int)).toNat = i := by omega
              have k3 : (0 : Int) ≤ i := by omega
              have ke := encG_get r0
              have ke' := encG_get r0'
              have k7 : IntKind.i64.wrap ((i : Int) + 1) = ((i + 1 : Nat) : Int) := by rw [wrap64] <;> omega
              by_cases hrr : r.length = r'.length
              · have c2 : ((r.length : Int) != r'.length) = false := by simp [hrr]
                simp only [τ, evC_skip, evC_region, evC_draw, evC_seq, evC_cond, evC_loop, evC_bseq, blockEx, feedL, feedOf, runL, stepW, wantedV, Ev.step, opv, ev, getT, binV, intOp, strOp, put, constV, keep, List.map, List.contains_nil, Bool.or_self, Nat.reduceEqDiff, if_true, if_false, decide_true, reduceCtorEq, Nat.reduceBEq, give, V.hasSl, C.isSl, V.strip, C.strip, feeds, List.append_nil, List.contains_cons, Bool.false_eq_true, List.getElem?_toArray, constC, lenV, List.getElem?_cons_zero, and_self, readV, D.toC, List.drop_zero, List.map_cons, Nat.lt_add_one, live_12_4, agg_37, agg_39, esz_22, esz_37, und_37, und_39, encL_len, encG_len, encR_len, h1, h1', h2, h3, he, he', k1, k1', k2, k3, ke, ke', c2]
                let υ : Nat → S := fun p => { m := [(0, .c (.sl k 1 (encL a))), (1, .c (.sl k' 1 (encL b))), (4, .c (.bool false)), (5, .c (.int .i64 j)), (6, .c (.int .i64 i)), (7, .c (.int .i64 p))], fs := [] :: fr :: fs }
                generalize hL3 : loopE cfg (callE cfg) itE 12 [4] _ _ _ = out3
                have hout3 : ∃ ex s, out3 = some (ex, s) ∧ ((ex = .exit 4 ∧ s = υ r.length ∧ (a = b ↔ g.drop (i + 1) = g'.drop (i + 1) ∧ a.drop (j + 1) = b.drop (j + 1))) ∨ (ex = .ret ∧ s.fs = [] :: fr :: fs ∧ getT s.m 4 = .c (.bool false) ∧ a ≠ b)) := by
                  rw [← hL3]
                  refine loopE_inv υ (fun p => r.length - p) (fun p => p ≤ r.length ∧ (a = b ↔ r.drop p = r'.drop p ∧ g.drop (i + 1) = g'.drop (i + 1) ∧ a.drop (j + 1) = b.drop (j + 1))) _ (fun p ⟨hp, hr3⟩ => ?_) 0 ⟨by omega, hr2⟩
                  rcases Nat.lt_or_ge p r.length with hp' | hp'
                  · obtain ⟨q, q0, qd⟩ := drop_get hp'
                    obtain ⟨q', q0', qd'⟩ := drop_get (l := r') (i := p) (by omega)
                    rw [qd, qd', List.cons.injEq, and_assoc] at hr3
                    have m1 : (p : Int) < r.length := by omega
                    have m1' : (p : Int) < r'.length := by omega
                    have m2 : ((p : Int)).toNat = p := by omega
                    have m3 : (0 : Int) ≤ p := by omega
                    have me := encR_get q0
                    have me' := encR_get q0'
                    have m7 : IntKind.i64.wrap ((p : Int) + 1) = ((p + 1 : Nat) : Int) := by rw [wrap64] <;> omega
                    by_cases hq : q = q'
                    · have c3 : (q.1 == q'.1) = true := by simp [hq]
                      have c4 : (q.2 == q'.2) = true := by simp [hq]
                      simp only [υ, evC_skip, evC_region, evC_draw, evC_seq, evC_cond, evC_bseq, blockEx, feedL, feedOf, runL, stepW, wantedV, Ev.step, opv, ev, getT, binV, intOp, put, constV, List.map, List.contains_nil, Bool.or_self, Nat.reduceEqDiff, if_true, if_false, decide_true, reduceCtorEq, Nat.reduceBEq, give, V.hasSl, C.isSl, V.strip, C.strip, feeds, List.append_nil, List.contains_cons, Bool.false_eq_true, List.getElem?_toArray, List.length_cons, constC, lenV, List.getElem?_cons_zero, Bool.not_true, Bool.and_true, and_self, readV, D.toC, List.drop_zero, List.length_nil, Nat.zero_add, List.take_succ_cons, List.take_zero, Bool.not_true, List.map_cons, Nat.lt_add_one, Nat.zero_lt_succ, Nat.reduceAdd, Nat.le_refl, sz_41, agg_37, agg_39, agg_41, esz_22, esz_37, esz_39, eqf_41, und_39, eqCs, encL_len, encG_len, encR_len, h1, h1', h2, h3, he, he', k1, k1', k2, k3, ke, ke', m1, m1', m2, m3, me, me', m7, c3, c4]
                      refine ⟨_, rfl, ?_⟩
                      exact Round.again (p + 1) rfl ⟨by omega, by simpa [hq] using hr3⟩ (by omega)
                    · have hne : a ≠ b := fun h => hq (hr3.1 h).1
                      by_cases c3 : q.1 = q'.1
                      · have c3' : (q.1 == q'.1) = true := by simp [c3]
                        have c4' : (q.2 == q'.2) = false := by
                          rw [beq_eq_false_iff_ne]
                          exact fun h => hq (Prod.ext c3 h)
                        simp only [υ, evC_skip, evC_ret, evC_region, evC_draw, evC_seq, evC_cond, evC_bseq, blockEx, feedL, feedOf, runL, stepW, wantedV, Ev.step, opv, ev, getT, binV, intOp, put, constV, List.map, List.contains_nil, Nat.reduceEqDiff, if_true, if_false, decide_true, reduceCtorEq, give, V.hasSl, C.isSl, V.strip, C.strip, feeds, List.append_nil, Bool.false_eq_true, List.getElem?_toArray, List.length_cons, constC, lenV, List.getElem?_cons_zero, Bool.not_false, Bool.and_false, Bool.and_true, and_self, readV, D.toC, List.drop_zero, List.length_nil, Nat.zero_add, List.take_succ_cons, List.take_zero, List.map_cons, Nat.lt_add_one, Nat.zero_lt_succ, Nat.reduceAdd, Nat.le_refl, sz_41, agg_37, agg_39, agg_41, esz_22, esz_37, esz_39, eqf_41, und_39, eqCs, encL_len, encG_len, encR_len, h1, h1', h2, h3, he, he', k1, k1', k2, k3, ke, ke', m1, m1', m2, m3, me, me', c3', c4']
                        refine ⟨_, rfl, ?_⟩
                        exact Round.ret (.inr ⟨rfl, rfl, rfl, hne⟩)
                      · have c3' : (q.1 == q'.1) = false := by rw [beq_eq_false_iff_ne]; exact c3
                        simp only [υ, evC_skip, evC_ret, evC_region, evC_draw, evC_seq, evC_cond, evC_bseq, blockEx, feedL, feedOf, runL, stepW, wantedV, Ev.step, opv, ev, getT, binV, intOp, put, constV, List.map, List.contains_nil, Nat.reduceEqDiff, if_true, if_false, decide_true, reduceCtorEq, give, V.hasSl, C.isSl, V.strip, C.strip, feeds, List.append_nil, Bool.false_eq_true, List.getElem?_toArray, List.length_cons, constC, lenV, List.getElem?_cons_zero, Bool.not_false, Bool.and_true, Bool.false_and, and_self, readV, D.toC, List.drop_zero, List.length_nil, Nat.zero_add, List.take_succ_cons, List.take_zero, List.map_cons, Nat.lt_add_one, Nat.zero_lt_succ, Nat.reduceAdd, Nat.le_refl, sz_41, agg_37, agg_39, agg_41, esz_22, esz_37, esz_39, eqf_41, und_39, eqCs, encL_len, encG_len, encR_len, h1, h1', h2, h3, he, he', k1, k1', k2, k3, ke, ke', m1, m1', m2, m3, me, me', c3']
                        refine ⟨_, rfl, ?_⟩
                        exact Round.ret (.inr ⟨rfl, rfl, rfl, hne⟩)
                  · have m1 : ¬((p : Int) < r.length) := by omega
                    rw [List.drop_eq_nil_of_le hp', List.drop_eq_nil_of_le (by omega)] at hr3
                    obtain rfl : p = r.length := by omega
                    simp only [υ, evC_exit, evC_region, evC_seq, evC_cond, feedL, feedOf, runL, stepW, wantedV, Ev.step, opv, ev, getT, binV, intOp, put, List.map, List.contains_nil, Nat.reduceEqDiff, if_true, if_false, decide_false, reduceCtorEq, give, V.hasSl, C.isSl, V.strip, C.strip, feeds, List.append_nil, Bool.false_eq_true, List.getElem?_toArray, lenV, List.getElem?_cons_zero, and_self, readV, D.toC, List.drop_zero, List.map_cons, Nat.lt_add_one, Nat.sub_self, agg_37, agg_39, esz_22, esz_37, und_39, encL_len, encG_len, encR_len, h1, h2, h3, he, k1, k2, k3, ke, m1]
                    refine ⟨_, rfl, ?_⟩
                    exact Round.out (.inl ⟨rfl, rfl, by simpa using hr3⟩)
                obtain ⟨ex, ⟨mm, fs'⟩, q1, q2 | q2⟩ := hout3
                · obtain ⟨rfl, q3, q4⟩ := q2
                  simp only [q1, q3, υ, getT, Nat.reduceEqDiff, if_true, if_false, reduceCtorEq, Bool.false_eq_true, k7]
                  refine ⟨_, rfl, ?_⟩
                  exact Round.again (i + 1) rfl ⟨by omega, q4⟩ (by omega)
                · obtain ⟨rfl, q3, q4, q5⟩ := q2
                  simp only at q3 q4
                  simp only [q1, q3]
                  refine ⟨_, rfl, ?_⟩
                  exact Round.ret (.inr ⟨rfl, rfl, by simp only [getT, keep, List.map, Nat.reduceEqDiff, if_true, if_false, reduceCtorEq, q4], q5⟩)
              · have c2 : ((r.length : Int) != r'.length) = true := by rw [bne_iff_ne]; omega
                simp only [τ, evC_skip, evC_ret, evC_region, evC_draw, evC_seq, evC_cond, evC_bseq, blockEx, feedL, feedOf, runL, stepW, wantedV, Ev.step, opv, ev, getT, binV, intOp, put, constV, List.map, List.contains_nil, Nat.reduceEqDiff, if_true, if_false, decide_true, reduceCtorEq, give, V.hasSl, C.isSl, V.strip, C.strip, feeds, List.append_nil, Bool.false_eq_true, List.getElem?_toArray, constC, lenV, List.getElem?_cons_zero, and_self, readV, D.toC, List.drop_zero, List.map_cons, Nat.lt_add_one, agg_37, agg_39, esz_22, esz_37, und_37, und_39, encL_len, encG_len, encR_len, h1, h1', h2, h3, he, he', k1, k1', k2, k3, ke, ke', c2]
                refine ⟨_, rfl, ?_⟩
                exact Round.ret (.inr ⟨rfl, rfl, rfl, fun h => hrr (by rw [(hr2.1 h).1])⟩)
            · have k1 : ¬((i : Int) < g.length) := by omega
              rw [List.drop_eq_nil_of_le hi', List.drop_eq_nil_of_le (by omega)] at hr2
              obtain rfl : i = g.length := by omega
              simp only [τ, evC_exit, evC_region, evC_seq, evC_cond, feedL, feedOf, runL, stepW, wantedV, Ev.step, opv, ev, getT, binV, intOp, put, List.map, List.contains_nil, Nat.reduceEqDiff, if_true, if_false, decide_false, reduceCtorEq, give, V.hasSl, C.isSl, V.strip, C.strip, feeds, List.append_nil, Bool.false_eq_true, List.getElem?_toArray, lenV, List.getElem?_cons_zero, and_self, readV, D.toC, List.drop_zero, List.map_cons, Nat.lt_add_one, Nat.sub_self, agg_37, esz_22, und_37, encL_len, encG_len, h1, h2, h3, he, k1]
              refine ⟨_, rfl, ?_⟩
              exact Round.out (.inl ⟨rfl, rfl, by simpa using hr2⟩)
          obtain ⟨ex, ⟨mm, fs'⟩, q1, q2 | q2⟩ := hout2
          · obtain ⟨rfl, q3, q4⟩ := q2
            simp only [q1, q3, τ, getT, Nat.reduceEqDiff, if_true, if_false, reduceCtorEq, Bool.false_eq_true, h7]
            refine ⟨_, rfl, ?_⟩
            exact Round.again (j + 1) rfl ⟨by omega, q4⟩ (by omega)
          · obtain ⟨rfl, q3, q4, q5⟩ := q2
            simp only at q3 q4
            simp only [q1, q3]
            refine ⟨_, rfl, ?_⟩
            exact Round.ret ⟨rfl, .inr ⟨rfl, by simp only [getT, keep, List.map, Nat.reduceEqDiff, if_true, if_false, reduceCtorEq, q4], q5⟩⟩
        · have c1 : ((g.length : Int) != g'.length) = true := by rw [bne_iff_ne]; omega
          simp only [σ, evC_skip, evC_ret, evC_region, evC_draw, evC_seq, evC_cond, evC_bseq, blockEx, feedL, feedOf, runL, stepW, wantedV, Ev.step, opv, ev, getT, binV, intOp, put, constV, List.map, List.contains_nil, Nat.reduceEqDiff, if_true, if_false, decide_true, reduceCtorEq, give, V.hasSl, C.isSl, V.strip, C.strip, feeds, List.append_nil, Bool.false_eq_true, List.getElem?_toArray, constC, lenV, List.getElem?_cons_zero, and_self, readV, D.toC, List.drop_zero, List.map_cons, Nat.lt_add_one, agg_37, esz_22, und_22, und_37, encL_len, encG_len, h1, h1', h2, h3, he, he', c1]
          refine ⟨_, rfl, ?_⟩
          exact Round.ret ⟨rfl, .inr ⟨rfl, rfl, fun h => hgg (by rw [(hr.1 h).1])⟩⟩
      · have h1 : ¬((j : Int) < a.length) := by omega
        rw [List.drop_eq_nil_of_le hj', List.drop_eq_nil_of_le (by omega)] at hr
        simp only [σ, evC_exit, evC_region, evC_seq, evC_cond, feedL, feedOf, runL, stepW, wantedV, Ev.step, opv, ev, getT, binV, intOp, put, List.contains_nil, Nat.reduceEqDiff, if_true, if_false, decide_false, reduceCtorEq, give, V.hasSl, C.isSl, V.strip, C.strip, feeds, List.append_nil, Bool.false_eq_true, List.getElem?_toArray, lenV, List.getElem?_cons_zero, und_22, encL_len, h1]
        refine ⟨_, rfl, ?_⟩
        exact Round.out ⟨rfl, .inl ⟨rfl, by simpa using hr⟩⟩
    obtain ⟨ex, ⟨m, fs'⟩, h1, h2, h3 | h3⟩ := hout
    · obtain ⟨rfl, h5⟩ := h3
      simp only at h2
      subst h2
      have h6 : decide (a = b) = true := by simp [h5]
      rw [h1, h6]
      simp only [getT, if_true, List.length_cons, C.le]
    · obtain ⟨rfl, h4, h5⟩ := h3
      simp only at h2 h4
      subst h2
      have h6 : decide (a = b) = false := by simp [h5]
      rw [h1, h6]
      simp only [if_true, List.length_cons, C.le, h4]
  · have c0 : ((a.length : Int) != b.length) = true := by rw [bne_iff_ne]; omega
    have h6 : decide (a = b) = false := by simp; exact fun h => hlen (by rw [h])
    rw [h6]
    simp only [resTmpsR, List.filterMap, evC_ret, evC_region, evC_seq, evC_cond, feedL, feedOf, runL, stepW, wantedV, Ev.step, opv, ev, getT, binV, intOp, put, params, constV, List.contains_nil, Nat.reduceEqDiff, if_true, if_false, reduceCtorEq, give, V.hasSl, C.isSl, V.strip, C.strip, feeds, List.append_nil, Bool.false_eq_true, List.getElem?_toArray, List.length_cons, constC, lenV, List.getElem?_cons_zero, Nat.zero_add, finishR, resVs, resV, freezeVs, freezeV, freezeC, C.le, und_22, encL_len, c0]

end Go.Proofs.YtbfllngekcckeaaGreatDoor
