/- Pack. -/
import Derived.Test.YtbfllngekcckeaaGreatDoorEvF5
namespace Go.Proofs.YtbfllngekcckeaaGreatDoor
open Go.Ev
set_option linter.unusedSimpArgs false
set_option linter.unusedVariables false
set_option maxHeartbeats 400000
set_option maxRecDepth 4000

def pP (p : Int × Int) : List (List D) := put4 p.1 ++ put4 p.2
def pR (r : Rg) : List (List D) := put4 r.length ++ r.flatMap pP
def pG (g : Pg) : List (List D) := put4 g.length ++ g.flatMap pR
def pL (l : List Pg) : List (List D) := put4 l.length ++ l.flatMap pG

theorem put4_len (n : Int) : (put4 n).length = 4 := rfl
theorem pP_len (p : Int × Int) : (pP p).length = 8 := rfl
theorem pPs_len : ∀ r : Rg, (r.flatMap pP).length = 8 * r.length
  | [] => rfl
  | p :: r => by simp only [List.flatMap_cons, List.length_append, pPs_len r, pP_len, List.length_cons]; omega
theorem pR_len (r : Rg) : (pR r).length = 4 + 8 * r.length := by simp only [pR, List.length_append, put4_len, pPs_len]

structure GoodR (r : Rg) : Prop where
  few : 3 ≤ r.length
  many : r.length ≤ 4000
  pts : ∀ p ∈ r, badP p = false

theorem mayG_good : ∀ (n : Nat) (g : Pg) {n' : Nat}, n ≤ 4000 → mayG n g = some n' → n + g.length ≤ n' ∧ n' ≤ 4000 ∧ (∀ r ∈ g, GoodR r) ∧ (g.flatMap pR).length + 12 * n ≤ 12 * n'
  | n, [], n', h0, h => by
    simp only [mayG, Option.some.injEq] at h
    subst h
    exact ⟨by simp, h0, fun r hr => by simp at hr, by simp⟩
  | n, r :: g, n', h0, h => by
    simp only [mayG] at h
    split at h
    · cases h
    · rename_i hc
      simp only [not_or] at hc
      obtain ⟨c1, c2, c3⟩ := hc
      have hm : min r.length 4001 = r.length := by omega
      rw [hm] at h c2
      obtain ⟨h1, h2, h3, h4⟩ := mayG_good _ g (by omega) h
      refine ⟨by simp only [List.length_cons]; omega, h2, fun x hx => ?_, ?_⟩
      · rcases List.mem_cons.1 hx with rfl | hx
        · exact ⟨by omega, by omega, fun p hp => by
            simp only [Bool.not_eq_true] at c3
            simpa using List.any_eq_false.1 c3 p hp⟩
        · exact h3 x hx
      · simp only [List.flatMap_cons, List.length_append, pR_len]
        omega

structure GoodG (g : Pg) : Prop where
  few : 1 ≤ g.length
  many : g.length ≤ 4000
  rings : ∀ r ∈ g, GoodR r

theorem mayL_good : ∀ (n : Nat) (l : List Pg), n ≤ 4000 → mayL n l = true → l.length + n ≤ 4000 ∧ (∀ g ∈ l, GoodG g) ∧ (l.flatMap pG).length + 16 * n ≤ 64000
  | n, [], h0, _ => ⟨by simpa using h0, fun g hg => by simp at hg, by simp; omega⟩
  | n, g :: l, h0, h => by
    simp only [mayL] at h
    split at h
    · cases h
    · rename_i hz
      split at h
      · cases h
      · rename_i n' hn
        obtain ⟨h1, h2, h3, h4⟩ := mayG_good n g h0 hn
        obtain ⟨k1, k2, k3⟩ := mayL_good n' l h2 h
        refine ⟨by simp only [List.length_cons]; omega, fun x hx => ?_, ?_⟩
        · rcases List.mem_cons.1 hx with rfl | hx
          · exact ⟨by omega, by omega, h3⟩
          · exact k2 x hx
        · simp only [List.flatMap_cons, List.length_append, pG, put4_len]
          omega

theorem pL_len {l : List Pg} (h : mayL 0 l = true) : (pL l).length ≤ 64004 := by
  have := (mayL_good 0 l (by omega) h).2.2
  simp only [pL, List.length_append, put4_len]
  omega

theorem sizes {l : List Pg} (h : mayL 0 l = true) : l.length < 1152921504606846976 ∧ ∀ g ∈ l, g.length < 1152921504606846976 ∧ ∀ r ∈ g, r.length < 1152921504606846976 := by
  obtain ⟨h1, h2, _⟩ := mayL_good 0 l (by omega) h
  exact ⟨by omega, fun g hg => ⟨by have := (h2 g hg).many; omega, fun r hr => by have := ((h2 g hg).rings r hr).many; omega⟩⟩

theorem esz0 : elemSz cfg.P 0 = 0 := by kernel_rfl

theorem put_nil (z : Nat) (n : Int) (fs : Frames) : callE cfg 33 [.c (.sl .nil z []), .c (.int .i64 n)] fs = some (some (.c (.sl .own 1 (put4 n))), fs) := by
  refine callE_code (fn := Tryz.f33) (rs := [.tmp 4]) (by kernel_rfl) (by kernel_rfl) (by kernel_rfl) rfl rfl rfl (by show 2 ≤ 19; decide) ?_
  have m1 : min 24 64 = 24 := rfl
  have m2 : min 16 64 = 16 := rfl
  have m3 : min 8 64 = 8 := rfl
  simp only [resTmpsR, List.filterMap, evC_ret, evC_region, evC_seq, feedL, feedOf, runL, stepW, wantedV, Ev.step, opv, ev, getT, binV, shiftOp, put, params, constV, List.map, List.contains_nil, Bool.or_self, Nat.reduceEqDiff, if_true, if_false, reduceCtorEq, Nat.reduceBEq, give, V.hasSl, C.isSl, V.strip, C.strip, feeds, List.append_nil, List.nil_append, List.contains_cons, Bool.false_eq_true, List.length_cons, constC, Bool.or_false, beq_self_eq_true, and_self, or_false, Nat.reduceLT, fillE, V.cells, toDs, C.toD, appendV, tailD, appOK, List.replicate, List.length_nil, Nat.zero_add, cfg_arr, IntKind.bits, Int.reducePow, List.set_cons_zero, List.set_cons_succ, kstrip_own, kstrip_nil, Nat.lt_add_one, Nat.zero_lt_succ, Nat.reduceAdd, Nat.reduceLeDiff, Nat.mul_one, finishR, resVs, resV, freezeVs, freezeV, freezeC, convV, Ev.newObj, List.cons_append, Int.reduceLT, Int.reduceToNat, esz_43, elemT_43, zero_5, conv_3_5, und_43, elemI_43, m1, m2, m3]
  rfl

theorem pack_no (k : K) (l : List Pg) (fr : Fr) (fs : Frames) (hn : l.length < 1152921504606846976) (hg : ∀ g ∈ l, g.length < 1152921504606846976 ∧ ∀ r ∈ g, r.length < 1152921504606846976) (hm : mayL 0 l = false) :
    callE cfg 15 [.c (.sl k 1 (encL l))] (fr :: fs) = some (some (.c (.sl .nil 1 [])), fr :: fs) := by
  refine callE_code (fn := Tryz.f15) (rs := [.tmp 2]) (by kernel_rfl) (by kernel_rfl) (by kernel_rfl) rfl rfl rfl (by show 1 ≤ 53; decide) ?_
  have h := may_ev k.strip l [] (fr :: fs) hn hg
  rw [hm] at h
  simp only [resTmpsR, List.filterMap, evC_ret, evC_region, evC_seq, evC_cond, feedL, feedOf, runL, stepW, wantedV, Ev.step, opv, ev, getT, unV, put, params, constV, List.map, List.contains_nil, Nat.reduceEqDiff, if_true, if_false, reduceCtorEq, give, gives, V.hasSl, C.isSl, V.strip, C.strip, feeds, List.append_nil, List.nil_append, Bool.false_eq_true, List.length_cons, Bool.not_false, Bool.and_true, kstrip_strip, finishR, resVs, resV, freezeVs, freezeV, freezeC, target, consOf, doCall, argsG, List.all_cons, List.all_nil, V.le, C.le, Nat.add_one_sub_one, cons_9, sealed_9, esz_43, h]

theorem pack_yes (k : K) (l : List Pg) (fr : Fr) (fs : Frames) (hm : mayL 0 l = true) :
    callE cfg 15 [.c (.sl k 1 (encL l))] (fr :: fs) = some (some (.c (.sl .own 1 (pL l))), fr :: fs) := by
  obtain ⟨hn, hg⟩ := sizes hm
  have hlen := pL_len hm
  refine callE_code (fn := Tryz.f15) (rs := [.tmp 2]) (by kernel_rfl) (by kernel_rfl) (by kernel_rfl) rfl rfl rfl (by show 1 ≤ 53; decide) ?_
  have h := may_ev k.strip l [] (fr :: fs) hn hg
  rw [hm] at h
  have h0 := put_nil 0 l.length ([] :: fr :: fs)
  simp only [resTmpsR, List.filterMap, evC_skip, evC_ret, evC_region, evC_seq, evC_cond, evC_loop, blockEx, feedL, feedOf, runL, stepW, wantedV, Ev.step, opv, ev, getT, unV, put, params, constV, keep, List.map, List.contains_nil, Bool.or_self, Nat.reduceEqDiff, if_true, if_false, reduceCtorEq, Nat.reduceBEq, give, gives, V.hasSl, C.isSl, V.strip, C.strip, feeds, List.append_nil, List.nil_append, List.contains_cons, Bool.false_eq_true, List.getElem?_toArray, List.length_cons, constC, lenV, List.getElem?_cons_zero, Bool.or_false, beq_self_eq_true, Bool.not_true, Bool.and_true, Bool.not_true, List.map_cons, kstrip_own, kstrip_nil, kstrip_strip, finishR, resVs, resV, freezeVs, freezeV, freezeC, target, consOf, doCall, argsG, List.all_cons, List.all_nil, V.le, C.le, Nat.add_one_sub_one, cons_9, sealed_9, cons_33, sealed_33, live_15_0, esz_43, und_26, encL_len, h, h0, esz0]
  let σ : Nat × List (List D) × Fr → S := fun (j, o, ob) => { m := [(3, .c (.sl .own 1 o)), (16, .c (.sl k.strip 1 (encL l))), (17, .c (.int .i64 l.length)), (18, .c (.int .i64 j))], fs := ob :: fr :: fs }
  generalize hL : loopE cfg (callE cfg) itE 15 [2] _ _ _ = out
  have hout : ∃ ex s, out = some (ex, s) ∧ ∃ ob, s.fs = ob :: fr :: fs ∧ ex = .exit 0 ∧ getT s.m 3 = .c (.sl .own 1 (pL l)) := by
    rw [← hL]
    refine loopE_inv σ (fun (j, _) => l.length - j) (fun (j, o, _) => j ≤ l.length ∧ pL l = o ++ (l.drop j).flatMap pG) (fun ex s => ∃ ob, s.fs = ob :: fr :: fs ∧ ex = .exit 0 ∧ getT s.m 3 = .c (.sl .own 1 (pL l))) (fun (j, o, ob) ⟨hj, hr⟩ => ?_) (0, put4 l.length, []) ⟨by omega, rfl⟩
    rcases Nat.lt_or_ge j l.length with hj' | hj'
    · obtain ⟨g, g0, hd⟩ := drop_get hj'
      rw [hd, List.flatMap_cons, pG] at hr
      have hgm : g ∈ l := List.mem_of_getElem? g0
      have h1 : (j : Int) < l.length := by omega
      have h2 : ((j : Int)).toNat = j := by omega
      have h3 : (0 : Int) ≤ j := by omega
      have he := encL_get g0
      have hgl := (hg g hgm).1
      have hl := congrArg List.length hr
      simp only [List.length_append, put4_len] at hl
      have h4 := put_ev .own (.inr rfl) o g.length ([] :: fr :: fs) (by omega)
      simp only [σ, evC_skip, evC_region, evC_seq, evC_cond, evC_loop, evC_bseq, blockEx, feedL, feedOf, runL, stepW, wantedV, Ev.step, opv, ev, getT, binV, intOp, strOp, put, constV, keep, List.map, List.contains_nil, Bool.or_self, Nat.reduceEqDiff, if_true, if_false, decide_true, Nat.reduceBEq, give, gives, V.hasSl, C.isSl, V.strip, C.strip, feeds, List.append_nil, List.nil_append, List.contains_cons, Bool.false_eq_true, List.getElem?_toArray, List.length_cons, constC, lenV, List.getElem?_cons_zero, Bool.or_false, beq_self_eq_true, Bool.and_true, and_self, readV, D.toC, List.drop_zero, List.map_cons, kstrip_own, kstrip_ro, Nat.lt_add_one, target, consOf, doCall, argsG, List.all_cons, List.all_nil, V.le, C.le, Nat.add_one_sub_one, cons_33, sealed_33, live_15_2, agg_42, esz_26, und_42, encL_len, encG_len, h1, h2, h3, he, h4]
      let τ : Nat × List (List D) × Fr → S := fun (i, o, ob) => { m := [(3, .c (.sl .own 1 o)), (16, .c (.sl k.strip 1 (encL l))), (17, .c (.int .i64 l.length)), (18, .c (.int .i64 j)), (26, .c (.sl .ro 1 (encG g))), (27, .c (.int .i64 g.length)), (28, .c (.int .i64 i))], fs := ob :: fr :: fs }
      generalize hL2 : loopE cfg (callE cfg) itE 15 [2] _ _ _ = out2
      have hout2 : ∃ ex s, out2 = some (ex, s) ∧ ∃ o ob, ex = .exit 2 ∧ s = τ (g.length, o, ob) ∧ pL l = o ++ (l.drop (j + 1)).flatMap pG := by
        rw [← hL2]
        refine loopE_inv τ (fun (i, _) => g.length - i) (fun (i, o, _) => i ≤ g.length ∧ pL l = o ++ ((g.drop i).flatMap pR ++ (l.drop (j + 1)).flatMap pG)) _ (fun (i, o, ob) ⟨hi, hr2⟩ => ?_) (0, o ++ put4 g.length, ob) ⟨by omega, by rw [hr]; simp only [List.append_assoc, List.drop_zero]⟩
        rcases Nat.lt_or_ge i g.length with hi' | hi'
        · obtain ⟨r, k0, kd⟩ := drop_get hi'
          rw [kd, List.flatMap_cons, pR] at hr2
          have k1 : (i : Int) < g.length := by omega
          have k2 : ((i : Int)).toNat = i := by omega
          have k3 : (0 : Int) ≤ i := by omega
          have ke := encG_get k0
          have kl := ((hg g hgm).2 r (List.mem_of_getElem? k0))
          have kl2 := congrArg List.length hr2
          simp only [List.length_append, put4_len] at kl2
          have k4 := put_ev .own (.inr rfl) o r.length ([] :: fr :: fs) (by omega)
          simp only [τ, evC_skip, evC_region, evC_seq, evC_cond, evC_loop, evC_bseq, blockEx, feedL, feedOf, runL, stepW, wantedV, Ev.step, opv, ev, getT, binV, intOp, strOp, put, constV, keep, List.map, List.contains_nil, Bool.or_self, Nat.reduceEqDiff, if_true, if_false, decide_true, Nat.reduceBEq, give, gives, V.hasSl, C.isSl, V.strip, C.strip, feeds, List.append_nil, List.nil_append, List.contains_cons, Bool.false_eq_true, List.getElem?_toArray, List.length_cons, constC, lenV, List.getElem?_cons_zero, Bool.or_false, beq_self_eq_true, Bool.and_true, and_self, readV, D.toC, List.drop_zero, List.map_cons, kstrip_own, kstrip_ro, Nat.lt_add_one, target, consOf, doCall, argsG, List.all_cons, List.all_nil, V.le, C.le, Nat.add_one_sub_one, cons_33, sealed_33, live_15_4, agg_39, esz_42, und_39, encR_len, encG_len, k1, k2, k3, ke, k4]
          let υ : Nat × List (List D) × Fr → S := fun (p, o, ob) => { m := [(3, .c (.sl .own 1 o)), (16, .c (.sl k.strip 1 (encL l))), (17, .c (.int .i64 l.length)), (18, .c (.int .i64 j)), (26, .c (.sl .ro 1 (encG g))), (27, .c (.int .i64 g.length)), (28, .c (.int .i64 i)), (36, .c (.sl .ro 2 (encR r))), (37, .c (.int .i64 r.length)), (38, .c (.int .i64 p))], fs := ob :: fr :: fs }
          generalize hL3 : loopE cfg (callE cfg) itE 15 [2] _ _ _ = out3
          have hout3 : ∃ ex s, out3 = some (ex, s) ∧ ∃ o ob, ex = .exit 4 ∧ s = υ (r.length, o, ob) ∧ pL l = o ++ ((g.drop (i + 1)).flatMap pR ++ (l.drop (j + 1)).flatMap pG) := by
            rw [← hL3]
            refine loopE_inv υ (fun (p, _) => r.length - p) (fun (p, o, _) => p ≤ r.length ∧ pL l = o ++ ((r.drop p).flatMap pP ++ ((g.drop (i + 1)).flatMap pR ++ (l.drop (j + 1)).flatMap pG))) _ (fun (p, o, ob) ⟨hp, hr3⟩ => ?_) (0, o ++ put4 r.length, ob) ⟨by omega, by rw [hr2]; simp only [List.append_assoc, List.drop_zero]⟩
            rcases Nat.lt_or_ge p r.length with hp' | hp'
            · obtain ⟨q, m0, md⟩ := drop_get hp'
              rw [md, List.flatMap_cons, pP] at hr3
              have m1 : (p : Int) < r.length := by omega
              have m2 : ((p : Int)).toNat = p := by omega
              have m3 : (0 : Int) ≤ p := by omega
              have me := encR_get m0
              have m7 : IntKind.i64.wrap ((p : Int) + 1) = ((p + 1 : Nat) : Int) := by rw [wrap64] <;> omega
              have ml2 := congrArg List.length hr3
              simp only [List.length_append, put4_len] at ml2
              have m4 := put_ev .own (.inr rfl) o q.1 ([] :: fr :: fs) (by omega)
              have m5 := put_ev .own (.inr rfl) (o ++ put4 q.1) q.2 ([] :: fr :: fs) (by simp only [List.length_append, put4_len]; omega)
              simp only [υ, evC_skip, evC_region, evC_draw, evC_seq, evC_cond, evC_bseq, blockEx, feedL, feedOf, runL, stepW, wantedV, Ev.step, opv, ev, getT, binV, intOp, put, constV, List.map, List.contains_nil, Bool.or_self, Nat.reduceEqDiff, if_true, if_false, decide_true, reduceCtorEq, Nat.reduceBEq, give, gives, V.hasSl, C.isSl, V.strip, C.strip, feeds, List.append_nil, List.nil_append, List.contains_cons, Bool.false_eq_true, List.length_cons, constC, List.getElem?_cons_zero, List.getElem?_cons_succ, Bool.or_false, beq_self_eq_true, Bool.not_true, Bool.and_false, Bool.and_true, and_self, Nat.lt_irrefl, readV, D.toC, List.drop_zero, V.cells, List.length_nil, Nat.zero_add, cfg_esc, List.drop_succ_cons, List.take_succ_cons, List.take_zero, Bool.not_true, List.map_cons, kstrip_own, Nat.zero_lt_succ, Nat.reduceAdd, Nat.reduceLeDiff, target, consOf, doCall, argsG, List.all_cons, List.all_nil, V.le, C.le, C.leL, Ev.newObj, Ev.look, Ev.setF, Ev.setRange, List.getElem?_append, List.cons_append, Nat.add_one_sub_one, Nat.sub_self, cons_33, sealed_33, strict_15_15, sz_41, agg_3, agg_41, esz_39, lay_41, zero_41, encR_len, m1, m2, m3, me, m7, m4, m5, Nat.sub_self, set_last]
              refine ⟨_, rfl, ?_⟩
              exact Round.again (p + 1, o ++ put4 q.1 ++ put4 q.2, ob ++ [[.int .i64 q.1, .int .i64 q.2]]) rfl ⟨by omega, by rw [hr3]; simp only [List.append_assoc]⟩ (by simp only; omega)
            · have m1 : ¬((p : Int) < r.length) := by omega
              rw [List.drop_eq_nil_of_le hp'] at hr3
              obtain rfl : p = r.length := by omega
              simp only [υ, evC_exit, evC_region, evC_seq, evC_cond, runL, stepW, wantedV, Ev.step, opv, ev, getT, binV, intOp, put, Nat.reduceEqDiff, if_true, if_false, decide_false, Nat.sub_self, m1]
              refine ⟨_, rfl, ?_⟩
              exact Round.out ⟨o, ob, rfl, rfl, hr3⟩
          have k7 : IntKind.i64.wrap ((i : Int) + 1) = ((i + 1 : Nat) : Int) := by rw [wrap64] <;> omega
          obtain ⟨ex, ⟨mm, fs'⟩, q1, o, ob, rfl, q2, q3⟩ := hout3
          simp only [q1, q2, υ, getT, Nat.reduceEqDiff, if_true, if_false, k7]
          refine ⟨_, rfl, ?_⟩
          exact Round.again (i + 1, o, ob) rfl ⟨by omega, q3⟩ (by simp only; omega)
        · have k1 : ¬((i : Int) < g.length) := by omega
          rw [List.drop_eq_nil_of_le hi'] at hr2
          obtain rfl : i = g.length := by omega
          simp only [τ, evC_exit, evC_region, evC_seq, evC_cond, runL, stepW, wantedV, Ev.step, opv, ev, getT, binV, intOp, put, Nat.reduceEqDiff, if_true, if_false, decide_false, Nat.sub_self, k1]
          refine ⟨_, rfl, ?_⟩
          exact Round.out ⟨o, ob, rfl, rfl, hr2⟩
      have h7 : IntKind.i64.wrap ((j : Int) + 1) = ((j + 1 : Nat) : Int) := by rw [wrap64] <;> omega
      obtain ⟨ex, ⟨mm, fs'⟩, q1, o, ob, rfl, q2, q3⟩ := hout2
      simp only [q1, q2, τ, getT, Nat.reduceEqDiff, if_true, if_false, h7]
      refine ⟨_, rfl, ?_⟩
      exact Round.again (j + 1, o, ob) rfl ⟨by omega, q3⟩ (by simp only; omega)
    · have h1 : ¬((j : Int) < l.length) := by omega
      rw [List.drop_eq_nil_of_le hj'] at hr
      simp only [List.flatMap_nil, List.append_nil] at hr
      simp only [σ, evC_exit, evC_region, evC_seq, evC_cond, runL, stepW, wantedV, Ev.step, opv, ev, getT, binV, intOp, put, Nat.reduceEqDiff, if_true, if_false, decide_false, h1]
      refine ⟨_, rfl, ?_⟩
      exact Round.out ⟨ob, rfl, rfl, by rw [hr]; rfl⟩
  obtain ⟨ex, ⟨m, fs'⟩, h1, ob, h2, rfl, h4⟩ := hout
  simp only at h2 h4
  subst h2
  rw [h1]
  simp only [getT, Nat.reduceEqDiff, if_true, if_false, kstrip_own, h4]

end Go.Proofs.YtbfllngekcckeaaGreatDoor
