/- TextBlanks, of whatever polygons and places. -/
import Derived.Test.YtbfllngekcckeaaDoorEvF13
import Derived.Test.YtbfllngekcckeaaDoorEvF26
import Derived.Test.YtbfllngekcckeaaDoorEvF32
namespace Go.Proofs.YtbfllngekcckeaaDoor
open Go.Ev
set_option linter.unusedSimpArgs false
set_option linter.unusedVariables false
set_option maxHeartbeats 1000000
set_option maxRecDepth 4000

theorem cut_parts {t : List UInt8} {n : Nat} (h : n < t.length) : ∃ A u B, A.length = n ∧ t = A ++ u :: B ∧ t[n]? = some u ∧ cut 0 n t = A ∧ cut n (n + 1) t = [u] ∧ cut (n + 1) t.length t = B ∧ t.take n ++ [32] ++ (t.drop n).take 1 ++ [32, 32] ++ t.drop (n + 1) = A ++ [32] ++ [u] ++ [32, 32] ++ B := by
  have e := List.drop_eq_getElem_cons h
  have e1 : (t.drop n).take 1 = [t[n]] := by rw [e]; rfl
  refine ⟨t.take n, t[n], t.drop (n + 1), by simp; omega, by rw [← e, List.take_append_drop], List.getElem?_eq_getElem h, by simp [cut], ?_, ?_, ?_⟩
  · show (t.drop n).take (n + 1 - n) = _
    rw [show n + 1 - n = 1 by omega, e1]
  · show (t.drop (n + 1)).take (t.length - (n + 1)) = _
    rw [List.take_of_length_le (by simp)]
  · rw [e1]

theorem ne_u8 (u : UInt8) (c : Nat) (hc : c < 256) : ((u.toNat : Int) != (c : Int)) = !(u == UInt8.ofNat c) := by
  rw [Bool.eq_iff_iff]
  simp only [bne_iff_ne, ne_eq, Bool.not_eq_true', beq_eq_false_iff_ne]
  constructor
  · rintro h rfl
    apply h
    rw [UInt8.toNat_ofNat']
    omega
  · intro h h'
    apply h
    apply UInt8.toNat_inj.1
    rw [UInt8.toNat_ofNat']
    omega

theorem toldZ_bad (z : Nat) (k : K) (l : List Pg) : toldZ z k l true = .tup [.c (.sl .nil 1 []), .c (.int .i64 200)] := rfl
theorem toldZ_ok (z : Nat) (k : K) (l : List Pg) (h : mayL 0 l = true) : toldZ z k l false = .tup [.c (.sl k.strip z (encL l)), .c (.int .i64 0)] := by
  unfold toldZ
  rw [h]

theorem blank_none {k : Int} {t : List UInt8} (h : ¬(0 ≤ k ∧ k < t.length ∧ brk t[k.toNat]? = true)) : blank1 k t = t := if_neg h
theorem blank_some {n : Nat} {t : List UInt8} (h : n < t.length) (hb : brk t[n]? = true) : blank1 n t = t.take n ++ [32] ++ (t.drop n).take 1 ++ [32, 32] ++ t.drop (n + 1) := by
  unfold blank1
  rw [if_pos ⟨by omega, by omega, by rw [Int.toNat_natCast]; exact hb⟩, Int.toNat_natCast]

theorem textBlanks_ev (k k' : K) (l : List Pg) (ks : List Int) (hs : Small l) (hks : ∀ x ∈ ks, -9223372036854775808 ≤ x ∧ x ≤ 9223372036854775807) (hn : ks.length < 9223372036854775807) :
    callE cfg 5 [.c (.sl k 1 (encL l)), .c (.sl k' 1 (encN ks))] [[], []] = some (some (.c (.bool true)), [[], []]) := by
  refine callE_code (fn := Tryd.f5) (rs := [.tmp 4]) (by kernel_rfl) (by kernel_rfl) (by kernel_rfl) rfl rfl rfl (by show 2 ≤ 119; decide) ?_
  have h1 := few_ev k.strip l [] [[], []] hs.len hs.parts
  have h2 := refmay_ev k.strip l [] [[], []] hs.len hs.parts
  have ha := alive_ev
  cases f1 : fewL 0 l
  · rw [f1] at h1
    simp only [resTmpsR, List.filterMap, evC_ret, evC_region, evC_seq, evC_cond, feedL, feedOf, runL, stepW, wantedV, Ev.step, opv, ev, getT, unV, put, params, constV, List.map, List.contains_nil, Nat.reduceEqDiff, if_true, if_false, reduceCtorEq, give, gives, V.hasSl, C.isSl, V.strip, C.strip, feeds, List.append_nil, List.nil_append, Bool.false_eq_true, List.getElem?_toArray, List.length_cons, constC, List.getElem?_cons_zero, List.getElem?_cons_succ, Bool.not_false, Bool.and_true, List.length_nil, Nat.zero_add, Option.bind_some, bb_tf, kstrip_strip, Nat.reduceAdd, finishR, resVs, resV, freezeVs, freezeV, freezeC, target, consOf, doCall, argsG, List.all_cons, List.all_nil, V.le, C.le, pickV, Nat.add_one_sub_one, cons_7, sealed_7, cons_8, sealed_8, cons_12, h1, ha]
  rw [f1] at h1
  cases m1 : mayL 0 l
  · rw [m1] at h2
    simp only [resTmpsR, List.filterMap, evC_ret, evC_region, evC_seq, evC_cond, feedL, feedOf, runL, stepW, wantedV, Ev.step, opv, ev, getT, unV, put, params, constV, List.map, List.contains_nil, Nat.reduceEqDiff, if_true, if_false, reduceCtorEq, give, gives, V.hasSl, C.isSl, V.strip, C.strip, feeds, List.append_nil, List.nil_append, Bool.false_eq_true, List.getElem?_toArray, List.length_cons, constC, List.getElem?_cons_zero, List.getElem?_cons_succ, beq_self_eq_true, Bool.not_true, Bool.not_false, Bool.and_true, List.length_nil, Nat.zero_add, Option.bind_some, Bool.not_true, bb_tf, cond_false, kstrip_strip, Nat.reduceAdd, finishR, resVs, resV, freezeVs, freezeV, freezeC, target, consOf, doCall, argsG, List.all_cons, List.all_nil, V.le, C.le, pickV, Nat.add_one_sub_one, cons_7, sealed_7, cons_8, sealed_8, cons_12, sealed_12, h1, h2, ha]
  rw [m1] at h2
  by_cases hk : ks.length > 30
  · have d1 : ((ks.length : Int) > 30) := by omega
    simp only [resTmpsR, List.filterMap, evC_ret, evC_region, evC_seq, evC_cond, feedL, feedOf, runL, stepW, wantedV, Ev.step, opv, ev, getT, binV, intOp, unV, put, params, constV, List.map, List.contains_nil, Nat.reduceEqDiff, if_true, if_false, decide_true, reduceCtorEq, give, gives, V.hasSl, C.isSl, V.strip, C.strip, feeds, List.append_nil, List.nil_append, Bool.false_eq_true, List.getElem?_toArray, List.length_cons, constC, lenV, List.getElem?_cons_zero, List.getElem?_cons_succ, beq_self_eq_true, Bool.not_true, Bool.and_true, List.length_nil, Nat.zero_add, Option.bind_some, Bool.not_true, cond_false, kstrip_strip, Nat.reduceAdd, finishR, resVs, resV, freezeVs, freezeV, freezeC, target, consOf, doCall, argsG, List.all_cons, List.all_nil, V.le, C.le, Nat.add_one_sub_one, cons_7, sealed_7, cons_8, sealed_8, cons_12, sealed_12, und_38, h1, h2, ha, encN_len, d1]
  have d1 : ¬((ks.length : Int) > 30) := by omega
  have hw := refwrite_yes k.strip l [] [[], []] m1
  have hlen := wL_len f1
  have hgood := (mayL_good 0 l (by omega) m1).2.1
  simp only [resTmpsR, List.filterMap, evC_skip, evC_ret, evC_region, evC_seq, evC_cond, evC_loop, blockEx, feedL, feedOf, runL, stepW, wantedV, Ev.step, opv, ev, getT, isLit, binV, intOp, strOp, unV, litKind, eqV, put, params, constV, keep, List.map, List.contains_nil, Bool.or_self, Nat.reduceEqDiff, if_true, if_false, decide_false, reduceCtorEq, Nat.reduceBEq, give, gives, V.hasSl, C.isSl, V.strip, C.strip, feeds, List.append_nil, List.nil_append, List.contains_cons, Bool.false_eq_true, List.getElem?_toArray, List.length_cons, constC, lenV, List.getElem?_cons_zero, List.getElem?_cons_succ, Bool.or_false, Bool.or_true, beq_self_eq_true, Bool.not_true, Bool.and_true, List.length_nil, Nat.zero_add, Option.bind_some, Bool.not_true, cond_false, List.map_cons, kstrip_strip, Nat.reduceAdd, finishR, resVs, resV, freezeVs, freezeV, freezeC, target, consOf, doCall, argsG, List.all_cons, List.all_nil, V.le, C.le, pickV, Nat.add_one_sub_one, cons_7, sealed_7, cons_8, sealed_8, cons_12, sealed_12, cons_14, sealed_14, cons_15, sealed_15, cons_17, sealed_17, cons_18, sealed_18, live_5_0, und_38, h1, h2, encN_len, d1, hw]
  let σ : Nat × List UInt8 → S := fun (i, t) => { m := [(0, .c (.sl k 1 (encL l))), (5, .c (.str (wL l))), (6, .c (.str t)), (32, .c (.sl k'.strip 1 (encN ks))), (33, .c (.int .i64 ks.length)), (34, .c (.int .i64 i))], fs := [[], [], []] }
  generalize hL : loopE cfg (callE cfg) itE 5 [4] _ _ _ = out
  have hout : ∃ ex s, out = some (ex, s) ∧ ex = .exit 0 ∧ s = σ (ks.length, blankL ks (wL l)) := by
    rw [← hL]
    refine loopE_inv σ (fun (i, _) => ks.length - i) (fun (i, t) => i ≤ ks.length ∧ blankL ks (wL l) = blankL (ks.drop i) t ∧ t.length ≤ 200000000 + 3 * i) (fun ex s => ex = .exit 0 ∧ s = σ (ks.length, blankL ks (wL l))) (fun (i, t) ⟨hi, ht, htl⟩ => ?_) (0, _) ⟨Nat.zero_le _, rfl, by simpa using hlen⟩
    rcases Nat.lt_or_ge i ks.length with hi' | hi'
    · obtain ⟨x, g0, hd⟩ := drop_get hi'
      rw [hd, blankL] at ht
      have hx := hks x (List.mem_of_getElem? g0)
      have e1 : (i : Int) < ks.length := by omega
      have e2 : ((i : Int)).toNat = i := by omega
      have e3 : (0 : Int) ≤ i := by omega
      have he := encN_get g0
      have hw' : IntKind.i64.wrap ((i : Int) + 1) = ((i + 1 : Nat) : Int) := by rw [wrap64] <;> omega
      by_cases c1 : x < 0
      · rw [blank_none (by omega)] at ht
        simp only [σ, evC_skip, evC_exit, evC_region, evC_seq, evC_cond, evC_bseq, blockEx, feedL, feedOf, runL, stepW, wantedV, Ev.step, opv, ev, getT, binV, intOp, put, constV, List.map, List.contains_nil, Nat.reduceEqDiff, if_true, if_false, decide_true, reduceCtorEq, give, V.hasSl, C.isSl, V.strip, C.strip, feeds, List.append_nil, Bool.false_eq_true, List.getElem?_toArray, constC, List.getElem?_cons_zero, List.getElem?_cons_succ, and_self, readV, D.toC, List.drop_zero, Option.bind_some, bb_tf, List.map_cons, Nat.lt_add_one, pickV, agg_3, esz_38, encN_len, e1, e2, e3, he, c1, hw']
        refine ⟨_, rfl, ?_⟩
        exact Round.again (i + 1, t) rfl ⟨by omega, ht, by simp only; omega⟩ (by simp only; omega)
      by_cases c2 : x ≥ t.length
      · rw [blank_none (by omega)] at ht
        simp only [σ, evC_skip, evC_exit, evC_region, evC_seq, evC_cond, evC_bseq, blockEx, feedL, feedOf, runL, stepW, wantedV, Ev.step, opv, ev, getT, binV, intOp, put, constV, List.map, List.contains_nil, Nat.reduceEqDiff, if_true, if_false, decide_true, decide_false, reduceCtorEq, give, V.hasSl, C.isSl, V.strip, C.strip, feeds, List.append_nil, Bool.false_eq_true, List.getElem?_toArray, constC, lenV, List.getElem?_cons_zero, List.getElem?_cons_succ, beq_self_eq_true, and_self, readV, D.toC, List.drop_zero, Option.bind_some, bb_tf, cond_false, List.map_cons, Nat.lt_add_one, pickV, agg_3, esz_38, und_9, encN_len, e1, e2, e3, he, c1, c2, hw']
        refine ⟨_, rfl, ?_⟩
        exact Round.again (i + 1, t) rfl ⟨by omega, ht, by simp only; omega⟩ (by simp only; omega)
      obtain ⟨n, rfl⟩ := Int.eq_ofNat_of_zero_le (show 0 ≤ x by omega)
      have hnt : n < t.length := by omega
      obtain ⟨A, u, B, pA, pt, pu, cA, cB, cC, hbl⟩ := cut_parts hnt
      have hAB : t.length = n + 1 + B.length := by rw [pt]; simp only [List.length_append, List.length_cons, pA]; omega
      have n0 : (0 : Int) ≤ (n : Int) := by omega
      have n1 : ((n : Int)).toNat = n := by omega
      have n2 : IntKind.i64.wrap ((n : Int) + 1) = ((n + 1 : Nat) : Int) := by rw [wrap64] <;> omega
      have n3 : (0 : Int) ≤ ((n + 1 : Nat) : Int) := by omega
      have n4 : (n : Int) ≤ (t.length : Int) := by omega
      have n5 : ((n + 1 : Nat) : Int) ≤ (t.length : Int) := by omega
      have n6 : (n : Int) ≤ ((n + 1 : Nat) : Int) := by omega
      have n7 : (((n + 1 : Nat) : Int)).toNat = n + 1 := by omega
      have n8 : (0 : Int) ≤ (t.length : Int) := by omega
      have s1 : A.length + 1 ≤ 9223372036854775807 := by omega
      have s2 : A.length + 1 + 1 ≤ 9223372036854775807 := by omega
      have s3 : A.length + 1 + 1 + 2 ≤ 9223372036854775807 := by omega
      have s4 : A.length + 1 + 1 + 2 + B.length ≤ 9223372036854775807 := by omega
      have w1 : ((41 : UInt8) == 40) = false := rfl
      have w2 : ((44 : UInt8) == 40) = false := rfl
      have w3 : ((44 : UInt8) == 41) = false := rfl
      have b1 : ((u.toNat : Int) != 40) = !(u == 40) := ne_u8 u 40 (by omega)
      have b2 : ((u.toNat : Int) != 41) = !(u == 41) := ne_u8 u 41 (by omega)
      have b3 : ((u.toNat : Int) != 44) = !(u == 44) := ne_u8 u 44 (by omega)
      by_cases hb : brk t[n]? = true
      · rw [blank_some hnt hb, hbl] at ht
        rw [pu] at hb
        have hb' : u = 40 ∨ u = 41 ∨ u = 44 := by simpa [brk, or_assoc] using hb
        have fin : ∀ s, (∃ s', some (Ex.normal, s) = some (Ex.normal, s') ∧ keep (cfg.live 5 0) s' = σ (i + 1, A ++ [32] ++ [u] ++ [32, 32] ++ B)) → True := fun _ _ => trivial
        rcases hb' with rfl | rfl | rfl
        all_goals
          simp only [σ, evC_skip, evC_region, evC_draw, evC_seq, evC_cond, evC_bseq, blockEx, feedL, feedOf, runL, stepW, wantedV, Ev.step, opv, ev, getT, binV, intOp, strOp, put, constV, List.map, List.contains_nil, Bool.or_self, Nat.reduceEqDiff, if_true, if_false, decide_true, decide_false, reduceCtorEq, Nat.reduceBEq, give, V.hasSl, C.isSl, V.strip, C.strip, feeds, List.append_nil, List.contains_cons, Bool.false_eq_true, List.getElem?_toArray, List.length_cons, constC, lenV, List.getElem?_cons_zero, List.getElem?_cons_succ, beq_self_eq_true, Bool.not_true, Bool.not_false, and_self, readV, D.toC, List.drop_zero, List.length_nil, Nat.zero_add, Option.bind_some, Bool.not_true, bb_ft, cond_true, cond_false, List.map_cons, Nat.lt_add_one, Nat.reduceAdd, sliceV, boundV, asNat, pickV, Int.reduceToNat, Int.toNat_natCast, Option.map_some, Option.map_none, Int.le_refl, agg_3, esz_38, und_9, encN_len, e1, e2, e3, he, c1, c2, hw', pu, n0, n1, n2, n3, n4, n5, n6, n7, n8, s1, s2, s3, s4, b1, b2, b3, cA, cB, cC, List.length_append, w1, w2, w3]
          refine ⟨_, rfl, ?_⟩
          exact Round.again (i + 1, _) rfl ⟨by omega, ht, by simp only [List.length_append, List.length_cons, List.length_nil]; omega⟩ (by simp only; omega)
      · rw [blank_none (by rw [Int.toNat_natCast]; exact fun h => hb h.2.2)] at ht
        rw [pu] at hb
        have hb' : (u == 40) = false ∧ (u == 41) = false ∧ (u == 44) = false := by simpa [brk, and_assoc] using hb
        obtain ⟨b4, b5, b6⟩ := hb'
        simp only [σ, evC_skip, evC_exit, evC_region, evC_seq, evC_cond, evC_bseq, blockEx, feedL, feedOf, runL, stepW, wantedV, Ev.step, opv, ev, getT, binV, intOp, put, constV, List.map, List.contains_nil, Nat.reduceEqDiff, if_true, if_false, decide_true, decide_false, reduceCtorEq, give, V.hasSl, C.isSl, V.strip, C.strip, feeds, List.append_nil, Bool.false_eq_true, List.getElem?_toArray, constC, lenV, List.getElem?_cons_zero, List.getElem?_cons_succ, beq_self_eq_true, Bool.not_false, and_self, readV, D.toC, List.drop_zero, Option.bind_some, cond_true, cond_false, List.map_cons, Nat.lt_add_one, agg_3, esz_38, und_9, encN_len, e1, e2, e3, he, c1, c2, hw', pu, n0, n1, b1, b2, b3, b4, b5, b6]
        refine ⟨_, rfl, ?_⟩
        exact Round.again (i + 1, t) rfl ⟨by omega, ht, by simp only; omega⟩ (by simp only; omega)
    · have e1 : ¬((i : Int) < ks.length) := by omega
      rw [List.drop_eq_nil_of_le hi', blankL] at ht
      obtain rfl : i = ks.length := by omega
      simp only [σ, evC_exit, evC_region, evC_seq, evC_cond, runL, stepW, wantedV, Ev.step, opv, ev, getT, binV, intOp, put, Nat.reduceEqDiff, if_true, if_false, decide_false, reduceCtorEq, Nat.sub_self, e1]
      refine ⟨_, rfl, ?_⟩
      exact Round.out ⟨rfl, by rw [ht]; rfl⟩
  obtain ⟨ex, s, q1, rfl, rfl⟩ := hout
  have blen := blankL_len ks (wL l)
  have low := wL_low hgood
  have blow := blankL_mem (P := fun b => b.toNat < 128) (by decide) ks (wL l) low
  have hsig : signsF [] (wL l) = lT l := by
    have := signsT_wL hgood [] (.inl rfl)
    simpa [signsF] using this
  have bsig := blankL_signs ks (wL l)
  generalize blankL ks (wL l) = t at q1 blen blow bsig
  have r1 : readB (signsF [] ([32] ++ t ++ [32])) = (l, false) := by
    rw [signsF_snoc]
    show readB (signsF [] (32 :: t)) = _
    rw [signsT_b, bsig, hsig, read_put l hgood]
  have r2 : (readB (signsF [] (wL l ++ [41]))).2 = true := by
    rw [signsT_wL hgood [41] (.inr ⟨41, [], rfl, by simp⟩)]
    exact read_behind l hgood [41]
  have r3 : (readB (signsF [] (wL l ++ [32, 48]))).2 = true := by
    rw [signsT_wL hgood [32, 48] (.inr ⟨32, [48], rfl, by simp⟩)]
    exact read_behind l hgood [48]
  obtain ⟨z1, k1, hz1, e1⟩ := read_ev ([32] ++ t ++ [32]) [] [[], []] (all_low (by
    intro b hb
    simp only [List.mem_append, List.mem_singleton] at hb
    rcases hb with (rfl | hb) | rfl
    · decide
    · exact blow b hb
    · decide)) (by simp only [List.length_append, List.length_cons, List.length_nil]; omega)
  obtain ⟨z2, k2, hz2, e2⟩ := read_ev (wL l ++ [41]) [] [[], []] (all_low (by
    intro b hb
    simp only [List.mem_append, List.mem_singleton] at hb
    rcases hb with hb | rfl
    · exact low b hb
    · decide)) (by simp only [List.length_append, List.length_cons, List.length_nil]; omega)
  obtain ⟨z3, k3, hz3, e3⟩ := read_ev (wL l ++ [32, 48]) [] [[], []] (all_low (by
    intro b hb
    simp only [List.mem_append, List.mem_cons, List.not_mem_nil, or_false] at hb
    rcases hb with hb | rfl | rfl
    · exact low b hb
    · decide
    · decide)) (by simp only [List.length_append, List.length_cons, List.length_nil]; omega)
  rw [r1] at e1 hz1
  rw [r2, toldZ_bad] at e2
  rw [r3, toldZ_bad] at e3
  rw [toldZ_ok _ _ _ m1] at e1
  have hold : ∃ kk, callE cfg 15 [.c (.sl k1.strip z1 (encL l))] [[], [], []] = some (some (.c (.sl kk 1 (encL l))), [[], [], []]) := by
    rcases hz1 with rfl | ⟨rfl, rfl, h⟩
    · exact ⟨_, old_ev _ (encL l) [[], [], []] (fun e he => by
        obtain ⟨g, _, rfl⟩ := List.mem_map.1 he
        exact ⟨_, rfl⟩) (by rw [encL_len]; have := fewL_len 0 l f1; omega)⟩
    · simp only at h
      rw [h]
      exact ⟨_, old0_ev [] [[], []]⟩
  obtain ⟨kk, hold⟩ := hold
  have hsame := same_ev kk.strip k.strip l l [] [[], []] hs hs
  simp only [decide_true] at hsame
  have x1 : 1 + t.length ≤ 9223372036854775807 := by omega
  have x2 : 1 + t.length + 1 ≤ 9223372036854775807 := by omega
  have x3 : (wL l).length + 1 ≤ 9223372036854775807 := by omega
  have x4 : (wL l).length + 2 ≤ 9223372036854775807 := by omega
  have x5 : t.length ≤ 9223372036854775805 := by omega
  have x6 : (wL l).length ≤ 9223372036854775806 := by omega
  have x7 : (wL l).length ≤ 9223372036854775805 := by omega
  simp only [List.cons_append, List.nil_append] at e1
  simp only [q1, σ, getT, Nat.reduceEqDiff, if_true, if_false, reduceCtorEq, List.nil_append, Bool.false_eq_true, List.length_cons, List.getElem?_cons_zero, List.getElem?_cons_succ, beq_self_eq_true, Bool.and_true, List.length_nil, Nat.zero_add, cond_true, kstrip_nil, kstrip_strip, Nat.reduceAdd, Nat.reduceLeDiff, C.le, List.cons_append, x1, x3, x4, x5, e1, e2, e3, ha, hold, hsame, kstrip_strip]

end Go.Proofs.YtbfllngekcckeaaDoor
