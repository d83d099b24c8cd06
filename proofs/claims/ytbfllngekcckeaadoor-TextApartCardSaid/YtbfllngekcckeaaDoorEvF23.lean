/- TextApart, of whatever polygons. -/
import Derived.Test.YtbfllngekcckeaaDoorEvF13
import Derived.Test.YtbfllngekcckeaaDoorEvF21
namespace Go.Proofs.YtbfllngekcckeaaDoor
open Go.Ev
set_option linter.unusedSimpArgs false
set_option linter.unusedVariables false
set_option maxHeartbeats 400000
set_option maxRecDepth 4000

theorem beq_inj {α β : Type} [DecidableEq α] [BEq β] [LawfulBEq β] {f : α → β} {a b : α} (h : f a = f b → a = b) : (f a == f b) = decide (a = b) := by
  by_cases e : a = b
  · subst e; simp
  · have : f a ≠ f b := fun h' => e (h h')
    simp [e, this]

theorem textApart_ev (k k' : K) (a b : List Pg) (hs : Small a) (hs' : Small b) : callE cfg 6 [.c (.sl k 1 (encL a)), .c (.sl k' 1 (encL b))] [[], []] = some (some (.c (.bool true)), [[], []]) := by
  refine callE_code (fn := Tryd.f6) (rs := [.tmp 4]) (by kernel_rfl) (by kernel_rfl) (by kernel_rfl) rfl rfl rfl (by show 2 ≤ 53; decide) ?_
  have h1 := few_ev k.strip a [] [[], []] hs.len hs.parts
  have h2 := few_ev k'.strip b [] [[], []] hs'.len hs'.parts
  have h3 := refmay_ev k.strip a [] [[], []] hs.len hs.parts
  have h4 := refmay_ev k'.strip b [] [[], []] hs'.len hs'.parts
  have ha := alive_ev
  cases f1 : fewL 0 a
  · rw [f1] at h1
    simp only [resTmpsR, List.filterMap, evC_ret, evC_region, evC_seq, evC_cond, feedL, feedOf, runL, stepW, wantedV, Ev.step, opv, ev, getT, unV, put, params, constV, List.map, List.contains_nil, Nat.reduceEqDiff, if_true, if_false, reduceCtorEq, give, gives, V.hasSl, C.isSl, V.strip, C.strip, feeds, List.append_nil, List.nil_append, Bool.false_eq_true, List.getElem?_toArray, List.length_cons, constC, List.getElem?_cons_zero, List.getElem?_cons_succ, Bool.not_false, Bool.and_true, List.length_nil, Nat.zero_add, Option.bind_some, bb_tf, kstrip_strip, Nat.reduceAdd, finishR, resVs, resV, freezeVs, freezeV, freezeC, target, consOf, doCall, argsG, List.all_cons, List.all_nil, V.le, C.le, pickV, Nat.add_one_sub_one, cons_7, sealed_7, cons_8, sealed_8, cons_12, h1, ha]
  · rw [f1] at h1
    cases f2 : fewL 0 b
    · rw [f2] at h2
      simp only [resTmpsR, List.filterMap, evC_ret, evC_region, evC_seq, evC_cond, feedL, feedOf, runL, stepW, wantedV, Ev.step, opv, ev, getT, unV, put, params, constV, List.map, List.contains_nil, Nat.reduceEqDiff, if_true, if_false, reduceCtorEq, give, gives, V.hasSl, C.isSl, V.strip, C.strip, feeds, List.append_nil, List.nil_append, Bool.false_eq_true, List.getElem?_toArray, List.length_cons, constC, List.getElem?_cons_zero, List.getElem?_cons_succ, beq_self_eq_true, Bool.not_true, Bool.not_false, Bool.and_true, List.length_nil, Nat.zero_add, Option.bind_some, Bool.not_true, bb_tf, cond_false, kstrip_strip, Nat.reduceAdd, finishR, resVs, resV, freezeVs, freezeV, freezeC, target, consOf, doCall, argsG, List.all_cons, List.all_nil, V.le, C.le, pickV, Nat.add_one_sub_one, cons_7, sealed_7, cons_8, sealed_8, cons_12, h1, h2, ha]
    · rw [f2] at h2
      cases m1 : mayL 0 a
      · rw [m1] at h3
        simp only [resTmpsR, List.filterMap, evC_ret, evC_region, evC_seq, evC_cond, feedL, feedOf, runL, stepW, wantedV, Ev.step, opv, ev, getT, unV, put, params, constV, List.map, List.contains_nil, Nat.reduceEqDiff, if_true, if_false, reduceCtorEq, give, gives, V.hasSl, C.isSl, V.strip, C.strip, feeds, List.append_nil, List.nil_append, Bool.false_eq_true, List.getElem?_toArray, List.length_cons, constC, List.getElem?_cons_zero, List.getElem?_cons_succ, beq_self_eq_true, Bool.not_true, Bool.not_false, Bool.and_true, List.length_nil, Nat.zero_add, Option.bind_some, Bool.not_true, bb_tf, cond_false, kstrip_strip, Nat.reduceAdd, finishR, resVs, resV, freezeVs, freezeV, freezeC, target, consOf, doCall, argsG, List.all_cons, List.all_nil, V.le, C.le, pickV, Nat.add_one_sub_one, cons_7, sealed_7, cons_8, sealed_8, cons_12, sealed_12, h1, h2, h3, ha]
      · rw [m1] at h3
        cases m2 : mayL 0 b
        · rw [m2] at h4
          simp only [resTmpsR, List.filterMap, evC_ret, evC_region, evC_seq, evC_cond, feedL, feedOf, runL, stepW, wantedV, Ev.step, opv, ev, getT, unV, put, params, constV, List.map, List.contains_nil, Nat.reduceEqDiff, if_true, if_false, reduceCtorEq, give, gives, V.hasSl, C.isSl, V.strip, C.strip, feeds, List.append_nil, List.nil_append, Bool.false_eq_true, List.getElem?_toArray, List.length_cons, constC, List.getElem?_cons_zero, List.getElem?_cons_succ, beq_self_eq_true, Bool.not_true, Bool.not_false, Bool.and_true, List.length_nil, Nat.zero_add, Option.bind_some, Bool.not_true, cond_false, kstrip_strip, Nat.reduceAdd, finishR, resVs, resV, freezeVs, freezeV, freezeC, target, consOf, doCall, argsG, List.all_cons, List.all_nil, V.le, C.le, Nat.add_one_sub_one, cons_7, sealed_7, cons_8, sealed_8, cons_12, sealed_12, h1, h2, h3, h4, ha]
        · rw [m2] at h4
          have l1 := fewL_len 0 a f1
          have l2 := fewL_len 0 b f2
          have n1 := new_ev k.strip (encL a) [[], [], []] (fun e he => by
            obtain ⟨g, _, rfl⟩ := List.mem_map.1 he
            exact ⟨_, rfl⟩) (by rw [encL_len]; omega)
          have n2 := new_ev k'.strip (encL b) [[], [], []] (fun e he => by
            obtain ⟨g, _, rfl⟩ := List.mem_map.1 he
            exact ⟨_, rfl⟩) (by rw [encL_len]; omega)
          rw [encL_len] at n1 n2
          generalize (if a.length = 0 then K.nil else K.own) = q1 at n1
          generalize (if b.length = 0 then K.nil else K.own) = q2 at n2
          have w1 := write_ev q1.strip a [] [[], []] m1
          have w2 := write_ev q2.strip b [] [[], []] m2
          have p1 := pack_yes q1.strip a [] [[], []] m1
          have p2 := pack_yes q2.strip b [] [[], []] m2
          have s1 : strOf (pL a) = some (bL a) := by rw [pL_eq, strOf_bytesOf]
          have s2 : strOf (pL b) = some (bL b) := by rw [pL_eq, strOf_bytesOf]
          have e := same_ev k.strip k'.strip a b [] [[], []] hs hs'
          have i1 : (wL a == wL b) = decide (a = b) := beq_inj (f := wL) (wL_inj (mayL_good 0 a (by omega) m1).2.1 (mayL_good 0 b (by omega) m2).2.1)
          have i2 : (bL a == bL b) = decide (a = b) := beq_inj (f := bL) (bL_inj m1 m2)
          generalize hd : decide (a = b) = d at e i1 i2
          cases d <;> simp only [resTmpsR, List.filterMap, evC_skip, evC_ret, evC_region, evC_draw, evC_seq, evC_cond, feedL, feedOf, runL, stepW, wantedV, Ev.step, opv, ev, getT, binV, strOp, unV, litKind, eqV, put, params, constV, List.map, List.contains_nil, Bool.or_self, Nat.reduceEqDiff, if_true, if_false, reduceCtorEq, Nat.reduceBEq, give, gives, V.hasSl, C.isSl, V.strip, C.strip, feeds, List.append_nil, List.nil_append, List.contains_cons, Bool.false_eq_true, List.getElem?_toArray, List.length_cons, constC, List.getElem?_cons_zero, List.getElem?_cons_succ, Bool.or_false, beq_self_eq_true, Bool.not_true, Bool.and_true, List.length_nil, Nat.zero_add, Option.bind_some, Bool.not_true, cond_true, cond_false, kstrip_strip, Nat.reduceAdd, finishR, resVs, resV, freezeVs, freezeV, freezeC, convV, target, consOf, doCall, argsG, List.all_cons, List.all_nil, V.le, C.le, Nat.add_one_sub_one, cons_7, sealed_7, cons_8, sealed_8, cons_9, sealed_9, cons_10, sealed_10, cons_12, sealed_12, cons_14, sealed_14, cons_19, sealed_19, eqk_4, conv_25_9, h1, h2, h3, h4, ha, n1, n2, w1, w2, p1, p2, s1, s2, e, i1, i2]

end Go.Proofs.YtbfllngekcckeaaDoor
