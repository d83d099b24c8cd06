/- TextWrites, of whatever polygons (numbers of the seat ZD). -/
import Derived.Test.YtbfllngekcckeaaGreatDoorEvF13
import Derived.Test.YtbfllngekcckeaaGreatDoorEvF21
import Derived.Test.YtbfllngekcckeaaGreatDoorEvF26
import Derived.Test.YtbfllngekcckeaaGreatDoorEvF32
import Derived.Test.YtbfllngekcckeaaGreatDoorEvF34
namespace Go.Proofs.YtbfllngekcckeaaGreatDoor
open Go.Ev
set_option linter.unusedSimpArgs false
set_option linter.unusedVariables false
set_option maxHeartbeats 1000000
set_option maxRecDepth 4000

theorem toldZ_ok (z : Nat) (k : K) (l : List Pg) (h : mayL 0 l = true) : toldZ z k l false = .tup [.c (.sl k.strip z (encL l)), .c (.int .i64 0)] := by
  unfold toldZ
  rw [h]

theorem textWrites_ev (k k' : K) (a b : List Pg) (hs : Small a) (hs' : Small b) : callE cfg 3 [.c (.sl k 1 (encL a)), .c (.sl k' 1 (encL b))] [[], []] = some (some (.c (.bool true)), [[], []]) := by
  refine callE_code (fn := Tryz.f3) (rs := [.tmp 4]) (by kernel_rfl) (by kernel_rfl) (by kernel_rfl) rfl rfl rfl (by show 2 ≤ 67; decide) ?_
  have h1 := few_ev k.strip a [] [[], []] hs.len hs.parts
  have h2 := few_ev k'.strip b [] [[], []] hs'.len hs'.parts
  have h3 := refmay_ev k.strip a [] [[], []] hs.len hs.parts
  have ha := alive_ev
  cases f1 : fewL 0 a
  · rw [f1] at h1
    simp only [resTmpsR, List.filterMap, evC_ret, evC_region, evC_seq, evC_cond, feedL, feedOf, runL, stepW, wantedV, Ev.step, opv, ev, getT, unV, put, params, constV, List.map, List.contains_nil, Nat.reduceEqDiff, if_true, if_false, reduceCtorEq, give, gives, V.hasSl, C.isSl, V.strip, C.strip, feeds, List.append_nil, List.nil_append, Bool.false_eq_true, List.getElem?_toArray, List.length_cons, constC, List.getElem?_cons_zero, List.getElem?_cons_succ, Bool.not_false, Bool.and_true, List.length_nil, Nat.zero_add, Option.bind_some, bb_tf, kstrip_strip, Nat.reduceAdd, finishR, resVs, resV, freezeVs, freezeV, freezeC, target, consOf, doCall, argsG, List.all_cons, List.all_nil, V.le, C.le, pickV, Nat.add_one_sub_one, cons_4, sealed_4, cons_5, sealed_5, h1, ha]
  rw [f1] at h1
  cases f2 : fewL 0 b
  · rw [f2] at h2
    simp only [resTmpsR, List.filterMap, evC_ret, evC_region, evC_seq, evC_cond, feedL, feedOf, runL, stepW, wantedV, Ev.step, opv, ev, getT, unV, put, params, constV, List.map, List.contains_nil, Nat.reduceEqDiff, if_true, if_false, reduceCtorEq, give, gives, V.hasSl, C.isSl, V.strip, C.strip, feeds, List.append_nil, List.nil_append, Bool.false_eq_true, List.getElem?_toArray, List.length_cons, constC, List.getElem?_cons_zero, List.getElem?_cons_succ, beq_self_eq_true, Bool.not_true, Bool.not_false, Bool.and_true, List.length_nil, Nat.zero_add, Option.bind_some, Bool.not_true, cond_false, kstrip_strip, Nat.reduceAdd, finishR, resVs, resV, freezeVs, freezeV, freezeC, target, consOf, doCall, argsG, List.all_cons, List.all_nil, V.le, C.le, Nat.add_one_sub_one, cons_4, sealed_4, cons_5, sealed_5, h1, h2, ha]
  rw [f2] at h2
  have l1 := (fewL_all a 0 f1).1
  have l2 := (fewL_all b 0 f2).1
  have n1 := new_ev k.strip (encL a) [[], [], []] (fun e he => by
    obtain ⟨g, _, rfl⟩ := List.mem_map.1 he
    exact ⟨_, rfl⟩) (by rw [encL_len]; omega)
  have n2 := new_ev k'.strip (encL b) [[], [], []] (fun e he => by
    obtain ⟨g, _, rfl⟩ := List.mem_map.1 he
    exact ⟨_, rfl⟩) (by rw [encL_len]; omega)
  rw [encL_len] at n1 n2
  generalize (if a.length = 0 then K.nil else K.own) = q1 at n1
  generalize (if b.length = 0 then K.nil else K.own) = q2 at n2
  have h4 := may_ev q1.strip a [] [[], []] hs.len hs.parts
  have e1 := textsame_ev q1.strip q2.strip a b [] [[], []] hs
  have e2 := same_ev k.strip k'.strip a b [] [[], []] hs hs'
  generalize hd : decide (a = b) = d at e1 e2
  have bd : (d != d) = false := by cases d <;> rfl
  cases m1 : mayL 0 a
  · rw [m1] at h3 h4
    have w1 := write_no q1.strip a [] [[], []] hs m1
    have w2 := refwrite_no k.strip a [] [[], []] hs m1
    have c0 : ((([] : List UInt8) == []) : Bool) = true := rfl
    simp only [resTmpsR, List.filterMap, evC_skip, evC_ret, evC_region, evC_seq, evC_cond, feedL, feedOf, runL, stepW, wantedV, Ev.step, opv, ev, getT, binV, strOp, unV, litKind, eqV, put, params, constV, List.map, List.contains_nil, Bool.or_self, Nat.reduceEqDiff, if_true, if_false, reduceCtorEq, Nat.reduceBEq, give, gives, V.hasSl, C.isSl, V.strip, C.strip, feeds, List.append_nil, List.nil_append, List.contains_cons, Bool.false_eq_true, List.getElem?_toArray, List.length_cons, constC, List.getElem?_cons_zero, List.getElem?_cons_succ, Bool.or_false, beq_self_eq_true, Bool.not_true, Bool.not_false, Bool.and_true, List.length_nil, Nat.zero_add, Option.bind_some, Bool.not_true, cond_true, cond_false, kstrip_strip, Nat.reduceAdd, finishR, resVs, resV, freezeVs, freezeV, freezeC, target, consOf, doCall, argsG, List.all_cons, List.all_nil, V.le, C.le, Nat.add_one_sub_one, cons_4, sealed_4, cons_5, sealed_5, cons_6, sealed_6, cons_7, sealed_7, cons_8, sealed_8, cons_9, sealed_9, cons_10, sealed_10, cons_11, sealed_11, cons_12, sealed_12, eqk_4, h1, h2, h3, h4, n1, n2, w1, w2, e1, e2, ha]
  · rw [m1] at h3 h4
    have hgood := (mayL_good 0 a (by omega) m1).2.1
    have w1 := write_ev q1.strip a [] [[], []] m1
    have w2 := refwrite_yes k.strip a [] [[], []] m1
    have hsig : signsF [] (wL a) = lT a := by
      have := signsT_wL hgood [] (.inl rfl)
      simpa [signsF] using this
    have r1 : readB (signsF [] (wL a)) = (a, false) := by rw [hsig, read_put a hgood]
    have hlen := wL_len f1
    obtain ⟨z1, k1, hz1, e3⟩ := read_ev (wL a) [] [[], []] (all_low (wL_low hgood)) (by omega)
    rw [r1] at e3 hz1
    rw [toldZ_ok _ _ _ m1] at e3
    have hold : ∃ kk, callE cfg 14 [.c (.sl k1.strip z1 (encL a))] [[], [], []] = some (some (.c (.sl kk 1 (encL a))), [[], [], []]) := by
      rcases hz1 with rfl | ⟨rfl, rfl, h⟩
      · exact ⟨_, old_ev _ (encL a) [[], [], []] (fun e he => by
          obtain ⟨g, _, rfl⟩ := List.mem_map.1 he
          exact ⟨_, rfl⟩) (by rw [encL_len]; omega)⟩
      · simp only at h
        rw [h]
        exact ⟨_, old0_ev [] [[], []]⟩
    obtain ⟨kk, hold⟩ := hold
    have hsame := same_ev kk.strip k.strip a a [] [[], []] hs hs
    simp only [decide_true] at hsame
    have c0 : (wL a == wL a) = true := beq_self_eq_true _
    simp only [resTmpsR, List.filterMap, evC_skip, evC_ret, evC_region, evC_seq, evC_cond, feedL, feedOf, runL, stepW, wantedV, Ev.step, opv, ev, getT, binV, intOp, strOp, unV, litKind, eqV, put, params, constV, List.map, List.contains_nil, Bool.or_self, Nat.reduceEqDiff, if_true, if_false, reduceCtorEq, Nat.reduceBEq, give, gives, V.hasSl, C.isSl, V.strip, C.strip, feeds, List.append_nil, List.nil_append, List.contains_cons, Bool.false_eq_true, List.getElem?_toArray, List.length_cons, constC, List.getElem?_cons_zero, List.getElem?_cons_succ, Bool.or_false, beq_self_eq_true, Bool.not_true, Bool.and_true, List.length_nil, Nat.zero_add, Option.bind_some, Bool.not_true, cond_true, cond_false, kstrip_strip, Nat.reduceAdd, finishR, resVs, resV, freezeVs, freezeV, freezeC, target, consOf, doCall, argsG, List.all_cons, List.all_nil, V.le, C.le, Nat.add_one_sub_one, cons_4, sealed_4, cons_5, sealed_5, cons_6, sealed_6, cons_7, sealed_7, cons_8, sealed_8, cons_9, sealed_9, cons_10, sealed_10, cons_11, sealed_11, cons_12, sealed_12, cons_13, sealed_13, cons_14, sealed_14, eqk_4, h1, h2, h3, h4, n1, n2, w1, w2, e1, e2, ha, e3, hold, hsame, kstrip_strip]

end Go.Proofs.YtbfllngekcckeaaGreatDoor
