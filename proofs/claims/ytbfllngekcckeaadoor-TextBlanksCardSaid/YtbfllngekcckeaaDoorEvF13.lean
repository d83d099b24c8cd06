/- TextPacks, of whatever polygons. -/
import Derived.Test.YtbfllngekcckeaaDoorEvF12
namespace Go.Proofs.YtbfllngekcckeaaDoor
open Go.Ev
set_option linter.unusedSimpArgs false
set_option linter.unusedVariables false
set_option maxHeartbeats 400000
set_option maxRecDepth 4000

theorem alive_ev : callE cfg 8 [] [[], [], []] = some (some (.c (.bool true)), [[], [], []]) := callE_at (n := 40) (by kernel_rfl)

theorem textPacks_ev (k : K) (l : List Pg) (hs : Small l) : callE cfg 3 [.c (.sl k 1 (encL l))] [[], []] = some (some (.c (.bool true)), [[], []]) := by
  refine callE_code (fn := Tryd.f3) (rs := [.tmp 2]) (by kernel_rfl) (by kernel_rfl) (by kernel_rfl) rfl rfl rfl (by show 1 ≤ 44; decide) ?_
  have h1 := few_ev k.strip l [] [[], []] hs.len hs.parts
  have ha := alive_ev
  cases hf : fewL 0 l
  · rw [hf] at h1
    simp only [resTmpsR, List.filterMap, evC_ret, evC_region, evC_seq, evC_cond, feedL, feedOf, runL, stepW, wantedV, Ev.step, opv, ev, getT, unV, put, params, constV, List.map, List.contains_nil, Nat.reduceEqDiff, if_true, if_false, reduceCtorEq, give, gives, V.hasSl, C.isSl, V.strip, C.strip, feeds, List.append_nil, List.nil_append, Bool.false_eq_true, List.length_cons, constC, Bool.not_false, Bool.and_true, List.length_nil, Nat.zero_add, kstrip_strip, Nat.reduceAdd, finishR, resVs, resV, freezeVs, freezeV, freezeC, target, consOf, doCall, argsG, List.all_cons, List.all_nil, V.le, C.le, Nat.add_one_sub_one, cons_7, sealed_7, cons_8, sealed_8, h1, ha]
  · rw [hf] at h1
    have hlen := fewL_len 0 l hf
    have h2 := new_ev k.strip (encL l) [[], [], []] (fun e he => by
      obtain ⟨g, _, rfl⟩ := List.mem_map.1 he
      exact ⟨_, rfl⟩) (by rw [encL_len]; omega)
    rw [encL_len] at h2
    generalize (if l.length = 0 then K.nil else K.own) = k2 at h2
    have h6 := refmay_ev k.strip l [] [[], []] hs.len hs.parts
    cases hm : mayL 0 l
    · rw [hm] at h6
      have h3 := pack_no k2.strip l [] [[], []] hs.len hs.parts hm
      have h4 := refpack_no k.strip l [] [[], []] hs.len hs.parts hm
      have z : (((0 : Nat) : Int) == 0) = true := rfl
      simp only [resTmpsR, List.filterMap, evC_skip, evC_ret, evC_region, evC_draw, evC_seq, evC_cond, feedL, feedOf, runL, stepW, wantedV, Ev.step, opv, ev, getT, binV, intOp, strOp, unV, put, params, constV, List.map, List.contains_nil, Bool.or_self, Nat.reduceEqDiff, if_true, if_false, reduceCtorEq, Nat.reduceBEq, give, gives, V.hasSl, C.isSl, V.strip, C.strip, feeds, List.append_nil, List.nil_append, List.contains_cons, Bool.false_eq_true, List.getElem?_toArray, List.length_cons, constC, lenV, List.getElem?_cons_zero, List.getElem?_cons_succ, Bool.or_false, beq_self_eq_true, Bool.not_true, Bool.not_false, Bool.and_true, List.length_nil, Nat.zero_add, Option.bind_some, Bool.not_true, cond_true, kstrip_nil, kstrip_strip, Nat.reduceAdd, finishR, resVs, resV, freezeVs, freezeV, freezeC, convV, target, consOf, doCall, argsG, List.all_cons, List.all_nil, V.le, C.le, Nat.add_one_sub_one, cons_7, sealed_7, cons_8, sealed_8, cons_9, sealed_9, cons_10, sealed_10, cons_11, sealed_11, cons_12, sealed_12, conv_25_9, und_25, h1, ha, h2, h3, h4, h6, strOf, z]
    · rw [hm] at h6
      have h3 := pack_yes k2.strip l [] [[], []] hm
      have h4 := refpack_yes k.strip l [] [[], []] hm
      have h5 : strOf (pL l) = some (bL l) := by rw [pL_eq, strOf_bytesOf]
      obtain ⟨k3, h7⟩ := unpack_ev (bL l) [] [[], []] (by have := bL_len hm; omega)
      rw [polysB_put l hm, ← pL_eq] at h7
      have h8 : leftB ([], false) = false := rfl
      simp only [h8, toldV, hm] at h7
      have h9 := old_ev k3.strip (encL l) [[], [], []] (fun e he => by
        obtain ⟨g, _, rfl⟩ := List.mem_map.1 he
        exact ⟨_, rfl⟩) (by rw [encL_len]; omega)
      rw [encL_len] at h9
      generalize (if l.length = 0 then K.nil else K.own) = k4 at h9
      have h10 := same_ev k4.strip k.strip l l [] [[], []] hs hs
      have h11 : decide (l = l) = true := by simp
      rw [h11] at h10
      simp only [resTmpsR, List.filterMap, evC_skip, evC_ret, evC_region, evC_draw, evC_seq, evC_cond, feedL, feedOf, runL, stepW, wantedV, Ev.step, opv, ev, getT, binV, intOp, strOp, unV, put, params, constV, List.map, List.contains_nil, Bool.or_self, Nat.reduceEqDiff, if_true, if_false, reduceCtorEq, Nat.reduceBEq, give, gives, V.hasSl, C.isSl, V.strip, C.strip, feeds, List.append_nil, List.nil_append, List.contains_cons, Bool.false_eq_true, List.getElem?_toArray, List.length_cons, constC, List.getElem?_cons_zero, List.getElem?_cons_succ, Bool.or_false, beq_self_eq_true, Bool.not_true, Bool.and_true, List.length_nil, Nat.zero_add, Option.bind_some, Bool.not_true, cond_true, kstrip_own, kstrip_ro, kstrip_strip, Nat.reduceAdd, finishR, resVs, resV, freezeVs, freezeV, freezeC, convV, target, consOf, doCall, argsG, List.all_cons, List.all_nil, V.le, C.le, Nat.add_one_sub_one, cons_7, sealed_7, cons_8, sealed_8, cons_9, sealed_9, cons_10, sealed_10, cons_11, sealed_11, cons_12, sealed_12, cons_13, sealed_13, cons_14, sealed_14, cons_15, sealed_15, conv_25_9, h1, ha, h2, h3, h4, h5, h6, h7, h9, h10]

end Go.Proofs.YtbfllngekcckeaaDoor
