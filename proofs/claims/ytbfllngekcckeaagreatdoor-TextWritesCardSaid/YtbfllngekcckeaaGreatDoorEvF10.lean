/- told, Unpack. -/
import Derived.Test.YtbfllngekcckeaaGreatDoorEvF9
namespace Go.Proofs.YtbfllngekcckeaaGreatDoor
open Go.Ev
set_option linter.unusedSimpArgs false
set_option linter.unusedVariables false
set_option maxHeartbeats 400000
set_option maxRecDepth 4000

/-- What polygons, or why there are none, read as. -/
def toldV (k : K) (l : List Pg) (bad : Bool) : V :=
  match bad with
  | true => .tup [.c (.sl .nil 1 []), .c (.int .i64 200)]
  | false => match mayL 0 l with
    | true => .tup [.c (.sl k.strip 1 (encL l)), .c (.int .i64 0)]
    | false => .tup [.c (.sl .nil 1 []), .c (.int .i64 201)]

theorem told_ev (k : K) (l : List Pg) (bad : Bool) (fr : Fr) (fs : Frames) (hn : l.length < 1152921504606846976) (hg : ∀ g ∈ l, g.length < 1152921504606846976 ∧ ∀ r ∈ g, r.length < 1152921504606846976) :
    callE cfg 30 [.c (.sl k 1 (encL l)), .c (.bool bad)] (fr :: fs) = some (some (toldV k l bad), fr :: fs) := by
  refine callE_code (fn := Tryz.f30) (rs := [.tmp 4, .tmp 5]) (by kernel_rfl) (by kernel_rfl) (by kernel_rfl) rfl rfl rfl (by show 2 ≤ 13; decide) ?_
  have h1 := may_ev k.strip l [] (fr :: fs) hn hg
  cases bad
  · cases hm : mayL 0 l
    · rw [hm] at h1
      simp only [resTmpsR, List.filterMap, evC_ret, evC_region, evC_seq, evC_cond, evC_bseq, blockEx, feedL, feedOf, runL, stepW, wantedV, Ev.step, opv, ev, getT, unV, put, params, constV, List.map, List.contains_nil, Bool.or_self, Nat.reduceEqDiff, if_true, if_false, reduceCtorEq, Nat.reduceBEq, give, gives, V.hasSl, C.isSl, V.strip, C.strip, feeds, List.append_nil, List.nil_append, List.contains_cons, Bool.false_eq_true, List.length_cons, constC, Bool.not_false, Bool.and_true, Nat.zero_add, kstrip_nil, kstrip_strip, finishR, resVs, resV, freezeVs, freezeV, freezeC, target, consOf, doCall, argsG, List.all_cons, List.all_nil, V.le, C.le, Nat.add_one_sub_one, cons_9, sealed_9, esz_26, h1, toldV, hm]
    · rw [hm] at h1
      simp only [resTmpsR, List.filterMap, evC_skip, evC_ret, evC_region, evC_seq, evC_cond, evC_bseq, blockEx, feedL, feedOf, runL, stepW, wantedV, Ev.step, opv, ev, getT, unV, put, params, constV, List.map, List.contains_nil, Bool.or_self, Nat.reduceEqDiff, if_true, if_false, reduceCtorEq, Nat.reduceBEq, give, gives, V.hasSl, C.isSl, V.strip, C.strip, feeds, List.append_nil, List.nil_append, List.contains_cons, Bool.false_eq_true, List.length_cons, constC, Bool.or_false, beq_self_eq_true, Bool.not_true, Bool.and_true, Nat.zero_add, Bool.not_true, kstrip_strip, finishR, resVs, resV, freezeVs, freezeV, freezeC, target, consOf, doCall, argsG, List.all_cons, List.all_nil, V.le, C.le, Nat.add_one_sub_one, cons_9, sealed_9, esz_26, h1, toldV, hm]
  · simp only [resTmpsR, List.filterMap, evC_ret, evC_region, evC_seq, evC_cond, evC_bseq, blockEx, feedL, feedOf, runL, stepW, wantedV, Ev.step, opv, ev, getT, put, params, constV, List.map, List.contains_nil, Bool.or_self, Nat.reduceEqDiff, if_true, if_false, reduceCtorEq, Nat.reduceBEq, give, V.hasSl, C.isSl, V.strip, C.strip, feeds, List.append_nil, List.contains_cons, Bool.false_eq_true, List.length_cons, constC, Nat.zero_add, kstrip_nil, finishR, resVs, resV, freezeVs, freezeV, freezeC, C.le, esz_26, toldV]

/-- Lengths of what is read are small. -/
structure Small (l : List Pg) : Prop where
  len : l.length < 1152921504606846976
  parts : ∀ g ∈ l, g.length < 1152921504606846976 ∧ ∀ r ∈ g, r.length < 1152921504606846976

theorem loopB_all {α : Type} {one : St → α × St} {P : α → Prop} (h : ∀ s, s.1.length ≤ 1000000 → P (one s).1) (hl : ∀ s, (one s).2.1.length ≤ s.1.length) : ∀ (m : Nat) (s : St), s.1.length ≤ 1000000 → (loopB one m s).1.length ≤ m ∧ ∀ x ∈ (loopB one m s).1, P x
  | 0, s, _ => ⟨Nat.le_refl _, fun x hx => by simp [loopB] at hx⟩
  | m + 1, s, hs => by
    simp only [loopB]
    split
    · exact ⟨Nat.zero_le _, fun x hx => by simp at hx⟩
    · obtain ⟨h1, h2⟩ := loopB_all h hl m (one s).2 (Nat.le_trans (hl s) hs)
      refine ⟨by simp only [List.length_cons]; omega, fun x hx => ?_⟩
      rcases List.mem_cons.1 hx with rfl | hx
      · exact h s hs
      · exact h2 x hx

theorem loopB_bad {α : Type} {one : St → α × St} (m : Nat) (s : St) (h : s.2 = true) : loopB one m s = ([], s) := by
  cases m with
  | zero => rfl
  | succ m => simp [loopB, h]

theorem manyB_all {α : Type} {one : St → α × St} {P : α → Prop} (h : ∀ s, s.1.length ≤ 1000000 → P (one s).1) (hl : ∀ s, (one s).2.1.length ≤ s.1.length) (few : Int) (s : St) (hs : s.1.length ≤ 1000000) : (manyB one few s).1.length ≤ 250000 ∧ ∀ x ∈ (manyB one few s).1, P x := by
  have h0 := afterN_len few s
  obtain ⟨h1, h2⟩ := loopB_all (P := P) h hl (numB s).1.toNat (afterN few s) (by omega)
  refine ⟨?_, h2⟩
  show (loopB one (numB s).1.toNat (afterN few s)).1.length ≤ 250000
  by_cases hb : (numB s).1 < few ∨ (numB s).1 > ((numB s).2.1.length : Int).tdiv 4
  · have : (afterN few s).2 = true := by unfold afterN; rw [if_pos hb]
    rw [loopB_bad _ _ this]
    simp
  · have := numB_len s
    rw [Int.tdiv_eq_ediv_of_nonneg (by omega)] at hb
    omega

theorem polysB_small (s : St) (hs : s.1.length ≤ 1000000) : Small (polysB s).1 := by
  obtain ⟨h1, h2⟩ := manyB_all (P := fun g : Pg => g.length < 1152921504606846976 ∧ ∀ r ∈ g, r.length < 1152921504606846976) (one := polyB) (fun s hs => by
    obtain ⟨h3, h4⟩ := manyB_all (P := fun r : Rg => r.length < 1152921504606846976) (one := ringB) (fun s hs => by
      obtain ⟨h5, _⟩ := manyB_all (P := fun _ : Int × Int => True) (one := pointB) (fun _ _ => trivial) pointB_len 3 s hs
      exact Nat.lt_of_le_of_lt h5 (by omega)) ringB_len 1 s hs
    exact ⟨Nat.lt_of_le_of_lt h3 (by omega), h4⟩) polyB_len 0 s hs
  exact ⟨Nat.lt_of_le_of_lt h1 (by omega), h2⟩

/-- Is it spoiled, or is something left? -/
def leftB (s : St) : Bool := s.2 || decide ((s.1.length : Int) > 0)

theorem unpack_ev (bs : List UInt8) (fr : Fr) (fs : Frames) (hb : bs.length ≤ 1000000) :
    ∃ k, callE cfg 16 [.c (.sl .ro 1 (bytesOf bs))] (fr :: fs) = some (some (toldV k (polysB (bs, false)).1 (leftB (polysB (bs, false)).2)), fr :: fs) := by
  refine ⟨(if (polysB (bs, false)).1.length = 0 then K.nil else K.own).strip, ?_⟩
  refine callE_code (fn := Tryz.f16) (rs := [.tmp 2, .tmp 3]) (by kernel_rfl) (by kernel_rfl) (by kernel_rfl) rfl rfl rfl (by show 1 ≤ 27; decide) ?_
  have h1 := many24_ev ([[.sl .ro 1 (bytesOf bs), .bool false]] :: fr :: fs) (fs.length + 1) (fs.length + 1) 0 0 (by omega) (bs, false) rfl (by simp [Ev.look, cellsB]) hb
  have hsm := polysB_small (bs, false) hb
  change callE cfg 34 _ _ = some (some (.c (.sl (if (polysB (bs, false)).1.length = 0 then .nil else .own) 1 (encL (polysB (bs, false)).1))), Ev.setF _ _ _ (cellsB (polysB (bs, false)).2)) at h1
  generalize polysB (bs, false) = r at h1 hsm
  obtain ⟨l, b, sp⟩ := r
  simp only [cellsB] at h1
  have h2 := fun bad => told_ev (if l.length = 0 then K.nil else K.own).strip l bad [] (fr :: fs) hsm.len hsm.parts
  cases sp
  · have h3 := h2 (decide ((b.length : Int) > 0))
    have h4 : leftB (b, false) = decide ((b.length : Int) > 0) := by simp [leftB]
    rw [h4]
    cases hd : decide ((b.length : Int) > 0)
    · rw [hd] at h3
      cases hm : mayL 0 l
      · simp only [toldV, hm] at h3
        simp only [resTmpsR, List.filterMap, evC_ret, evC_region, evC_seq, feedL, feedOf, runL, stepW, wantedV, Ev.step, opv, ev, getT, binV, intOp, put, params, constV, List.map, List.contains_nil, Bool.or_self, Nat.reduceEqDiff, if_true, if_false, reduceCtorEq, Nat.reduceBEq, give, gives, V.hasSl, C.isSl, V.strip, C.strip, feeds, List.append_nil, List.nil_append, List.contains_cons, Bool.false_eq_true, List.getElem?_toArray, List.length_cons, constC, lenV, List.getElem?_cons_zero, List.getElem?_cons_succ, Bool.or_false, Bool.or_true, beq_self_eq_true, Bool.not_true, Bool.and_false, Bool.and_true, and_self, readV, List.drop_zero, fillC, V.cells, List.length_nil, Nat.zero_add, cfg_esc, Option.bind_some, List.drop_succ_cons, List.take_succ_cons, List.take_zero, Bool.not_true, cond_false, List.set_cons_zero, kstrip_ro, kstrip_nil, kstrip_strip, Nat.lt_add_one, Nat.reduceAdd, Nat.reduceLeDiff, finishR, resVs, resV, freezeVs, freezeV, freezeC, target, consOf, doCall, argsG, List.all_cons, List.all_nil, V.le, C.le, C.leL, Ev.newObj, Ev.look, Ev.setF, Ev.setRange, List.cons_append, Nat.add_one_sub_one, cons_34, sealed_34, cons_30, sealed_30, agg_4, agg_43, esz_26, lay_70, layB_70, zero_70, und_43, h1, bytesOf_len, hd, h3, toldV, hm]
      · simp only [toldV, hm] at h3
        simp only [resTmpsR, List.filterMap, evC_ret, evC_region, evC_seq, feedL, feedOf, runL, stepW, wantedV, Ev.step, opv, ev, getT, binV, intOp, put, params, constV, List.map, List.contains_nil, Bool.or_self, Nat.reduceEqDiff, if_true, if_false, reduceCtorEq, Nat.reduceBEq, give, gives, V.hasSl, C.isSl, V.strip, C.strip, feeds, List.append_nil, List.nil_append, List.contains_cons, Bool.false_eq_true, List.getElem?_toArray, List.length_cons, constC, lenV, List.getElem?_cons_zero, List.getElem?_cons_succ, Bool.or_false, Bool.or_true, beq_self_eq_true, Bool.not_true, Bool.and_false, Bool.and_true, and_self, readV, List.drop_zero, fillC, V.cells, List.length_nil, Nat.zero_add, cfg_esc, Option.bind_some, List.drop_succ_cons, List.take_succ_cons, List.take_zero, Bool.not_true, cond_false, List.set_cons_zero, kstrip_ro, kstrip_strip, Nat.lt_add_one, Nat.reduceAdd, Nat.reduceLeDiff, finishR, resVs, resV, freezeVs, freezeV, freezeC, target, consOf, doCall, argsG, List.all_cons, List.all_nil, V.le, C.le, C.leL, Ev.newObj, Ev.look, Ev.setF, Ev.setRange, List.cons_append, Nat.add_one_sub_one, cons_34, sealed_34, cons_30, sealed_30, agg_4, agg_43, esz_26, lay_70, layB_70, zero_70, und_43, h1, bytesOf_len, hd, h3, toldV, hm]
    · rw [hd] at h3
      simp only [toldV] at h3
      simp only [resTmpsR, List.filterMap, evC_ret, evC_region, evC_seq, feedL, feedOf, runL, stepW, wantedV, Ev.step, opv, ev, getT, binV, intOp, put, params, constV, List.map, List.contains_nil, Bool.or_self, Nat.reduceEqDiff, if_true, if_false, reduceCtorEq, Nat.reduceBEq, give, gives, V.hasSl, C.isSl, V.strip, C.strip, feeds, List.append_nil, List.nil_append, List.contains_cons, Bool.false_eq_true, List.getElem?_toArray, List.length_cons, constC, lenV, List.getElem?_cons_zero, List.getElem?_cons_succ, Bool.or_false, Bool.or_true, beq_self_eq_true, Bool.not_true, Bool.and_false, Bool.and_true, and_self, readV, List.drop_zero, fillC, V.cells, List.length_nil, Nat.zero_add, cfg_esc, Option.bind_some, List.drop_succ_cons, List.take_succ_cons, List.take_zero, Bool.not_true, cond_false, List.set_cons_zero, kstrip_ro, kstrip_nil, kstrip_strip, Nat.lt_add_one, Nat.reduceAdd, Nat.reduceLeDiff, finishR, resVs, resV, freezeVs, freezeV, freezeC, target, consOf, doCall, argsG, List.all_cons, List.all_nil, V.le, C.le, C.leL, Ev.newObj, Ev.look, Ev.setF, Ev.setRange, List.cons_append, Nat.add_one_sub_one, cons_34, sealed_34, cons_30, sealed_30, agg_4, agg_43, esz_26, lay_70, layB_70, zero_70, und_43, h1, bytesOf_len, hd, h3, toldV]
  · have h3 := h2 true
    simp only [toldV] at h3
    simp only [resTmpsR, List.filterMap, evC_ret, evC_region, evC_seq, feedL, feedOf, runL, stepW, wantedV, Ev.step, opv, ev, getT, put, params, constV, List.map, List.contains_nil, Bool.or_self, Nat.reduceEqDiff, if_true, if_false, reduceCtorEq, Nat.reduceBEq, give, gives, V.hasSl, C.isSl, V.strip, C.strip, feeds, List.append_nil, List.nil_append, List.contains_cons, Bool.false_eq_true, List.getElem?_toArray, List.length_cons, constC, List.getElem?_cons_zero, List.getElem?_cons_succ, Bool.or_false, Bool.or_true, beq_self_eq_true, Bool.not_true, Bool.and_false, Bool.and_true, and_self, readV, List.drop_zero, fillC, V.cells, List.length_nil, Nat.zero_add, cfg_esc, Option.bind_some, List.drop_succ_cons, List.take_succ_cons, List.take_zero, Bool.true_or, Bool.not_true, bb_tf, List.set_cons_zero, kstrip_ro, kstrip_nil, kstrip_strip, Nat.lt_add_one, Nat.reduceAdd, Nat.reduceLeDiff, finishR, resVs, resV, freezeVs, freezeV, freezeC, target, consOf, doCall, argsG, List.all_cons, List.all_nil, V.le, C.le, C.leL, Ev.newObj, Ev.look, Ev.setF, Ev.setRange, pickV, List.cons_append, Nat.add_one_sub_one, cons_34, sealed_34, cons_30, sealed_30, agg_4, esz_26, lay_70, layB_70, zero_70, h1, h3, toldV, leftB]

end Go.Proofs.YtbfllngekcckeaaGreatDoor
