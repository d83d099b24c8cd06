/- Rows of things out of bytes. Written by many.py. -/
import Derived.Test.YtbfllngekcckeaaGreatDoorEvF7
namespace Go.Proofs.YtbfllngekcckeaaGreatDoor
open Go.Ev
set_option linter.unusedSimpArgs false
set_option linter.unusedVariables false
set_option maxHeartbeats 400000
set_option maxRecDepth 4000

def pointB (s : St) : (Int × Int) × St := (((numB s).1, (numB (numB s).2).1), (numB (numB s).2).2)

def loopB {α : Type} (one : St → α × St) : Nat → St → List α × St
  | 0, s => ([], s)
  | m + 1, s => if s.2 = true then ([], s) else ((one s).1 :: (loopB one m (one s).2).1, (loopB one m (one s).2).2)

def afterN (few : Int) (s : St) : St := if (numB s).1 < few ∨ (numB s).1 > ((numB s).2.1.length : Int).tdiv 4 then ((numB s).2.1, true) else (numB s).2
def manyB {α : Type} (one : St → α × St) (few : Int) (s : St) : List α × St := loopB one (numB s).1.toNat (afterN few s)

theorem numB_len (s : St) : (numB s).2.1.length ≤ s.1.length := by
  unfold numB
  split <;> simp <;> omega

theorem afterN_len (few : Int) (s : St) : (afterN few s).1.length ≤ s.1.length := by
  unfold afterN
  split <;> exact numB_len s

theorem pointB_len (s : St) : (pointB s).2.1.length ≤ s.1.length := Nat.le_trans (numB_len _) (numB_len _)

theorem loopB_len {α : Type} {one : St → α × St} (h : ∀ s, (one s).2.1.length ≤ s.1.length) : ∀ (m : Nat) (s : St), (loopB one m s).2.1.length ≤ s.1.length
  | 0, s => Nat.le_refl _
  | m + 1, s => by
    simp only [loopB]
    split
    · exact Nat.le_refl _
    · exact Nat.le_trans (loopB_len h m _) (h s)

theorem manyB_len {α : Type} {one : St → α × St} (h : ∀ s, (one s).2.1.length ≤ s.1.length) (few : Int) (s : St) : (manyB one few s).2.1.length ≤ s.1.length := Nat.le_trans (loopB_len h _ _) (afterN_len few s)

theorem look_up {F : Frames} {n d k : Nat} {cs : List C} (fr : Fr) (hF : F.length = n + 1) (hl : Ev.look F d k = some cs) : Ev.look (fr :: F) d k = some cs := by
  have := look_lt hl
  simp only [Ev.look]
  rw [if_neg (by omega)]
  exact hl

theorem point_ev (F : Frames) (n d k : Nat) (s : St) (hF : F.length = n + 1) (hl : Ev.look F d k = some (cellsB s)) :
    callE cfg 58 [.c (.ptr d k 0)] F = some (some (.agg [.int .i64 (pointB s).1.1, .int .i64 (pointB s).1.2]), Ev.setF F d k (cellsB (pointB s).2)) := by
  have hlt := look_lt hl
  rw [hF] at hlt
  have hne : ¬(d = n + 1) := by omega
  have hss := setF_setF F d k
  have hls := fun o => look_setF (o := o) hl
  have hlen : ∀ o, (Ev.setF F d k o).length = n + 1 := fun o => by rw [setF_len, hF]
  refine callE_code (fn := Tryz.f58) (rs := [.cell 2 41]) (by kernel_rfl) (by kernel_rfl) (by kernel_rfl) rfl rfl rfl (by show 1 ≤ 8; decide) ?_
  have h1 := num_ev ([[.int .i64 0, .int .i64 0]] :: F) (n + 1) d k s (by simp [hF]) (look_up _ hF hl)
  have h2 := num_ev ([[.int .i64 0, .int .i64 0]] :: Ev.setF F d k (cellsB (numB s).2)) (n + 1) d k (numB s).2 (by simp [setF_len, hF]) (look_up _ (hlen _) (hls _))
  simp only [resTmpsR, List.filterMap, evC_ret, evC_region, evC_seq, feedL, feedOf, runL, stepW, wantedV, Ev.step, opv, ev, getT, put, params, List.map, List.contains_nil, Nat.reduceEqDiff, if_true, if_false, reduceCtorEq, give, gives, V.hasSl, C.isSl, V.strip, C.strip, feeds, List.append_nil, List.nil_append, Bool.false_eq_true, List.length_cons, List.getElem?_cons_zero, List.getElem?_cons_succ, Bool.and_true, and_self, readV, List.drop_zero, fillC, V.cells, List.length_nil, Nat.zero_add, cfg_esc, List.drop_succ_cons, List.take_succ_cons, List.take_zero, List.set_cons_zero, List.map_cons, Nat.lt_add_one, Nat.reduceAdd, Nat.reduceLeDiff, finishR, resVs, resV, freezeVs, freezeV, freezeC, freezeCs, target, consOf, doCall, argsG, List.all_cons, List.all_nil, V.le, C.le, C.leL, Ev.newObj, Ev.look, Ev.setF, Ev.setRange, List.cons_append, Nat.le_refl, Nat.add_one_sub_one, cons_46, sealed_46, sz_41, agg_41, layB_41, zero_41, h1, h2, hss, hlen, hF, hne, pointB]

set_option maxHeartbeats 1000000 in
theorem many57_ev (F : Frames) (n d k : Nat) (few : Int) (hfew : 0 ≤ few) (s : St) (hF : F.length = n + 1) (hl : Ev.look F d k = some (cellsB s)) (hb : s.1.length ≤ 1000000) :
    callE cfg 57 [.c (.ptr d k 0), .c (.int .i64 few), .c (.fn (.func 58) [] [])] F = some (some (.c (.sl (if (manyB pointB few s).1.length = 0 then .nil else .own) 2 (encR (manyB pointB few s).1))), Ev.setF F d k (cellsB (manyB pointB few s).2)) := by
  have hlt := look_lt hl
  rw [hF] at hlt
  have hne : ¬(d = n + 1) := by omega
  have hss := setF_setF F d k
  have hls := fun o => look_setF (o := o) hl
  have hlen : ∀ o, (Ev.setF F d k o).length = n + 1 := fun o => by rw [setF_len, hF]
  refine callE_code (fn := Tryz.f57) (rs := [.tmp 6]) (by kernel_rfl) (by kernel_rfl) (by kernel_rfl) rfl rfl rfl (by show 3 ≤ 47; decide) ?_
  have h1 := num_ev ([] :: F) (n + 1) d k s (by simp [hF]) (look_up _ hF hl)
  simp only [cellsB] at h1 hl
  generalize hN : (numB s).1 = N at h1
  generalize hs1 : (numB s).2 = s1 at h1
  have hs1l : s1.1.length ≤ 1000000 := by have := numB_len s; rw [hs1] at this; omega
  have e1 : IntKind.i64.wrap ((s1.1.length : Int).tdiv 4) = (s1.1.length : Int).tdiv 4 := by
    rw [Int.tdiv_eq_ediv_of_nonneg (by omega), wrap64] <;> omega
  have hA : afterN few s = if N < few ∨ N > (s1.1.length : Int).tdiv 4 then (s1.1, true) else s1 := by unfold afterN; rw [hN, hs1]
  have hM : manyB pointB few s = loopB pointB N.toNat (afterN few s) := by unfold manyB; rw [hN]
  have hal : (afterN few s).1.length ≤ 1000000 := Nat.le_trans (afterN_len few s) hb
  have hab : (afterN few s).2 = true ∨ (0 ≤ N ∧ N ≤ 250000) := by
    rw [hA]
    split
    · exact .inl rfl
    · rename_i hc
      rw [Int.tdiv_eq_ediv_of_nonneg (by omega)] at hc
      exact .inr (by omega)
  have four : (4 : Int) = 0 ↔ False := by decide
  generalize hA2 : afterN few s = s2 at hA hM hal hab
  let σ : Nat × List (Int × Int) × St → S := fun (i, o, s) => { m := [(0, .c (.ptr d k 0)), (2, .c (.fn (.func 58) [] [])), (7, .c (.int .i64 N)), (8, .c (.sl (if i = 0 then .nil else .own) 2 (encR o))), (9, .c (.int .i64 i))], fs := [] :: Ev.setF F d k (cellsB s) }
  have fin : ∀ (b : Code) (out : Out), loopE cfg (callE cfg) itE 57 [6] b [0, 2, 7, 8, 9] (σ (0, [], s2)) = out →
      (∀ a : Nat × List (Int × Int) × St, ((a.2.2.2 = true ∨ ((a.1 : Int) ≤ N ∧ N ≤ 250000)) ∧ a.2.1.length = a.1 ∧ a.2.2.1.length ≤ 1000000 ∧ loopB pointB N.toNat s2 = (a.2.1 ++ (loopB pointB (N.toNat - a.1) a.2.2).1, (loopB pointB (N.toNat - a.1) a.2.2).2)) →
        ∃ y, evC cfg (callE cfg) itE 57 [6] b (σ a) = some y ∧ Round [0, 2, 7, 8, 9] σ (fun a => N.toNat - a.1) (fun a => (a.2.2.2 = true ∨ ((a.1 : Int) ≤ N ∧ N ≤ 250000)) ∧ a.2.1.length = a.1 ∧ a.2.2.1.length ≤ 1000000 ∧ loopB pointB N.toNat s2 = (a.2.1 ++ (loopB pointB (N.toNat - a.1) a.2.2).1, (loopB pointB (N.toNat - a.1) a.2.2).2))
        (fun ex st => ex = .exit 0 ∧ st.fs = [] :: Ev.setF F d k (cellsB (loopB pointB N.toNat s2).2) ∧ getT st.m 8 = .c (.sl (if (loopB pointB N.toNat s2).1.length = 0 then .nil else .own) 2 (encR (loopB pointB N.toNat s2).1))) (N.toNat - a.1) y) →
      ∃ ex st, out = some (ex, st) ∧ ex = .exit 0 ∧ st.fs = [] :: Ev.setF F d k (cellsB (loopB pointB N.toNat s2).2) ∧ getT st.m 8 = .c (.sl (if (loopB pointB N.toNat s2).1.length = 0 then .nil else .own) 2 (encR (loopB pointB N.toNat s2).1)) := fun b out h hstep => by
    rw [← h]
    exact loopE_inv σ (fun a => N.toNat - a.1) _ (fun ex st => ex = .exit 0 ∧ st.fs = [] :: Ev.setF F d k (cellsB (loopB pointB N.toNat s2).2) ∧ getT st.m 8 = .c (.sl (if (loopB pointB N.toNat s2).1.length = 0 then .nil else .own) 2 (encR (loopB pointB N.toNat s2).1))) hstep (0, [], s2) ⟨by omega, rfl, hal, rfl⟩
  have round : ∀ (i : Nat) (o : List (Int × Int)) (s : St), (s.2 = true ∨ ((i : Int) ≤ N ∧ N ≤ 250000)) → o.length = i → s.1.length ≤ 1000000 → loopB pointB N.toNat s2 = (o ++ (loopB pointB (N.toNat - i) s).1, (loopB pointB (N.toNat - i) s).2) →
      (¬((i : Int) < N) ∨ s.2 = true) → loopB pointB N.toNat s2 = (o, s) := fun i o s h2 h3 h4 h5 h6 => by
    have : loopB pointB (N.toNat - i) s = ([], s) := by
      rcases h6 with h6 | h6
      · rw [show N.toNat - i = 0 by omega]; rfl
      · cases N.toNat - i with
        | zero => rfl
        | succ m => simp only [loopB, h6, if_true]
    rw [h5, this]
    simp
  have again : ∀ (i : Nat) (o : List (Int × Int)) (s : St), s.2 = false → (i : Int) < N → loopB pointB N.toNat s2 = (o ++ (loopB pointB (N.toNat - i) s).1, (loopB pointB (N.toNat - i) s).2) →
      loopB pointB N.toNat s2 = (o ++ [(pointB s).1] ++ (loopB pointB (N.toNat - (i + 1)) (pointB s).2).1, (loopB pointB (N.toNat - (i + 1)) (pointB s).2).2) := fun i o s h1 h2 h3 => by
    rw [h3, show N.toNat - i = (N.toNat - (i + 1)) + 1 by omega]
    simp [loopB, h1]
  have enc1 : ∀ (o : List (Int × Int)) x, encR o ++ [[.int .i64 x.1, .int .i64 x.2]] = encR (o ++ [x]) := fun o x => by simp [encR, encP]
  rw [hM]
  by_cases c1 : N < few
  · rw [if_pos (.inl c1)] at hA
    simp only [resTmpsR, List.filterMap, evC_ret, evC_region, evC_seq, evC_cond, evC_loop, blockEx, feedL, feedOf, runL, stepW, wantedV, Ev.step, opv, ev, getT, binV, intOp, put, params, constV, keep, List.map, List.contains_nil, Bool.or_self, Nat.reduceEqDiff, if_true, if_false, decide_true, reduceCtorEq, Nat.reduceBEq, give, gives, V.hasSl, C.isSl, V.strip, C.strip, feeds, List.append_nil, List.nil_append, List.contains_cons, Bool.false_eq_true, List.getElem?_toArray, List.length_cons, constC, List.getElem?_cons_zero, List.getElem?_cons_succ, Bool.or_false, beq_self_eq_true, Bool.and_true, and_self, List.drop_zero, V.cells, List.length_nil, Nat.zero_add, Option.bind_some, List.drop_succ_cons, List.take_succ_cons, List.take_zero, bb_tf, List.getElem?_nil, List.map_cons, Nat.reduceAdd, finishR, resVs, resV, freezeVs, freezeV, freezeC, target, consOf, doCall, argsG, List.all_cons, List.all_nil, V.le, C.le, C.leL, Ev.look, Ev.setF, Ev.setRange, pickV, List.cons_append, Nat.le_refl, Nat.add_one_sub_one, cons_46, sealed_46, live_57_0, sz_4, esz_38, lay_70, h1, hls, hss, hlen, hF, hne, c1]
    generalize hL : loopE cfg (callE cfg) itE 57 [6] _ _ _ = out
    obtain ⟨ex, ⟨m, fs'⟩, q1, rfl, q2, q3⟩ := fin _ out (by rw [← hL, hA]; rfl) (fun (i, o, s) ⟨h2, h3, h4, h5⟩ => by
      simp only at h2 h3 h4 h5
      by_cases c3 : (i : Int) < N
      · cases c4 : s.2
        · have h2' : (i : Int) ≤ N ∧ N ≤ 250000 := by
            rcases h2 with h2 | h2
            · rw [c4] at h2; cases h2
            · exact h2
          have hlk := hls (cellsB s)
          have h6 := point_ev ([] :: Ev.setF F d k (cellsB s)) (n + 1) d k s (by simp [setF_len, hF]) (look_up _ (hlen _) hlk)
          have h7 : IntKind.i64.wrap ((i : Int) + 1) = ((i + 1 : Nat) : Int) := by rw [wrap64] <;> omega
          have h8 : (encR o).length + 1 < 8278675785607 := by simp [encR]; omega
          have h9 : ¬(i + 1 = 0) := by omega
          simp only [cellsB, c4] at h6
          by_cases h0 : i = 0
          · have hk : (if i = 0 then K.nil else K.own) = K.nil := if_pos h0
            simp only [σ, evC_skip, evC_region, evC_seq, evC_cond, evC_bregion, blockEx, feedL, feedOf, runL, stepW, wantedV, Ev.step, opv, ev, getT, binV, intOp, unV, put, constV, List.map, List.contains_nil, Bool.or_self, Nat.reduceEqDiff, if_true, if_false, decide_true, reduceCtorEq, Nat.reduceBEq, give, gives, V.hasSl, C.isSl, V.strip, C.strip, feeds, List.append_nil, List.nil_append, List.contains_cons, Bool.false_eq_true, List.getElem?_toArray, List.length_cons, constC, List.getElem?_cons_zero, List.getElem?_cons_succ, Bool.or_false, beq_self_eq_true, Bool.not_false, Bool.and_true, Bool.false_and, and_self, or_false, readV, List.drop_zero, fillE, V.cells, toDs, C.toD, appendV, tailD, appOK, List.replicate, List.length_nil, Nat.zero_add, cfg_arr, Option.bind_some, List.drop_succ_cons, List.take_succ_cons, List.take_zero, cond_true, List.set_cons_zero, List.getElem?_nil, kstrip_own, kstrip_nil, Nat.lt_add_one, Nat.zero_lt_succ, Nat.reduceAdd, Nat.reduceLeDiff, Nat.one_mul, target, consOf, doCall, argsG, List.all_cons, List.all_nil, V.le, C.le, Ev.newObj, Ev.look, Ev.setF, Ev.setRange, List.cons_append, Nat.add_one_sub_one, agg_4, esz_38, elemT_38, lay_70, zero_41, und_38, elemI_38, sealed_58, cellsB, hk, h6, hls, hss, hlen, hne, c3, c4, h7, h8]
            refine ⟨_, rfl, ?_⟩
            exact Round.again (i + 1, o ++ [(pointB s).1], (pointB s).2) (by simp only [← enc1, h9, if_false]; rfl) ⟨by omega, by simp [h3], Nat.le_trans (pointB_len s) h4, again i o s c4 c3 h5⟩ (by simp only; omega)
          · simp only [σ, evC_skip, evC_region, evC_seq, evC_cond, evC_bregion, blockEx, feedL, feedOf, runL, stepW, wantedV, Ev.step, opv, ev, getT, binV, intOp, unV, put, constV, List.map, List.contains_nil, Bool.or_self, Nat.reduceEqDiff, if_true, if_false, decide_true, reduceCtorEq, Nat.reduceBEq, give, gives, V.hasSl, C.isSl, V.strip, C.strip, feeds, List.append_nil, List.nil_append, List.contains_cons, Bool.false_eq_true, List.getElem?_toArray, List.length_cons, constC, List.getElem?_cons_zero, List.getElem?_cons_succ, Bool.or_false, beq_self_eq_true, Bool.not_false, Bool.and_true, Bool.false_and, and_self, or_false, readV, List.drop_zero, fillE, V.cells, toDs, C.toD, appendV, tailD, appOK, List.replicate, List.length_nil, Nat.zero_add, cfg_arr, Option.bind_some, List.drop_succ_cons, List.take_succ_cons, List.take_zero, cond_true, List.set_cons_zero, List.getElem?_nil, kstrip_own, Nat.lt_add_one, Nat.zero_lt_succ, Nat.reduceAdd, Nat.reduceLeDiff, Nat.one_mul, target, consOf, doCall, argsG, List.all_cons, List.all_nil, V.le, C.le, Ev.newObj, Ev.look, Ev.setF, Ev.setRange, List.cons_append, Nat.add_one_sub_one, agg_4, esz_38, elemT_38, lay_70, zero_41, und_38, elemI_38, sealed_58, cellsB, h0, h6, hls, hss, hlen, hne, c3, c4, h7, h8]
            refine ⟨_, rfl, ?_⟩
            exact Round.again (i + 1, o ++ [(pointB s).1], (pointB s).2) (by simp only [← enc1, h9, if_false]; rfl) ⟨by omega, by simp [h3], Nat.le_trans (pointB_len s) h4, again i o s c4 c3 h5⟩ (by simp only; omega)
        · have h6 := round i o s h2 h3 h4 h5 (.inr c4)
          simp only [σ, evC_exit, evC_region, evC_seq, evC_cond, feedL, feedOf, runL, stepW, wantedV, Ev.step, opv, ev, getT, binV, intOp, unV, put, constV, List.contains_nil, Nat.reduceEqDiff, if_true, if_false, decide_true, reduceCtorEq, give, V.hasSl, C.isSl, V.strip, C.strip, feeds, List.append_nil, List.nil_append, Bool.false_eq_true, List.getElem?_toArray, List.length_cons, constC, List.getElem?_cons_zero, List.getElem?_cons_succ, beq_self_eq_true, Bool.not_true, Bool.false_and, readV, List.drop_zero, List.length_nil, Nat.zero_add, Option.bind_some, List.drop_succ_cons, List.take_succ_cons, List.take_zero, Bool.not_true, cond_true, List.getElem?_nil, Nat.reduceAdd, Ev.look, Ev.setF, Ev.setRange, List.cons_append, Nat.add_one_sub_one, agg_4, lay_70, cellsB, hls, hss, hlen, hne, c3, c4]
          refine ⟨_, rfl, ?_⟩
          exact Round.out ⟨rfl, by rw [h6]; simp only [c4]; rfl, by rw [h6]; subst h3; rfl⟩
      · have h6 := round i o s h2 h3 h4 h5 (.inl c3)
        simp only [σ, evC_exit, evC_region, evC_seq, evC_cond, feedL, feedOf, runL, stepW, wantedV, Ev.step, opv, ev, getT, binV, intOp, put, constV, List.contains_nil, Nat.reduceEqDiff, if_true, if_false, decide_false, reduceCtorEq, give, V.hasSl, C.isSl, V.strip, C.strip, feeds, List.append_nil, Bool.false_eq_true, List.getElem?_toArray, constC, List.getElem?_cons_zero, List.getElem?_cons_succ, Option.bind_some, bb_ft, pickV, cellsB, c3]
        refine ⟨_, rfl, ?_⟩
        exact Round.out ⟨rfl, by rw [h6]; rfl, by rw [h6]; subst h3; rfl⟩)
    simp only at q2 q3
    subst q2
    simp only [q1, getT, Nat.reduceEqDiff, if_true, if_false, q3]
  · by_cases c2 : N > (s1.1.length : Int).tdiv 4
    · rw [if_pos (.inr c2)] at hA
      simp only [resTmpsR, List.filterMap, evC_ret, evC_region, evC_seq, evC_cond, evC_loop, blockEx, feedL, feedOf, runL, stepW, wantedV, Ev.step, opv, ev, getT, binV, intOp, put, params, constV, keep, List.map, List.contains_nil, Bool.or_self, Nat.reduceEqDiff, if_true, if_false, decide_true, decide_false, reduceCtorEq, Nat.reduceBEq, give, gives, V.hasSl, C.isSl, V.strip, C.strip, feeds, List.append_nil, List.nil_append, List.contains_cons, Bool.false_eq_true, List.getElem?_toArray, List.length_cons, constC, lenV, List.getElem?_cons_zero, List.getElem?_cons_succ, Bool.or_false, beq_self_eq_true, Bool.and_true, Bool.false_and, and_self, readV, List.drop_zero, V.cells, List.length_nil, Nat.zero_add, Option.bind_some, List.drop_succ_cons, List.take_succ_cons, List.take_zero, cond_false, List.getElem?_nil, List.map_cons, kstrip_ro, Nat.reduceAdd, finishR, resVs, resV, freezeVs, freezeV, freezeC, target, consOf, doCall, argsG, List.all_cons, List.all_nil, V.le, C.le, C.leL, Ev.look, Ev.setF, Ev.setRange, List.cons_append, Nat.le_refl, Nat.add_one_sub_one, cons_46, sealed_46, live_57_0, sz_4, agg_43, esz_38, lay_70, und_43, h1, hls, hss, hlen, hF, hne, c1, four, bytesOf_len, e1, c2]
      generalize hL : loopE cfg (callE cfg) itE 57 [6] _ _ _ = out
      obtain ⟨ex, ⟨m, fs'⟩, q1, rfl, q2, q3⟩ := fin _ out (by rw [← hL, hA]; rfl) (fun (i, o, s) ⟨h2, h3, h4, h5⟩ => by
        simp only at h2 h3 h4 h5
        by_cases c3 : (i : Int) < N
        · cases c4 : s.2
          · have h2' : (i : Int) ≤ N ∧ N ≤ 250000 := by
              rcases h2 with h2 | h2
              · rw [c4] at h2; cases h2
              · exact h2
            have hlk := hls (cellsB s)
            have h6 := point_ev ([] :: Ev.setF F d k (cellsB s)) (n + 1) d k s (by simp [setF_len, hF]) (look_up _ (hlen _) hlk)
            have h7 : IntKind.i64.wrap ((i : Int) + 1) = ((i + 1 : Nat) : Int) := by rw [wrap64] <;> omega
            have h8 : (encR o).length + 1 < 8278675785607 := by simp [encR]; omega
            have h9 : ¬(i + 1 = 0) := by omega
            simp only [cellsB, c4] at h6
            by_cases h0 : i = 0
            · have hk : (if i = 0 then K.nil else K.own) = K.nil := if_pos h0
              simp only [σ, evC_skip, evC_region, evC_seq, evC_cond, evC_bregion, blockEx, feedL, feedOf, runL, stepW, wantedV, Ev.step, opv, ev, getT, binV, intOp, unV, put, constV, List.map, List.contains_nil, Bool.or_self, Nat.reduceEqDiff, if_true, if_false, decide_true, reduceCtorEq, Nat.reduceBEq, give, gives, V.hasSl, C.isSl, V.strip, C.strip, feeds, List.append_nil, List.nil_append, List.contains_cons, Bool.false_eq_true, List.getElem?_toArray, List.length_cons, constC, List.getElem?_cons_zero, List.getElem?_cons_succ, Bool.or_false, beq_self_eq_true, Bool.not_false, Bool.and_true, Bool.false_and, and_self, or_false, readV, List.drop_zero, fillE, V.cells, toDs, C.toD, appendV, tailD, appOK, List.replicate, List.length_nil, Nat.zero_add, cfg_arr, Option.bind_some, List.drop_succ_cons, List.take_succ_cons, List.take_zero, cond_true, List.set_cons_zero, List.getElem?_nil, kstrip_own, kstrip_nil, Nat.lt_add_one, Nat.zero_lt_succ, Nat.reduceAdd, Nat.reduceLeDiff, Nat.one_mul, target, consOf, doCall, argsG, List.all_cons, List.all_nil, V.le, C.le, Ev.newObj, Ev.look, Ev.setF, Ev.setRange, List.cons_append, Nat.add_one_sub_one, agg_4, esz_38, elemT_38, lay_70, zero_41, und_38, elemI_38, sealed_58, cellsB, hk, h6, hls, hss, hlen, hne, c3, c4, h7, h8]
              refine ⟨_, rfl, ?_⟩
              exact Round.again (i + 1, o ++ [(pointB s).1], (pointB s).2) (by simp only [← enc1, h9, if_false]; rfl) ⟨by omega, by simp [h3], Nat.le_trans (pointB_len s) h4, again i o s c4 c3 h5⟩ (by simp only; omega)
            · simp only [σ, evC_skip, evC_region, evC_seq, evC_cond, evC_bregion, blockEx, feedL, feedOf, runL, stepW, wantedV, Ev.step, opv, ev, getT, binV, intOp, unV, put, constV, List.map, List.contains_nil, Bool.or_self, Nat.reduceEqDiff, if_true, if_false, decide_true, reduceCtorEq, Nat.reduceBEq, give, gives, V.hasSl, C.isSl, V.strip, C.strip, feeds, List.append_nil, List.nil_append, List.contains_cons, Bool.false_eq_true, List.getElem?_toArray, List.length_cons, constC, List.getElem?_cons_zero, List.getElem?_cons_succ, Bool.or_false, beq_self_eq_true, Bool.not_false, Bool.and_true, Bool.false_and, and_self, or_false, readV, List.drop_zero, fillE, V.cells, toDs, C.toD, appendV, tailD, appOK, List.replicate, List.length_nil, Nat.zero_add, cfg_arr, Option.bind_some, List.drop_succ_cons, List.take_succ_cons, List.take_zero, cond_true, List.set_cons_zero, List.getElem?_nil, kstrip_own, Nat.lt_add_one, Nat.zero_lt_succ, Nat.reduceAdd, Nat.reduceLeDiff, Nat.one_mul, target, consOf, doCall, argsG, List.all_cons, List.all_nil, V.le, C.le, Ev.newObj, Ev.look, Ev.setF, Ev.setRange, List.cons_append, Nat.add_one_sub_one, agg_4, esz_38, elemT_38, lay_70, zero_41, und_38, elemI_38, sealed_58, cellsB, h0, h6, hls, hss, hlen, hne, c3, c4, h7, h8]
              refine ⟨_, rfl, ?_⟩
              exact Round.again (i + 1, o ++ [(pointB s).1], (pointB s).2) (by simp only [← enc1, h9, if_false]; rfl) ⟨by omega, by simp [h3], Nat.le_trans (pointB_len s) h4, again i o s c4 c3 h5⟩ (by simp only; omega)
          · have h6 := round i o s h2 h3 h4 h5 (.inr c4)
            simp only [σ, evC_exit, evC_region, evC_seq, evC_cond, feedL, feedOf, runL, stepW, wantedV, Ev.step, opv, ev, getT, binV, intOp, unV, put, constV, List.contains_nil, Nat.reduceEqDiff, if_true, if_false, decide_true, reduceCtorEq, give, V.hasSl, C.isSl, V.strip, C.strip, feeds, List.append_nil, List.nil_append, Bool.false_eq_true, List.getElem?_toArray, List.length_cons, constC, List.getElem?_cons_zero, List.getElem?_cons_succ, beq_self_eq_true, Bool.not_true, Bool.false_and, readV, List.drop_zero, List.length_nil, Nat.zero_add, Option.bind_some, List.drop_succ_cons, List.take_succ_cons, List.take_zero, Bool.not_true, cond_true, List.getElem?_nil, Nat.reduceAdd, Ev.look, Ev.setF, Ev.setRange, List.cons_append, Nat.add_one_sub_one, agg_4, lay_70, cellsB, hls, hss, hlen, hne, c3, c4]
            refine ⟨_, rfl, ?_⟩
            exact Round.out ⟨rfl, by rw [h6]; simp only [c4]; rfl, by rw [h6]; subst h3; rfl⟩
        · have h6 := round i o s h2 h3 h4 h5 (.inl c3)
          simp only [σ, evC_exit, evC_region, evC_seq, evC_cond, feedL, feedOf, runL, stepW, wantedV, Ev.step, opv, ev, getT, binV, intOp, put, constV, List.contains_nil, Nat.reduceEqDiff, if_true, if_false, decide_false, reduceCtorEq, give, V.hasSl, C.isSl, V.strip, C.strip, feeds, List.append_nil, Bool.false_eq_true, List.getElem?_toArray, constC, List.getElem?_cons_zero, List.getElem?_cons_succ, Option.bind_some, bb_ft, pickV, cellsB, c3]
          refine ⟨_, rfl, ?_⟩
          exact Round.out ⟨rfl, by rw [h6]; rfl, by rw [h6]; subst h3; rfl⟩)
      simp only at q2 q3
      subst q2
      simp only [q1, getT, Nat.reduceEqDiff, if_true, if_false, q3]
    · rw [if_neg (fun h => h.elim c1 c2)] at hA
      simp only [resTmpsR, List.filterMap, evC_skip, evC_ret, evC_region, evC_seq, evC_cond, evC_loop, blockEx, feedL, feedOf, runL, stepW, wantedV, Ev.step, opv, ev, getT, binV, intOp, put, params, constV, keep, List.map, List.contains_nil, Bool.or_self, Nat.reduceEqDiff, if_true, if_false, decide_false, reduceCtorEq, Nat.reduceBEq, give, gives, V.hasSl, C.isSl, V.strip, C.strip, feeds, List.append_nil, List.nil_append, List.contains_cons, Bool.false_eq_true, List.getElem?_toArray, List.length_cons, constC, lenV, List.getElem?_cons_zero, List.getElem?_cons_succ, Bool.or_false, beq_self_eq_true, Bool.and_true, Bool.false_and, readV, List.drop_zero, List.length_nil, Nat.zero_add, Option.bind_some, List.drop_succ_cons, List.take_zero, cond_false, List.getElem?_nil, List.map_cons, kstrip_ro, Nat.reduceAdd, finishR, resVs, resV, freezeVs, freezeV, freezeC, target, consOf, doCall, argsG, List.all_cons, List.all_nil, V.le, C.le, Ev.look, Ev.setF, Ev.setRange, List.cons_append, Nat.add_one_sub_one, cons_46, sealed_46, live_57_0, agg_43, esz_38, lay_70, und_43, h1, hls, hss, hlen, hF, hne, c1, four, bytesOf_len, e1, c2]
      generalize hL : loopE cfg (callE cfg) itE 57 [6] _ _ _ = out
      obtain ⟨ex, ⟨m, fs'⟩, q1, rfl, q2, q3⟩ := fin _ out (by rw [← hL, hA]; rfl) (fun (i, o, s) ⟨h2, h3, h4, h5⟩ => by
        simp only at h2 h3 h4 h5
        by_cases c3 : (i : Int) < N
        · cases c4 : s.2
          · have h2' : (i : Int) ≤ N ∧ N ≤ 250000 := by
              rcases h2 with h2 | h2
              · rw [c4] at h2; cases h2
              · exact h2
            have hlk := hls (cellsB s)
            have h6 := point_ev ([] :: Ev.setF F d k (cellsB s)) (n + 1) d k s (by simp [setF_len, hF]) (look_up _ (hlen _) hlk)
            have h7 : IntKind.i64.wrap ((i : Int) + 1) = ((i + 1 : Nat) : Int) := by rw [wrap64] <;> omega
            have h8 : (encR o).length + 1 < 8278675785607 := by simp [encR]; omega
            have h9 : ¬(i + 1 = 0) := by omega
            simp only [cellsB, c4] at h6
            by_cases h0 : i = 0
            · have hk : (if i = 0 then K.nil else K.own) = K.nil := if_pos h0
              simp only [σ, evC_skip, evC_region, evC_seq, evC_cond, evC_bregion, blockEx, feedL, feedOf, runL, stepW, wantedV, Ev.step, opv, ev, getT, binV, intOp, unV, put, constV, List.map, List.contains_nil, Bool.or_self, Nat.reduceEqDiff, if_true, if_false, decide_true, reduceCtorEq, Nat.reduceBEq, give, gives, V.hasSl, C.isSl, V.strip, C.strip, feeds, List.append_nil, List.nil_append, List.contains_cons, Bool.false_eq_true, List.getElem?_toArray, List.length_cons, constC, List.getElem?_cons_zero, List.getElem?_cons_succ, Bool.or_false, beq_self_eq_true, Bool.not_false, Bool.and_true, Bool.false_and, and_self, or_false, readV, List.drop_zero, fillE, V.cells, toDs, C.toD, appendV, tailD, appOK, List.replicate, List.length_nil, Nat.zero_add, cfg_arr, Option.bind_some, List.drop_succ_cons, List.take_succ_cons, List.take_zero, cond_true, List.set_cons_zero, List.getElem?_nil, kstrip_own, kstrip_nil, Nat.lt_add_one, Nat.zero_lt_succ, Nat.reduceAdd, Nat.reduceLeDiff, Nat.one_mul, target, consOf, doCall, argsG, List.all_cons, List.all_nil, V.le, C.le, Ev.newObj, Ev.look, Ev.setF, Ev.setRange, List.cons_append, Nat.add_one_sub_one, agg_4, esz_38, elemT_38, lay_70, zero_41, und_38, elemI_38, sealed_58, cellsB, hk, h6, hls, hss, hlen, hne, c3, c4, h7, h8]
              refine ⟨_, rfl, ?_⟩
              exact Round.again (i + 1, o ++ [(pointB s).1], (pointB s).2) (by simp only [← enc1, h9, if_false]; rfl) ⟨by omega, by simp [h3], Nat.le_trans (pointB_len s) h4, again i o s c4 c3 h5⟩ (by simp only; omega)
            · simp only [σ, evC_skip, evC_region, evC_seq, evC_cond, evC_bregion, blockEx, feedL, feedOf, runL, stepW, wantedV, Ev.step, opv, ev, getT, binV, intOp, unV, put, constV, List.map, List.contains_nil, Bool.or_self, Nat.reduceEqDiff, if_true, if_false, decide_true, reduceCtorEq, Nat.reduceBEq, give, gives, V.hasSl, C.isSl, V.strip, C.strip, feeds, List.append_nil, List.nil_append, List.contains_cons, Bool.false_eq_true, List.getElem?_toArray, List.length_cons, constC, List.getElem?_cons_zero, List.getElem?_cons_succ, Bool.or_false, beq_self_eq_true, Bool.not_false, Bool.and_true, Bool.false_and, and_self, or_false, readV, List.drop_zero, fillE, V.cells, toDs, C.toD, appendV, tailD, appOK, List.replicate, List.length_nil, Nat.zero_add, cfg_arr, Option.bind_some, List.drop_succ_cons, List.take_succ_cons, List.take_zero, cond_true, List.set_cons_zero, List.getElem?_nil, kstrip_own, Nat.lt_add_one, Nat.zero_lt_succ, Nat.reduceAdd, Nat.reduceLeDiff, Nat.one_mul, target, consOf, doCall, argsG, List.all_cons, List.all_nil, V.le, C.le, Ev.newObj, Ev.look, Ev.setF, Ev.setRange, List.cons_append, Nat.add_one_sub_one, agg_4, esz_38, elemT_38, lay_70, zero_41, und_38, elemI_38, sealed_58, cellsB, h0, h6, hls, hss, hlen, hne, c3, c4, h7, h8]
              refine ⟨_, rfl, ?_⟩
              exact Round.again (i + 1, o ++ [(pointB s).1], (pointB s).2) (by simp only [← enc1, h9, if_false]; rfl) ⟨by omega, by simp [h3], Nat.le_trans (pointB_len s) h4, again i o s c4 c3 h5⟩ (by simp only; omega)
          · have h6 := round i o s h2 h3 h4 h5 (.inr c4)
            simp only [σ, evC_exit, evC_region, evC_seq, evC_cond, feedL, feedOf, runL, stepW, wantedV, Ev.step, opv, ev, getT, binV, intOp, unV, put, constV, List.contains_nil, Nat.reduceEqDiff, if_true, if_false, decide_true, reduceCtorEq, give, V.hasSl, C.isSl, V.strip, C.strip, feeds, List.append_nil, List.nil_append, Bool.false_eq_true, List.getElem?_toArray, List.length_cons, constC, List.getElem?_cons_zero, List.getElem?_cons_succ, beq_self_eq_true, Bool.not_true, Bool.false_and, readV, List.drop_zero, List.length_nil, Nat.zero_add, Option.bind_some, List.drop_succ_cons, List.take_succ_cons, List.take_zero, Bool.not_true, cond_true, List.getElem?_nil, Nat.reduceAdd, Ev.look, Ev.setF, Ev.setRange, List.cons_append, Nat.add_one_sub_one, agg_4, lay_70, cellsB, hls, hss, hlen, hne, c3, c4]
            refine ⟨_, rfl, ?_⟩
            exact Round.out ⟨rfl, by rw [h6]; simp only [c4]; rfl, by rw [h6]; subst h3; rfl⟩
        · have h6 := round i o s h2 h3 h4 h5 (.inl c3)
          simp only [σ, evC_exit, evC_region, evC_seq, evC_cond, feedL, feedOf, runL, stepW, wantedV, Ev.step, opv, ev, getT, binV, intOp, put, constV, List.contains_nil, Nat.reduceEqDiff, if_true, if_false, decide_false, reduceCtorEq, give, V.hasSl, C.isSl, V.strip, C.strip, feeds, List.append_nil, Bool.false_eq_true, List.getElem?_toArray, constC, List.getElem?_cons_zero, List.getElem?_cons_succ, Option.bind_some, bb_ft, pickV, cellsB, c3]
          refine ⟨_, rfl, ?_⟩
          exact Round.out ⟨rfl, by rw [h6]; rfl, by rw [h6]; subst h3; rfl⟩)
      simp only at q2 q3
      subst q2
      simp only [q1, getT, Nat.reduceEqDiff, if_true, if_false, q3]

def ringB (s : St) : Rg × St := manyB pointB 3 s
theorem ringB_len (s : St) : (ringB s).2.1.length ≤ s.1.length := manyB_len pointB_len 3 s

theorem ring_ev (F : Frames) (n d k : Nat) (s : St) (hF : F.length = n + 1) (hl : Ev.look F d k = some (cellsB s)) (hb : s.1.length ≤ 1000000) :
    callE cfg 48 [.c (.ptr d k 0)] F = some (some (.c (.sl (if (ringB s).1.length = 0 then .nil else .own) 2 (encR (ringB s).1))), Ev.setF F d k (cellsB (ringB s).2)) := by
  have hlt := look_lt hl
  rw [hF] at hlt
  have hne : ¬(d = n + 1) := by omega
  have hlen : ∀ o, (Ev.setF F d k o).length = n + 1 := fun o => by rw [setF_len, hF]
  refine callE_code (fn := Tryz.f48) (rs := [.tmp 2]) (by kernel_rfl) (by kernel_rfl) (by kernel_rfl) rfl rfl rfl (by show 1 ≤ 5; decide) ?_
  have h1 := many57_ev ([] :: F) (n + 1) d k 3 (by omega) s (by simp [hF]) (look_up _ hF hl) hb
  simp only [resTmpsR, List.filterMap, evC_ret, evC_region, evC_seq, feedL, feedOf, runL, stepW, wantedV, Ev.step, opv, ev, getT, put, params, constV, List.map, List.contains_nil, Bool.or_self, Nat.reduceEqDiff, if_true, if_false, reduceCtorEq, Nat.reduceBEq, give, gives, V.hasSl, C.isSl, V.strip, C.strip, feeds, List.append_nil, List.nil_append, List.contains_cons, Bool.false_eq_true, constC, Bool.or_false, beq_self_eq_true, Bool.and_true, finishR, resVs, resV, freezeVs, freezeV, freezeC, target, consOf, doCall, argsG, List.all_cons, List.all_nil, V.le, C.le, C.leL, Ev.setF, Nat.add_one_sub_one, cons_57, sealed_57, esz_39, h1, hF, hne, ringB]
  rfl

set_option maxHeartbeats 1000000 in
theorem many45_ev (F : Frames) (n d k : Nat) (few : Int) (hfew : 0 ≤ few) (s : St) (hF : F.length = n + 1) (hl : Ev.look F d k = some (cellsB s)) (hb : s.1.length ≤ 1000000) :
    callE cfg 47 [.c (.ptr d k 0), .c (.int .i64 few), .c (.fn (.func 48) [] [])] F = some (some (.c (.sl (if (manyB ringB few s).1.length = 0 then .nil else .own) 1 (encG (manyB ringB few s).1))), Ev.setF F d k (cellsB (manyB ringB few s).2)) := by
  have hlt := look_lt hl
  rw [hF] at hlt
  have hne : ¬(d = n + 1) := by omega
  have hss := setF_setF F d k
  have hls := fun o => look_setF (o := o) hl
  have hlen : ∀ o, (Ev.setF F d k o).length = n + 1 := fun o => by rw [setF_len, hF]
  refine callE_code (fn := Tryz.f47) (rs := [.tmp 6]) (by kernel_rfl) (by kernel_rfl) (by kernel_rfl) rfl rfl rfl (by show 3 ≤ 47; decide) ?_
  have h1 := num_ev ([] :: F) (n + 1) d k s (by simp [hF]) (look_up _ hF hl)
  simp only [cellsB] at h1 hl
  generalize hN : (numB s).1 = N at h1
  generalize hs1 : (numB s).2 = s1 at h1
  have hs1l : s1.1.length ≤ 1000000 := by have := numB_len s; rw [hs1] at this; omega
  have e1 : IntKind.i64.wrap ((s1.1.length : Int).tdiv 4) = (s1.1.length : Int).tdiv 4 := by
    rw [Int.tdiv_eq_ediv_of_nonneg (by omega), wrap64] <;> omega
  have hA : afterN few s = if N < few ∨ N > (s1.1.length : Int).tdiv 4 then (s1.1, true) else s1 := by unfold afterN; rw [hN, hs1]
  have hM : manyB ringB few s = loopB ringB N.toNat (afterN few s) := by unfold manyB; rw [hN]
  have hal : (afterN few s).1.length ≤ 1000000 := Nat.le_trans (afterN_len few s) hb
  have hab : (afterN few s).2 = true ∨ (0 ≤ N ∧ N ≤ 250000) := by
    rw [hA]
    split
    · exact .inl rfl
    · rename_i hc
      rw [Int.tdiv_eq_ediv_of_nonneg (by omega)] at hc
      exact .inr (by omega)
  have four : (4 : Int) = 0 ↔ False := by decide
  generalize hA2 : afterN few s = s2 at hA hM hal hab
  let σ : Nat × List (Rg) × St → S := fun (i, o, s) => { m := [(0, .c (.ptr d k 0)), (2, .c (.fn (.func 48) [] [])), (7, .c (.int .i64 N)), (8, .c (.sl (if i = 0 then .nil else .own) 1 (encG o))), (9, .c (.int .i64 i))], fs := [] :: Ev.setF F d k (cellsB s) }
  have fin : ∀ (b : Code) (out : Out), loopE cfg (callE cfg) itE 47 [6] b [0, 2, 7, 8, 9] (σ (0, [], s2)) = out →
      (∀ a : Nat × List (Rg) × St, ((a.2.2.2 = true ∨ ((a.1 : Int) ≤ N ∧ N ≤ 250000)) ∧ a.2.1.length = a.1 ∧ a.2.2.1.length ≤ 1000000 ∧ loopB ringB N.toNat s2 = (a.2.1 ++ (loopB ringB (N.toNat - a.1) a.2.2).1, (loopB ringB (N.toNat - a.1) a.2.2).2)) →
        ∃ y, evC cfg (callE cfg) itE 47 [6] b (σ a) = some y ∧ Round [0, 2, 7, 8, 9] σ (fun a => N.toNat - a.1) (fun a => (a.2.2.2 = true ∨ ((a.1 : Int) ≤ N ∧ N ≤ 250000)) ∧ a.2.1.length = a.1 ∧ a.2.2.1.length ≤ 1000000 ∧ loopB ringB N.toNat s2 = (a.2.1 ++ (loopB ringB (N.toNat - a.1) a.2.2).1, (loopB ringB (N.toNat - a.1) a.2.2).2))
        (fun ex st => ex = .exit 0 ∧ st.fs = [] :: Ev.setF F d k (cellsB (loopB ringB N.toNat s2).2) ∧ getT st.m 8 = .c (.sl (if (loopB ringB N.toNat s2).1.length = 0 then .nil else .own) 1 (encG (loopB ringB N.toNat s2).1))) (N.toNat - a.1) y) →
      ∃ ex st, out = some (ex, st) ∧ ex = .exit 0 ∧ st.fs = [] :: Ev.setF F d k (cellsB (loopB ringB N.toNat s2).2) ∧ getT st.m 8 = .c (.sl (if (loopB ringB N.toNat s2).1.length = 0 then .nil else .own) 1 (encG (loopB ringB N.toNat s2).1)) := fun b out h hstep => by
    rw [← h]
    exact loopE_inv σ (fun a => N.toNat - a.1) _ (fun ex st => ex = .exit 0 ∧ st.fs = [] :: Ev.setF F d k (cellsB (loopB ringB N.toNat s2).2) ∧ getT st.m 8 = .c (.sl (if (loopB ringB N.toNat s2).1.length = 0 then .nil else .own) 1 (encG (loopB ringB N.toNat s2).1))) hstep (0, [], s2) ⟨by omega, rfl, hal, rfl⟩
  have round : ∀ (i : Nat) (o : List (Rg)) (s : St), (s.2 = true ∨ ((i : Int) ≤ N ∧ N ≤ 250000)) → o.length = i → s.1.length ≤ 1000000 → loopB ringB N.toNat s2 = (o ++ (loopB ringB (N.toNat - i) s).1, (loopB ringB (N.toNat - i) s).2) →
      (¬((i : Int) < N) ∨ s.2 = true) → loopB ringB N.toNat s2 = (o, s) := fun i o s h2 h3 h4 h5 h6 => by
    have : loopB ringB (N.toNat - i) s = ([], s) := by
      rcases h6 with h6 | h6
      · rw [show N.toNat - i = 0 by omega]; rfl
      · cases N.toNat - i with
        | zero => rfl
        | succ m => simp only [loopB, h6, if_true]
    rw [h5, this]
    simp
  have again : ∀ (i : Nat) (o : List (Rg)) (s : St), s.2 = false → (i : Int) < N → loopB ringB N.toNat s2 = (o ++ (loopB ringB (N.toNat - i) s).1, (loopB ringB (N.toNat - i) s).2) →
      loopB ringB N.toNat s2 = (o ++ [(ringB s).1] ++ (loopB ringB (N.toNat - (i + 1)) (ringB s).2).1, (loopB ringB (N.toNat - (i + 1)) (ringB s).2).2) := fun i o s h1 h2 h3 => by
    rw [h3, show N.toNat - i = (N.toNat - (i + 1)) + 1 by omega]
    simp [loopB, h1]
  have enc1 : ∀ (o : List (Rg)) x, encG o ++ [[.sl 2 (encR x)]] = encG (o ++ [x]) := fun o x => by simp [encG]
  rw [hM]
  by_cases c1 : N < few
  · rw [if_pos (.inl c1)] at hA
    simp only [resTmpsR, List.filterMap, evC_ret, evC_region, evC_seq, evC_cond, evC_loop, blockEx, feedL, feedOf, runL, stepW, wantedV, Ev.step, opv, ev, getT, binV, intOp, put, params, constV, keep, List.map, List.contains_nil, Bool.or_self, Nat.reduceEqDiff, if_true, if_false, decide_true, reduceCtorEq, Nat.reduceBEq, give, gives, V.hasSl, C.isSl, V.strip, C.strip, feeds, List.append_nil, List.nil_append, List.contains_cons, Bool.false_eq_true, List.getElem?_toArray, List.length_cons, constC, List.getElem?_cons_zero, List.getElem?_cons_succ, Bool.or_false, beq_self_eq_true, Bool.and_true, and_self, List.drop_zero, V.cells, List.length_nil, Nat.zero_add, Option.bind_some, List.drop_succ_cons, List.take_succ_cons, List.take_zero, bb_tf, List.getElem?_nil, List.map_cons, Nat.reduceAdd, finishR, resVs, resV, freezeVs, freezeV, freezeC, target, consOf, doCall, argsG, List.all_cons, List.all_nil, V.le, C.le, C.leL, Ev.look, Ev.setF, Ev.setRange, pickV, List.cons_append, Nat.le_refl, Nat.add_one_sub_one, cons_46, sealed_46, live_47_0, sz_4, esz_36, lay_70, h1, hls, hss, hlen, hF, hne, c1]
    generalize hL : loopE cfg (callE cfg) itE 47 [6] _ _ _ = out
    obtain ⟨ex, ⟨m, fs'⟩, q1, rfl, q2, q3⟩ := fin _ out (by rw [← hL, hA]; rfl) (fun (i, o, s) ⟨h2, h3, h4, h5⟩ => by
      simp only at h2 h3 h4 h5
      by_cases c3 : (i : Int) < N
      · cases c4 : s.2
        · have h2' : (i : Int) ≤ N ∧ N ≤ 250000 := by
            rcases h2 with h2 | h2
            · rw [c4] at h2; cases h2
            · exact h2
          have hlk := hls (cellsB s)
          have h6 := ring_ev ([] :: Ev.setF F d k (cellsB s)) (n + 1) d k s (by simp [setF_len, hF]) (look_up _ (hlen _) hlk) h4
          have h7 : IntKind.i64.wrap ((i : Int) + 1) = ((i + 1 : Nat) : Int) := by rw [wrap64] <;> omega
          have h8 : (encG o).length + 1 < 5629499534213 := by simp [encG]; omega
          have h9 : ¬(i + 1 = 0) := by omega
          simp only [cellsB, c4] at h6
          by_cases h0 : i = 0
          · have hk : (if i = 0 then K.nil else K.own) = K.nil := if_pos h0
            simp only [σ, evC_skip, evC_region, evC_seq, evC_cond, evC_bregion, blockEx, feedL, feedOf, runL, stepW, wantedV, Ev.step, opv, ev, getT, binV, intOp, unV, put, constV, List.map, List.contains_nil, Bool.or_self, Nat.reduceEqDiff, if_true, if_false, decide_true, reduceCtorEq, Nat.reduceBEq, give, gives, V.hasSl, C.isSl, V.strip, C.strip, feeds, List.append_nil, List.nil_append, List.contains_cons, Bool.false_eq_true, List.getElem?_toArray, List.length_cons, constC, List.getElem?_cons_zero, List.getElem?_cons_succ, Bool.or_false, beq_self_eq_true, Bool.not_false, Bool.and_true, Bool.false_and, and_self, or_false, readV, List.drop_zero, fillE, V.cells, toDs, C.toD, appendV, tailD, appOK, List.replicate, List.length_nil, Nat.zero_add, cfg_arr, Option.bind_some, List.drop_succ_cons, List.take_succ_cons, List.take_zero, cond_true, List.set_cons_zero, List.getElem?_nil, kstrip_own, kstrip_nil, Nat.lt_add_one, Nat.reduceAdd, Nat.reduceLeDiff, Nat.mul_one, target, consOf, doCall, argsG, List.all_cons, List.all_nil, V.le, C.le, Ev.newObj, Ev.look, Ev.setF, Ev.setRange, List.cons_append, Nat.add_one_sub_one, sealed_48, agg_4, esz_36, elemT_36, lay_70, zero_39, und_36, elemI_36, sealed_48, cellsB, hk, h6, hls, hss, hlen, hne, c3, c4, h7, h8]
            refine ⟨_, rfl, ?_⟩
            exact Round.again (i + 1, o ++ [(ringB s).1], (ringB s).2) (by simp only [← enc1, h9, if_false]; rfl) ⟨by omega, by simp [h3], Nat.le_trans (ringB_len s) h4, again i o s c4 c3 h5⟩ (by simp only; omega)
          · simp only [σ, evC_skip, evC_region, evC_seq, evC_cond, evC_bregion, blockEx, feedL, feedOf, runL, stepW, wantedV, Ev.step, opv, ev, getT, binV, intOp, unV, put, constV, List.map, List.contains_nil, Bool.or_self, Nat.reduceEqDiff, if_true, if_false, decide_true, reduceCtorEq, Nat.reduceBEq, give, gives, V.hasSl, C.isSl, V.strip, C.strip, feeds, List.append_nil, List.nil_append, List.contains_cons, Bool.false_eq_true, List.getElem?_toArray, List.length_cons, constC, List.getElem?_cons_zero, List.getElem?_cons_succ, Bool.or_false, beq_self_eq_true, Bool.not_false, Bool.and_true, Bool.false_and, and_self, or_false, readV, List.drop_zero, fillE, V.cells, toDs, C.toD, appendV, tailD, appOK, List.replicate, List.length_nil, Nat.zero_add, cfg_arr, Option.bind_some, List.drop_succ_cons, List.take_succ_cons, List.take_zero, cond_true, List.set_cons_zero, List.getElem?_nil, kstrip_own, Nat.lt_add_one, Nat.reduceAdd, Nat.reduceLeDiff, Nat.mul_one, target, consOf, doCall, argsG, List.all_cons, List.all_nil, V.le, C.le, Ev.newObj, Ev.look, Ev.setF, Ev.setRange, List.cons_append, Nat.add_one_sub_one, sealed_48, agg_4, esz_36, elemT_36, lay_70, zero_39, und_36, elemI_36, sealed_48, cellsB, h0, h6, hls, hss, hlen, hne, c3, c4, h7, h8]
            refine ⟨_, rfl, ?_⟩
            exact Round.again (i + 1, o ++ [(ringB s).1], (ringB s).2) (by simp only [← enc1, h9, if_false]; rfl) ⟨by omega, by simp [h3], Nat.le_trans (ringB_len s) h4, again i o s c4 c3 h5⟩ (by simp only; omega)
        · have h6 := round i o s h2 h3 h4 h5 (.inr c4)
          simp only [σ, evC_exit, evC_region, evC_seq, evC_cond, feedL, feedOf, runL, stepW, wantedV, Ev.step, opv, ev, getT, binV, intOp, unV, put, constV, List.contains_nil, Nat.reduceEqDiff, if_true, if_false, decide_true, reduceCtorEq, give, V.hasSl, C.isSl, V.strip, C.strip, feeds, List.append_nil, List.nil_append, Bool.false_eq_true, List.getElem?_toArray, List.length_cons, constC, List.getElem?_cons_zero, List.getElem?_cons_succ, beq_self_eq_true, Bool.not_true, Bool.false_and, readV, List.drop_zero, List.length_nil, Nat.zero_add, Option.bind_some, List.drop_succ_cons, List.take_succ_cons, List.take_zero, Bool.not_true, cond_true, List.getElem?_nil, Nat.reduceAdd, Ev.look, Ev.setF, Ev.setRange, List.cons_append, Nat.add_one_sub_one, agg_4, lay_70, cellsB, hls, hss, hlen, hne, c3, c4]
          refine ⟨_, rfl, ?_⟩
          exact Round.out ⟨rfl, by rw [h6]; simp only [c4]; rfl, by rw [h6]; subst h3; rfl⟩
      · have h6 := round i o s h2 h3 h4 h5 (.inl c3)
        simp only [σ, evC_exit, evC_region, evC_seq, evC_cond, feedL, feedOf, runL, stepW, wantedV, Ev.step, opv, ev, getT, binV, intOp, put, constV, List.contains_nil, Nat.reduceEqDiff, if_true, if_false, decide_false, reduceCtorEq, give, V.hasSl, C.isSl, V.strip, C.strip, feeds, List.append_nil, Bool.false_eq_true, List.getElem?_toArray, constC, List.getElem?_cons_zero, List.getElem?_cons_succ, Option.bind_some, bb_ft, pickV, cellsB, c3]
        refine ⟨_, rfl, ?_⟩
        exact Round.out ⟨rfl, by rw [h6]; rfl, by rw [h6]; subst h3; rfl⟩)
    simp only at q2 q3
    subst q2
    simp only [q1, getT, Nat.reduceEqDiff, if_true, if_false, q3]
  · by_cases c2 : N > (s1.1.length : Int).tdiv 4
    · rw [if_pos (.inr c2)] at hA
      simp only [resTmpsR, List.filterMap, evC_ret, evC_region, evC_seq, evC_cond, evC_loop, blockEx, feedL, feedOf, runL, stepW, wantedV, Ev.step, opv, ev, getT, binV, intOp, put, params, constV, keep, List.map, List.contains_nil, Bool.or_self, Nat.reduceEqDiff, if_true, if_false, decide_true, decide_false, reduceCtorEq, Nat.reduceBEq, give, gives, V.hasSl, C.isSl, V.strip, C.strip, feeds, List.append_nil, List.nil_append, List.contains_cons, Bool.false_eq_true, List.getElem?_toArray, List.length_cons, constC, lenV, List.getElem?_cons_zero, List.getElem?_cons_succ, Bool.or_false, beq_self_eq_true, Bool.and_true, Bool.false_and, and_self, readV, List.drop_zero, V.cells, List.length_nil, Nat.zero_add, Option.bind_some, List.drop_succ_cons, List.take_succ_cons, List.take_zero, cond_false, List.getElem?_nil, List.map_cons, kstrip_ro, Nat.reduceAdd, finishR, resVs, resV, freezeVs, freezeV, freezeC, target, consOf, doCall, argsG, List.all_cons, List.all_nil, V.le, C.le, C.leL, Ev.look, Ev.setF, Ev.setRange, List.cons_append, Nat.le_refl, Nat.add_one_sub_one, cons_46, sealed_46, live_47_0, sz_4, agg_43, esz_36, lay_70, und_43, h1, hls, hss, hlen, hF, hne, c1, four, bytesOf_len, e1, c2]
      generalize hL : loopE cfg (callE cfg) itE 47 [6] _ _ _ = out
      obtain ⟨ex, ⟨m, fs'⟩, q1, rfl, q2, q3⟩ := fin _ out (by rw [← hL, hA]; rfl) (fun (i, o, s) ⟨h2, h3, h4, h5⟩ => by
        simp only at h2 h3 h4 h5
        by_cases c3 : (i : Int) < N
        · cases c4 : s.2
          · have h2' : (i : Int) ≤ N ∧ N ≤ 250000 := by
              rcases h2 with h2 | h2
              · rw [c4] at h2; cases h2
              · exact h2
            have hlk := hls (cellsB s)
            have h6 := ring_ev ([] :: Ev.setF F d k (cellsB s)) (n + 1) d k s (by simp [setF_len, hF]) (look_up _ (hlen _) hlk) h4
            have h7 : IntKind.i64.wrap ((i : Int) + 1) = ((i + 1 : Nat) : Int) := by rw [wrap64] <;> omega
            have h8 : (encG o).length + 1 < 5629499534213 := by simp [encG]; omega
            have h9 : ¬(i + 1 = 0) := by omega
            simp only [cellsB, c4] at h6
            by_cases h0 : i = 0
            · have hk : (if i = 0 then K.nil else K.own) = K.nil := if_pos h0
              simp only [σ, evC_skip, evC_region, evC_seq, evC_cond, evC_bregion, blockEx, feedL, feedOf, runL, stepW, wantedV, Ev.step, opv, ev, getT, binV, intOp, unV, put, constV, List.map, List.contains_nil, Bool.or_self, Nat.reduceEqDiff, if_true, if_false, decide_true, reduceCtorEq, Nat.reduceBEq, give, gives, V.hasSl, C.isSl, V.strip, C.strip, feeds, List.append_nil, List.nil_append, List.contains_cons, Bool.false_eq_true, List.getElem?_toArray, List.length_cons, constC, List.getElem?_cons_zero, List.getElem?_cons_succ, Bool.or_false, beq_self_eq_true, Bool.not_false, Bool.and_true, Bool.false_and, and_self, or_false, readV, List.drop_zero, fillE, V.cells, toDs, C.toD, appendV, tailD, appOK, List.replicate, List.length_nil, Nat.zero_add, cfg_arr, Option.bind_some, List.drop_succ_cons, List.take_succ_cons, List.take_zero, cond_true, List.set_cons_zero, List.getElem?_nil, kstrip_own, kstrip_nil, Nat.lt_add_one, Nat.reduceAdd, Nat.reduceLeDiff, Nat.mul_one, target, consOf, doCall, argsG, List.all_cons, List.all_nil, V.le, C.le, Ev.newObj, Ev.look, Ev.setF, Ev.setRange, List.cons_append, Nat.add_one_sub_one, sealed_48, agg_4, esz_36, elemT_36, lay_70, zero_39, und_36, elemI_36, sealed_48, cellsB, hk, h6, hls, hss, hlen, hne, c3, c4, h7, h8]
              refine ⟨_, rfl, ?_⟩
              exact Round.again (i + 1, o ++ [(ringB s).1], (ringB s).2) (by simp only [← enc1, h9, if_false]; rfl) ⟨by omega, by simp [h3], Nat.le_trans (ringB_len s) h4, again i o s c4 c3 h5⟩ (by simp only; omega)
            · simp only [σ, evC_skip, evC_region, evC_seq, evC_cond, evC_bregion, blockEx, feedL, feedOf, runL, stepW, wantedV, Ev.step, opv, ev, getT, binV, intOp, unV, put, constV, List.map, List.contains_nil, Bool.or_self, Nat.reduceEqDiff, if_true, if_false, decide_true, reduceCtorEq, Nat.reduceBEq, give, gives, V.hasSl, C.isSl, V.strip, C.strip, feeds, List.append_nil, List.nil_append, List.contains_cons, Bool.false_eq_true, List.getElem?_toArray, List.length_cons, constC, List.getElem?_cons_zero, List.getElem?_cons_succ, Bool.or_false, beq_self_eq_true, Bool.not_false, Bool.and_true, Bool.false_and, and_self, or_false, readV, List.drop_zero, fillE, V.cells, toDs, C.toD, appendV, tailD, appOK, List.replicate, List.length_nil, Nat.zero_add, cfg_arr, Option.bind_some, List.drop_succ_cons, List.take_succ_cons, List.take_zero, cond_true, List.set_cons_zero, List.getElem?_nil, kstrip_own, Nat.lt_add_one, Nat.reduceAdd, Nat.reduceLeDiff, Nat.mul_one, target, consOf, doCall, argsG, List.all_cons, List.all_nil, V.le, C.le, Ev.newObj, Ev.look, Ev.setF, Ev.setRange, List.cons_append, Nat.add_one_sub_one, sealed_48, agg_4, esz_36, elemT_36, lay_70, zero_39, und_36, elemI_36, sealed_48, cellsB, h0, h6, hls, hss, hlen, hne, c3, c4, h7, h8]
              refine ⟨_, rfl, ?_⟩
              exact Round.again (i + 1, o ++ [(ringB s).1], (ringB s).2) (by simp only [← enc1, h9, if_false]; rfl) ⟨by omega, by simp [h3], Nat.le_trans (ringB_len s) h4, again i o s c4 c3 h5⟩ (by simp only; omega)
          · have h6 := round i o s h2 h3 h4 h5 (.inr c4)
            simp only [σ, evC_exit, evC_region, evC_seq, evC_cond, feedL, feedOf, runL, stepW, wantedV, Ev.step, opv, ev, getT, binV, intOp, unV, put, constV, List.contains_nil, Nat.reduceEqDiff, if_true, if_false, decide_true, reduceCtorEq, give, V.hasSl, C.isSl, V.strip, C.strip, feeds, List.append_nil, List.nil_append, Bool.false_eq_true, List.getElem?_toArray, List.length_cons, constC, List.getElem?_cons_zero, List.getElem?_cons_succ, beq_self_eq_true, Bool.not_true, Bool.false_and, readV, List.drop_zero, List.length_nil, Nat.zero_add, Option.bind_some, List.drop_succ_cons, List.take_succ_cons, List.take_zero, Bool.not_true, cond_true, List.getElem?_nil, Nat.reduceAdd, Ev.look, Ev.setF, Ev.setRange, List.cons_append, Nat.add_one_sub_one, agg_4, lay_70, cellsB, hls, hss, hlen, hne, c3, c4]
            refine ⟨_, rfl, ?_⟩
            exact Round.out ⟨rfl, by rw [h6]; simp only [c4]; rfl, by rw [h6]; subst h3; rfl⟩
        · have h6 := round i o s h2 h3 h4 h5 (.inl c3)
          simp only [σ, evC_exit, evC_region, evC_seq, evC_cond, feedL, feedOf, runL, stepW, wantedV, Ev.step, opv, ev, getT, binV, intOp, put, constV, List.contains_nil, Nat.reduceEqDiff, if_true, if_false, decide_false, reduceCtorEq, give, V.hasSl, C.isSl, V.strip, C.strip, feeds, List.append_nil, Bool.false_eq_true, List.getElem?_toArray, constC, List.getElem?_cons_zero, List.getElem?_cons_succ, Option.bind_some, bb_ft, pickV, cellsB, c3]
          refine ⟨_, rfl, ?_⟩
          exact Round.out ⟨rfl, by rw [h6]; rfl, by rw [h6]; subst h3; rfl⟩)
      simp only at q2 q3
      subst q2
      simp only [q1, getT, Nat.reduceEqDiff, if_true, if_false, q3]
    · rw [if_neg (fun h => h.elim c1 c2)] at hA
      simp only [resTmpsR, List.filterMap, evC_skip, evC_ret, evC_region, evC_seq, evC_cond, evC_loop, blockEx, feedL, feedOf, runL, stepW, wantedV, Ev.step, opv, ev, getT, binV, intOp, put, params, constV, keep, List.map, List.contains_nil, Bool.or_self, Nat.reduceEqDiff, if_true, if_false, decide_false, reduceCtorEq, Nat.reduceBEq, give, gives, V.hasSl, C.isSl, V.strip, C.strip, feeds, List.append_nil, List.nil_append, List.contains_cons, Bool.false_eq_true, List.getElem?_toArray, List.length_cons, constC, lenV, List.getElem?_cons_zero, List.getElem?_cons_succ, Bool.or_false, beq_self_eq_true, Bool.and_true, Bool.false_and, readV, List.drop_zero, List.length_nil, Nat.zero_add, Option.bind_some, List.drop_succ_cons, List.take_zero, cond_false, List.getElem?_nil, List.map_cons, kstrip_ro, Nat.reduceAdd, finishR, resVs, resV, freezeVs, freezeV, freezeC, target, consOf, doCall, argsG, List.all_cons, List.all_nil, V.le, C.le, Ev.look, Ev.setF, Ev.setRange, List.cons_append, Nat.add_one_sub_one, cons_46, sealed_46, live_47_0, agg_43, esz_36, lay_70, und_43, h1, hls, hss, hlen, hF, hne, c1, four, bytesOf_len, e1, c2]
      generalize hL : loopE cfg (callE cfg) itE 47 [6] _ _ _ = out
      obtain ⟨ex, ⟨m, fs'⟩, q1, rfl, q2, q3⟩ := fin _ out (by rw [← hL, hA]; rfl) (fun (i, o, s) ⟨h2, h3, h4, h5⟩ => by
        simp only at h2 h3 h4 h5
        by_cases c3 : (i : Int) < N
        · cases c4 : s.2
          · have h2' : (i : Int) ≤ N ∧ N ≤ 250000 := by
              rcases h2 with h2 | h2
              · rw [c4] at h2; cases h2
              · exact h2
            have hlk := hls (cellsB s)
            have h6 := ring_ev ([] :: Ev.setF F d k (cellsB s)) (n + 1) d k s (by simp [setF_len, hF]) (look_up _ (hlen _) hlk) h4
            have h7 : IntKind.i64.wrap ((i : Int) + 1) = ((i + 1 : Nat) : Int) := by rw [wrap64] <;> omega
            have h8 : (encG o).length + 1 < 5629499534213 := by simp [encG]; omega
            have h9 : ¬(i + 1 = 0) := by omega
            simp only [cellsB, c4] at h6
            by_cases h0 : i = 0
            · have hk : (if i = 0 then K.nil else K.own) = K.nil := if_pos h0
              simp only [σ, evC_skip, evC_region, evC_seq, evC_cond, evC_bregion, blockEx, feedL, feedOf, runL, stepW, wantedV, Ev.step, opv, ev, getT, binV, intOp, unV, put, constV, List.map, List.contains_nil, Bool.or_self, Nat.reduceEqDiff, if_true, if_false, decide_true, reduceCtorEq, Nat.reduceBEq, give, gives, V.hasSl, C.isSl, V.strip, C.strip, feeds, List.append_nil, List.nil_append, List.contains_cons, Bool.false_eq_true, List.getElem?_toArray, List.length_cons, constC, List.getElem?_cons_zero, List.getElem?_cons_succ, Bool.or_false, beq_self_eq_true, Bool.not_false, Bool.and_true, Bool.false_and, and_self, or_false, readV, List.drop_zero, fillE, V.cells, toDs, C.toD, appendV, tailD, appOK, List.replicate, List.length_nil, Nat.zero_add, cfg_arr, Option.bind_some, List.drop_succ_cons, List.take_succ_cons, List.take_zero, cond_true, List.set_cons_zero, List.getElem?_nil, kstrip_own, kstrip_nil, Nat.lt_add_one, Nat.reduceAdd, Nat.reduceLeDiff, Nat.mul_one, target, consOf, doCall, argsG, List.all_cons, List.all_nil, V.le, C.le, Ev.newObj, Ev.look, Ev.setF, Ev.setRange, List.cons_append, Nat.add_one_sub_one, sealed_48, agg_4, esz_36, elemT_36, lay_70, zero_39, und_36, elemI_36, sealed_48, cellsB, hk, h6, hls, hss, hlen, hne, c3, c4, h7, h8]
              refine ⟨_, rfl, ?_⟩
              exact Round.again (i + 1, o ++ [(ringB s).1], (ringB s).2) (by simp only [← enc1, h9, if_false]; rfl) ⟨by omega, by simp [h3], Nat.le_trans (ringB_len s) h4, again i o s c4 c3 h5⟩ (by simp only; omega)
            · simp only [σ, evC_skip, evC_region, evC_seq, evC_cond, evC_bregion, blockEx, feedL, feedOf, runL, stepW, wantedV, Ev.step, opv, ev, getT, binV, intOp, unV, put, constV, List.map, List.contains_nil, Bool.or_self, Nat.reduceEqDiff, if_true, if_false, decide_true, reduceCtorEq, Nat.reduceBEq, give, gives, V.hasSl, C.isSl, V.strip, C.strip, feeds, List.append_nil, List.nil_append, List.contains_cons, Bool.false_eq_true, List.getElem?_toArray, List.length_cons, constC, List.getElem?_cons_zero, List.getElem?_cons_succ, Bool.or_false, beq_self_eq_true, Bool.not_false, Bool.and_true, Bool.false_and, and_self, or_false, readV, List.drop_zero, fillE, V.cells, toDs, C.toD, appendV, tailD, appOK, List.replicate, List.length_nil, Nat.zero_add, cfg_arr, Option.bind_some, List.drop_succ_cons, List.take_succ_cons, List.take_zero, cond_true, List.set_cons_zero, List.getElem?_nil, kstrip_own, Nat.lt_add_one, Nat.reduceAdd, Nat.reduceLeDiff, Nat.mul_one, target, consOf, doCall, argsG, List.all_cons, List.all_nil, V.le, C.le, Ev.newObj, Ev.look, Ev.setF, Ev.setRange, List.cons_append, Nat.add_one_sub_one, sealed_48, agg_4, esz_36, elemT_36, lay_70, zero_39, und_36, elemI_36, sealed_48, cellsB, h0, h6, hls, hss, hlen, hne, c3, c4, h7, h8]
              refine ⟨_, rfl, ?_⟩
              exact Round.again (i + 1, o ++ [(ringB s).1], (ringB s).2) (by simp only [← enc1, h9, if_false]; rfl) ⟨by omega, by simp [h3], Nat.le_trans (ringB_len s) h4, again i o s c4 c3 h5⟩ (by simp only; omega)
          · have h6 := round i o s h2 h3 h4 h5 (.inr c4)
            simp only [σ, evC_exit, evC_region, evC_seq, evC_cond, feedL, feedOf, runL, stepW, wantedV, Ev.step, opv, ev, getT, binV, intOp, unV, put, constV, List.contains_nil, Nat.reduceEqDiff, if_true, if_false, decide_true, reduceCtorEq, give, V.hasSl, C.isSl, V.strip, C.strip, feeds, List.append_nil, List.nil_append, Bool.false_eq_true, List.getElem?_toArray, List.length_cons, constC, List.getElem?_cons_zero, List.getElem?_cons_succ, beq_self_eq_true, Bool.not_true, Bool.false_and, readV, List.drop_zero, List.length_nil, Nat.zero_add, Option.bind_some, List.drop_succ_cons, List.take_succ_cons, List.take_zero, Bool.not_true, cond_true, List.getElem?_nil, Nat.reduceAdd, Ev.look, Ev.setF, Ev.setRange, List.cons_append, Nat.add_one_sub_one, agg_4, lay_70, cellsB, hls, hss, hlen, hne, c3, c4]
            refine ⟨_, rfl, ?_⟩
            exact Round.out ⟨rfl, by rw [h6]; simp only [c4]; rfl, by rw [h6]; subst h3; rfl⟩
        · have h6 := round i o s h2 h3 h4 h5 (.inl c3)
          simp only [σ, evC_exit, evC_region, evC_seq, evC_cond, feedL, feedOf, runL, stepW, wantedV, Ev.step, opv, ev, getT, binV, intOp, put, constV, List.contains_nil, Nat.reduceEqDiff, if_true, if_false, decide_false, reduceCtorEq, give, V.hasSl, C.isSl, V.strip, C.strip, feeds, List.append_nil, Bool.false_eq_true, List.getElem?_toArray, constC, List.getElem?_cons_zero, List.getElem?_cons_succ, Option.bind_some, bb_ft, pickV, cellsB, c3]
          refine ⟨_, rfl, ?_⟩
          exact Round.out ⟨rfl, by rw [h6]; rfl, by rw [h6]; subst h3; rfl⟩)
      simp only at q2 q3
      subst q2
      simp only [q1, getT, Nat.reduceEqDiff, if_true, if_false, q3]

def polyB (s : St) : Pg × St := manyB ringB 1 s
theorem polyB_len (s : St) : (polyB s).2.1.length ≤ s.1.length := manyB_len ringB_len 1 s

theorem poly_ev (F : Frames) (n d k : Nat) (s : St) (hF : F.length = n + 1) (hl : Ev.look F d k = some (cellsB s)) (hb : s.1.length ≤ 1000000) :
    callE cfg 35 [.c (.ptr d k 0)] F = some (some (.c (.sl (if (polyB s).1.length = 0 then .nil else .own) 1 (encG (polyB s).1))), Ev.setF F d k (cellsB (polyB s).2)) := by
  have hlt := look_lt hl
  rw [hF] at hlt
  have hne : ¬(d = n + 1) := by omega
  have hlen : ∀ o, (Ev.setF F d k o).length = n + 1 := fun o => by rw [setF_len, hF]
  refine callE_code (fn := Tryz.f35) (rs := [.tmp 2]) (by kernel_rfl) (by kernel_rfl) (by kernel_rfl) rfl rfl rfl (by show 1 ≤ 5; decide) ?_
  have h1 := many45_ev ([] :: F) (n + 1) d k 1 (by omega) s (by simp [hF]) (look_up _ hF hl) hb
  simp only [resTmpsR, List.filterMap, evC_ret, evC_region, evC_seq, feedL, feedOf, runL, stepW, wantedV, Ev.step, opv, ev, getT, put, params, constV, List.map, List.contains_nil, Bool.or_self, Nat.reduceEqDiff, if_true, if_false, reduceCtorEq, Nat.reduceBEq, give, gives, V.hasSl, C.isSl, V.strip, C.strip, feeds, List.append_nil, List.nil_append, List.contains_cons, Bool.false_eq_true, constC, Bool.or_false, beq_self_eq_true, Bool.and_true, finishR, resVs, resV, freezeVs, freezeV, freezeC, target, consOf, doCall, argsG, List.all_cons, List.all_nil, V.le, C.le, C.leL, Ev.setF, Nat.add_one_sub_one, cons_47, sealed_47, esz_42, h1, hF, hne, polyB]
  rfl

set_option maxHeartbeats 1000000 in
theorem many24_ev (F : Frames) (n d k : Nat) (few : Int) (hfew : 0 ≤ few) (s : St) (hF : F.length = n + 1) (hl : Ev.look F d k = some (cellsB s)) (hb : s.1.length ≤ 1000000) :
    callE cfg 34 [.c (.ptr d k 0), .c (.int .i64 few), .c (.fn (.func 35) [] [])] F = some (some (.c (.sl (if (manyB polyB few s).1.length = 0 then .nil else .own) 1 (encL (manyB polyB few s).1))), Ev.setF F d k (cellsB (manyB polyB few s).2)) := by
  have hlt := look_lt hl
  rw [hF] at hlt
  have hne : ¬(d = n + 1) := by omega
  have hss := setF_setF F d k
  have hls := fun o => look_setF (o := o) hl
  have hlen : ∀ o, (Ev.setF F d k o).length = n + 1 := fun o => by rw [setF_len, hF]
  refine callE_code (fn := Tryz.f34) (rs := [.tmp 6]) (by kernel_rfl) (by kernel_rfl) (by kernel_rfl) rfl rfl rfl (by show 3 ≤ 47; decide) ?_
  have h1 := num_ev ([] :: F) (n + 1) d k s (by simp [hF]) (look_up _ hF hl)
  simp only [cellsB] at h1 hl
  generalize hN : (numB s).1 = N at h1
  generalize hs1 : (numB s).2 = s1 at h1
  have hs1l : s1.1.length ≤ 1000000 := by have := numB_len s; rw [hs1] at this; omega
  have e1 : IntKind.i64.wrap ((s1.1.length : Int).tdiv 4) = (s1.1.length : Int).tdiv 4 := by
    rw [Int.tdiv_eq_ediv_of_nonneg (by omega), wrap64] <;> omega
  have hA : afterN few s = if N < few ∨ N > (s1.1.length : Int).tdiv 4 then (s1.1, true) else s1 := by unfold afterN; rw [hN, hs1]
  have hM : manyB polyB few s = loopB polyB N.toNat (afterN few s) := by unfold manyB; rw [hN]
  have hal : (afterN few s).1.length ≤ 1000000 := Nat.le_trans (afterN_len few s) hb
  have hab : (afterN few s).2 = true ∨ (0 ≤ N ∧ N ≤ 250000) := by
    rw [hA]
    split
    · exact .inl rfl
    · rename_i hc
      rw [Int.tdiv_eq_ediv_of_nonneg (by omega)] at hc
      exact .inr (by omega)
  have four : (4 : Int) = 0 ↔ False := by decide
  generalize hA2 : afterN few s = s2 at hA hM hal hab
  let σ : Nat × List (Pg) × St → S := fun (i, o, s) => { m := [(0, .c (.ptr d k 0)), (2, .c (.fn (.func 35) [] [])), (7, .c (.int .i64 N)), (8, .c (.sl (if i = 0 then .nil else .own) 1 (encL o))), (9, .c (.int .i64 i))], fs := [] :: Ev.setF F d k (cellsB s) }
  have fin : ∀ (b : Code) (out : Out), loopE cfg (callE cfg) itE 34 [6] b [0, 2, 7, 8, 9] (σ (0, [], s2)) = out →
      (∀ a : Nat × List (Pg) × St, ((a.2.2.2 = true ∨ ((a.1 : Int) ≤ N ∧ N ≤ 250000)) ∧ a.2.1.length = a.1 ∧ a.2.2.1.length ≤ 1000000 ∧ loopB polyB N.toNat s2 = (a.2.1 ++ (loopB polyB (N.toNat - a.1) a.2.2).1, (loopB polyB (N.toNat - a.1) a.2.2).2)) →
        ∃ y, evC cfg (callE cfg) itE 34 [6] b (σ a) = some y ∧ Round [0, 2, 7, 8, 9] σ (fun a => N.toNat - a.1) (fun a => (a.2.2.2 = true ∨ ((a.1 : Int) ≤ N ∧ N ≤ 250000)) ∧ a.2.1.length = a.1 ∧ a.2.2.1.length ≤ 1000000 ∧ loopB polyB N.toNat s2 = (a.2.1 ++ (loopB polyB (N.toNat - a.1) a.2.2).1, (loopB polyB (N.toNat - a.1) a.2.2).2))
        (fun ex st => ex = .exit 0 ∧ st.fs = [] :: Ev.setF F d k (cellsB (loopB polyB N.toNat s2).2) ∧ getT st.m 8 = .c (.sl (if (loopB polyB N.toNat s2).1.length = 0 then .nil else .own) 1 (encL (loopB polyB N.toNat s2).1))) (N.toNat - a.1) y) →
      ∃ ex st, out = some (ex, st) ∧ ex = .exit 0 ∧ st.fs = [] :: Ev.setF F d k (cellsB (loopB polyB N.toNat s2).2) ∧ getT st.m 8 = .c (.sl (if (loopB polyB N.toNat s2).1.length = 0 then .nil else .own) 1 (encL (loopB polyB N.toNat s2).1)) := fun b out h hstep => by
    rw [← h]
    exact loopE_inv σ (fun a => N.toNat - a.1) _ (fun ex st => ex = .exit 0 ∧ st.fs = [] :: Ev.setF F d k (cellsB (loopB polyB N.toNat s2).2) ∧ getT st.m 8 = .c (.sl (if (loopB polyB N.toNat s2).1.length = 0 then .nil else .own) 1 (encL (loopB polyB N.toNat s2).1))) hstep (0, [], s2) ⟨by omega, rfl, hal, rfl⟩
  have round : ∀ (i : Nat) (o : List (Pg)) (s : St), (s.2 = true ∨ ((i : Int) ≤ N ∧ N ≤ 250000)) → o.length = i → s.1.length ≤ 1000000 → loopB polyB N.toNat s2 = (o ++ (loopB polyB (N.toNat - i) s).1, (loopB polyB (N.toNat - i) s).2) →
      (¬((i : Int) < N) ∨ s.2 = true) → loopB polyB N.toNat s2 = (o, s) := fun i o s h2 h3 h4 h5 h6 => by
    have : loopB polyB (N.toNat - i) s = ([], s) := by
      rcases h6 with h6 | h6
      · rw [show N.toNat - i = 0 by omega]; rfl
      · cases N.toNat - i with
        | zero => rfl
        | succ m => simp only [loopB, h6, if_true]
    rw [h5, this]
    simp
  have again : ∀ (i : Nat) (o : List (Pg)) (s : St), s.2 = false → (i : Int) < N → loopB polyB N.toNat s2 = (o ++ (loopB polyB (N.toNat - i) s).1, (loopB polyB (N.toNat - i) s).2) →
      loopB polyB N.toNat s2 = (o ++ [(polyB s).1] ++ (loopB polyB (N.toNat - (i + 1)) (polyB s).2).1, (loopB polyB (N.toNat - (i + 1)) (polyB s).2).2) := fun i o s h1 h2 h3 => by
    rw [h3, show N.toNat - i = (N.toNat - (i + 1)) + 1 by omega]
    simp [loopB, h1]
  have enc1 : ∀ (o : List (Pg)) x, encL o ++ [[.sl 1 (encG x)]] = encL (o ++ [x]) := fun o x => by simp [encL]
  rw [hM]
  by_cases c1 : N < few
  · rw [if_pos (.inl c1)] at hA
    simp only [resTmpsR, List.filterMap, evC_ret, evC_region, evC_seq, evC_cond, evC_loop, blockEx, feedL, feedOf, runL, stepW, wantedV, Ev.step, opv, ev, getT, binV, intOp, put, params, constV, keep, List.map, List.contains_nil, Bool.or_self, Nat.reduceEqDiff, if_true, if_false, decide_true, reduceCtorEq, Nat.reduceBEq, give, gives, V.hasSl, C.isSl, V.strip, C.strip, feeds, List.append_nil, List.nil_append, List.contains_cons, Bool.false_eq_true, List.getElem?_toArray, List.length_cons, constC, List.getElem?_cons_zero, List.getElem?_cons_succ, Bool.or_false, beq_self_eq_true, Bool.and_true, and_self, List.drop_zero, V.cells, List.length_nil, Nat.zero_add, Option.bind_some, List.drop_succ_cons, List.take_succ_cons, List.take_zero, bb_tf, List.getElem?_nil, List.map_cons, Nat.reduceAdd, finishR, resVs, resV, freezeVs, freezeV, freezeC, target, consOf, doCall, argsG, List.all_cons, List.all_nil, V.le, C.le, C.leL, Ev.look, Ev.setF, Ev.setRange, pickV, List.cons_append, Nat.le_refl, Nat.add_one_sub_one, cons_46, sealed_46, live_34_0, sz_4, esz_26, lay_70, h1, hls, hss, hlen, hF, hne, c1]
    generalize hL : loopE cfg (callE cfg) itE 34 [6] _ _ _ = out
    obtain ⟨ex, ⟨m, fs'⟩, q1, rfl, q2, q3⟩ := fin _ out (by rw [← hL, hA]; rfl) (fun (i, o, s) ⟨h2, h3, h4, h5⟩ => by
      simp only at h2 h3 h4 h5
      by_cases c3 : (i : Int) < N
      · cases c4 : s.2
        · have h2' : (i : Int) ≤ N ∧ N ≤ 250000 := by
            rcases h2 with h2 | h2
            · rw [c4] at h2; cases h2
            · exact h2
          have hlk := hls (cellsB s)
          have h6 := poly_ev ([] :: Ev.setF F d k (cellsB s)) (n + 1) d k s (by simp [setF_len, hF]) (look_up _ (hlen _) hlk) h4
          have h7 : IntKind.i64.wrap ((i : Int) + 1) = ((i + 1 : Nat) : Int) := by rw [wrap64] <;> omega
          have h8 : (encL o).length + 1 < 5629499534213 := by simp [encL]; omega
          have h9 : ¬(i + 1 = 0) := by omega
          simp only [cellsB, c4] at h6
          by_cases h0 : i = 0
          · have hk : (if i = 0 then K.nil else K.own) = K.nil := if_pos h0
            simp only [σ, evC_skip, evC_region, evC_seq, evC_cond, evC_bregion, blockEx, feedL, feedOf, runL, stepW, wantedV, Ev.step, opv, ev, getT, binV, intOp, unV, put, constV, List.map, List.contains_nil, Bool.or_self, Nat.reduceEqDiff, if_true, if_false, decide_true, reduceCtorEq, Nat.reduceBEq, give, gives, V.hasSl, C.isSl, V.strip, C.strip, feeds, List.append_nil, List.nil_append, List.contains_cons, Bool.false_eq_true, List.getElem?_toArray, List.length_cons, constC, List.getElem?_cons_zero, List.getElem?_cons_succ, Bool.or_false, beq_self_eq_true, Bool.not_false, Bool.and_true, Bool.false_and, and_self, or_false, readV, List.drop_zero, fillE, V.cells, toDs, C.toD, appendV, tailD, appOK, List.replicate, List.length_nil, Nat.zero_add, cfg_arr, Option.bind_some, List.drop_succ_cons, List.take_succ_cons, List.take_zero, cond_true, List.set_cons_zero, List.getElem?_nil, kstrip_own, kstrip_nil, Nat.lt_add_one, Nat.reduceAdd, Nat.reduceLeDiff, Nat.mul_one, target, consOf, doCall, argsG, List.all_cons, List.all_nil, V.le, C.le, Ev.newObj, Ev.look, Ev.setF, Ev.setRange, List.cons_append, Nat.add_one_sub_one, sealed_35, agg_4, esz_26, elemT_26, lay_70, zero_42, und_26, elemI_26, sealed_35, cellsB, hk, h6, hls, hss, hlen, hne, c3, c4, h7, h8]
            refine ⟨_, rfl, ?_⟩
            exact Round.again (i + 1, o ++ [(polyB s).1], (polyB s).2) (by simp only [← enc1, h9, if_false]; rfl) ⟨by omega, by simp [h3], Nat.le_trans (polyB_len s) h4, again i o s c4 c3 h5⟩ (by simp only; omega)
          · simp only [σ, evC_skip, evC_region, evC_seq, evC_cond, evC_bregion, blockEx, feedL, feedOf, runL, stepW, wantedV, Ev.step, opv, ev, getT, binV, intOp, unV, put, constV, List.map, List.contains_nil, Bool.or_self, Nat.reduceEqDiff, if_true, if_false, decide_true, reduceCtorEq, Nat.reduceBEq, give, gives, V.hasSl, C.isSl, V.strip, C.strip, feeds, List.append_nil, List.nil_append, List.contains_cons, Bool.false_eq_true, List.getElem?_toArray, List.length_cons, constC, List.getElem?_cons_zero, List.getElem?_cons_succ, Bool.or_false, beq_self_eq_true, Bool.not_false, Bool.and_true, Bool.false_and, and_self, or_false, readV, List.drop_zero, fillE, V.cells, toDs, C.toD, appendV, tailD, appOK, List.replicate, List.length_nil, Nat.zero_add, cfg_arr, Option.bind_some, List.drop_succ_cons, List.take_succ_cons, List.take_zero, cond_true, List.set_cons_zero, List.getElem?_nil, kstrip_own, Nat.lt_add_one, Nat.reduceAdd, Nat.reduceLeDiff, Nat.mul_one, target, consOf, doCall, argsG, List.all_cons, List.all_nil, V.le, C.le, Ev.newObj, Ev.look, Ev.setF, Ev.setRange, List.cons_append, Nat.add_one_sub_one, sealed_35, agg_4, esz_26, elemT_26, lay_70, zero_42, und_26, elemI_26, sealed_35, cellsB, h0, h6, hls, hss, hlen, hne, c3, c4, h7, h8]
            refine ⟨_, rfl, ?_⟩
            exact Round.again (i + 1, o ++ [(polyB s).1], (polyB s).2) (by simp only [← enc1, h9, if_false]; rfl) ⟨by omega, by simp [h3], Nat.le_trans (polyB_len s) h4, again i o s c4 c3 h5⟩ (by simp only; omega)
        · have h6 := round i o s h2 h3 h4 h5 (.inr c4)
          simp only [σ, evC_exit, evC_region, evC_seq, evC_cond, feedL, feedOf, runL, stepW, wantedV, Ev.step, opv, ev, getT, binV, intOp, unV, put, constV, List.contains_nil, Nat.reduceEqDiff, if_true, if_false, decide_true, reduceCtorEq, give, V.hasSl, C.isSl, V.strip, C.strip, feeds, List.append_nil, List.nil_append, Bool.false_eq_true, List.getElem?_toArray, List.length_cons, constC, List.getElem?_cons_zero, List.getElem?_cons_succ, beq_self_eq_true, Bool.not_true, Bool.false_and, readV, List.drop_zero, List.length_nil, Nat.zero_add, Option.bind_some, List.drop_succ_cons, List.take_succ_cons, List.take_zero, Bool.not_true, cond_true, List.getElem?_nil, Nat.reduceAdd, Ev.look, Ev.setF, Ev.setRange, List.cons_append, Nat.add_one_sub_one, agg_4, lay_70, cellsB, hls, hss, hlen, hne, c3, c4]
          refine ⟨_, rfl, ?_⟩
          exact Round.out ⟨rfl, by rw [h6]; simp only [c4]; rfl, by rw [h6]; subst h3; rfl⟩
      · have h6 := round i o s h2 h3 h4 h5 (.inl c3)
        simp only [σ, evC_exit, evC_region, evC_seq, evC_cond, feedL, feedOf, runL, stepW, wantedV, Ev.step, opv, ev, getT, binV, intOp, put, constV, List.contains_nil, Nat.reduceEqDiff, if_true, if_false, decide_false, reduceCtorEq, give, V.hasSl, C.isSl, V.strip, C.strip, feeds, List.append_nil, Bool.false_eq_true, List.getElem?_toArray, constC, List.getElem?_cons_zero, List.getElem?_cons_succ, Option.bind_some, bb_ft, pickV, cellsB, c3]
        refine ⟨_, rfl, ?_⟩
        exact Round.out ⟨rfl, by rw [h6]; rfl, by rw [h6]; subst h3; rfl⟩)
    simp only at q2 q3
    subst q2
    simp only [q1, getT, Nat.reduceEqDiff, if_true, if_false, q3]
  · by_cases c2 : N > (s1.1.length : Int).tdiv 4
    · rw [if_pos (.inr c2)] at hA
      simp only [resTmpsR, List.filterMap, evC_ret, evC_region, evC_seq, evC_cond, evC_loop, blockEx, feedL, feedOf, runL, stepW, wantedV, Ev.step, opv, ev, getT, binV, intOp, put, params, constV, keep, List.map, List.contains_nil, Bool.or_self, Nat.reduceEqDiff, if_true, if_false, decide_true, decide_false, reduceCtorEq, Nat.reduceBEq, give, gives, V.hasSl, C.isSl, V.strip, C.strip, feeds, List.append_nil, List.nil_append, List.contains_cons, Bool.false_eq_true, List.getElem?_toArray, List.length_cons, constC, lenV, List.getElem?_cons_zero, List.getElem?_cons_succ, Bool.or_false, beq_self_eq_true, Bool.and_true, Bool.false_and, and_self, readV, List.drop_zero, V.cells, List.length_nil, Nat.zero_add, Option.bind_some, List.drop_succ_cons, List.take_succ_cons, List.take_zero, cond_false, List.getElem?_nil, List.map_cons, kstrip_ro, Nat.reduceAdd, finishR, resVs, resV, freezeVs, freezeV, freezeC, target, consOf, doCall, argsG, List.all_cons, List.all_nil, V.le, C.le, C.leL, Ev.look, Ev.setF, Ev.setRange, List.cons_append, Nat.le_refl, Nat.add_one_sub_one, cons_46, sealed_46, live_34_0, sz_4, agg_43, esz_26, lay_70, und_43, h1, hls, hss, hlen, hF, hne, c1, four, bytesOf_len, e1, c2]
      generalize hL : loopE cfg (callE cfg) itE 34 [6] _ _ _ = out
      obtain ⟨ex, ⟨m, fs'⟩, q1, rfl, q2, q3⟩ := fin _ out (by rw [← hL, hA]; rfl) (fun (i, o, s) ⟨h2, h3, h4, h5⟩ => by
        simp only at h2 h3 h4 h5
        by_cases c3 : (i : Int) < N
        · cases c4 : s.2
          · have h2' : (i : Int) ≤ N ∧ N ≤ 250000 := by
              rcases h2 with h2 | h2
              · rw [c4] at h2; cases h2
              · exact h2
            have hlk := hls (cellsB s)
            have h6 := poly_ev ([] :: Ev.setF F d k (cellsB s)) (n + 1) d k s (by simp [setF_len, hF]) (look_up _ (hlen _) hlk) h4
            have h7 : IntKind.i64.wrap ((i : Int) + 1) = ((i + 1 : Nat) : Int) := by rw [wrap64] <;> omega
            have h8 : (encL o).length + 1 < 5629499534213 := by simp [encL]; omega
            have h9 : ¬(i + 1 = 0) := by omega
            simp only [cellsB, c4] at h6
            by_cases h0 : i = 0
            · have hk : (if i = 0 then K.nil else K.own) = K.nil := if_pos h0
              simp only [σ, evC_skip, evC_region, evC_seq, evC_cond, evC_bregion, blockEx, feedL, feedOf, runL, stepW, wantedV, Ev.step, opv, ev, getT, binV, intOp, unV, put, constV, List.map, List.contains_nil, Bool.or_self, Nat.reduceEqDiff, if_true, if_false, decide_true, reduceCtorEq, Nat.reduceBEq, give, gives, V.hasSl, C.isSl, V.strip, C.strip, feeds, List.append_nil, List.nil_append, List.contains_cons, Bool.false_eq_true, List.getElem?_toArray, List.length_cons, constC, List.getElem?_cons_zero, List.getElem?_cons_succ, Bool.or_false, beq_self_eq_true, Bool.not_false, Bool.and_true, Bool.false_and, and_self, or_false, readV, List.drop_zero, fillE, V.cells, toDs, C.toD, appendV, tailD, appOK, List.replicate, List.length_nil, Nat.zero_add, cfg_arr, Option.bind_some, List.drop_succ_cons, List.take_succ_cons, List.take_zero, cond_true, List.set_cons_zero, List.getElem?_nil, kstrip_own, kstrip_nil, Nat.lt_add_one, Nat.reduceAdd, Nat.reduceLeDiff, Nat.mul_one, target, consOf, doCall, argsG, List.all_cons, List.all_nil, V.le, C.le, Ev.newObj, Ev.look, Ev.setF, Ev.setRange, List.cons_append, Nat.add_one_sub_one, sealed_35, agg_4, esz_26, elemT_26, lay_70, zero_42, und_26, elemI_26, sealed_35, cellsB, hk, h6, hls, hss, hlen, hne, c3, c4, h7, h8]
              refine ⟨_, rfl, ?_⟩
              exact Round.again (i + 1, o ++ [(polyB s).1], (polyB s).2) (by simp only [← enc1, h9, if_false]; rfl) ⟨by omega, by simp [h3], Nat.le_trans (polyB_len s) h4, again i o s c4 c3 h5⟩ (by simp only; omega)
            · simp only [σ, evC_skip, evC_region, evC_seq, evC_cond, evC_bregion, blockEx, feedL, feedOf, runL, stepW, wantedV, Ev.step, opv, ev, getT, binV, intOp, unV, put, constV, List.map, List.contains_nil, Bool.or_self, Nat.reduceEqDiff, if_true, if_false, decide_true, reduceCtorEq, Nat.reduceBEq, give, gives, V.hasSl, C.isSl, V.strip, C.strip, feeds, List.append_nil, List.nil_append, List.contains_cons, Bool.false_eq_true, List.getElem?_toArray, List.length_cons, constC, List.getElem?_cons_zero, List.getElem?_cons_succ, Bool.or_false, beq_self_eq_true, Bool.not_false, Bool.and_true, Bool.false_and, and_self, or_false, readV, List.drop_zero, fillE, V.cells, toDs, C.toD, appendV, tailD, appOK, List.replicate, List.length_nil, Nat.zero_add, cfg_arr, Option.bind_some, List.drop_succ_cons, List.take_succ_cons, List.take_zero, cond_true, List.set_cons_zero, List.getElem?_nil, kstrip_own, Nat.lt_add_one, Nat.reduceAdd, Nat.reduceLeDiff, Nat.mul_one, target, consOf, doCall, argsG, List.all_cons, List.all_nil, V.le, C.le, Ev.newObj, Ev.look, Ev.setF, Ev.setRange, List.cons_append, Nat.add_one_sub_one, sealed_35, agg_4, esz_26, elemT_26, lay_70, zero_42, und_26, elemI_26, sealed_35, cellsB, h0, h6, hls, hss, hlen, hne, c3, c4, h7, h8]
              refine ⟨_, rfl, ?_⟩
              exact Round.again (i + 1, o ++ [(polyB s).1], (polyB s).2) (by simp only [← enc1, h9, if_false]; rfl) ⟨by omega, by simp [h3], Nat.le_trans (polyB_len s) h4, again i o s c4 c3 h5⟩ (by simp only; omega)
          · have h6 := round i o s h2 h3 h4 h5 (.inr c4)
            simp only [σ, evC_exit, evC_region, evC_seq, evC_cond, feedL, feedOf, runL, stepW, wantedV, Ev.step, opv, ev, getT, binV, intOp, unV, put, constV, List.contains_nil, Nat.reduceEqDiff, if_true, if_false, decide_true, reduceCtorEq, give, V.hasSl, C.isSl, V.strip, C.strip, feeds, List.append_nil, List.nil_append, Bool.false_eq_true, List.getElem?_toArray, List.length_cons, constC, List.getElem?_cons_zero, List.getElem?_cons_succ, beq_self_eq_true, Bool.not_true, Bool.false_and, readV, List.drop_zero, List.length_nil, Nat.zero_add, Option.bind_some, List.drop_succ_cons, List.take_succ_cons, List.take_zero, Bool.not_true, cond_true, List.getElem?_nil, Nat.reduceAdd, Ev.look, Ev.setF, Ev.setRange, List.cons_append, Nat.add_one_sub_one, agg_4, lay_70, cellsB, hls, hss, hlen, hne, c3, c4]
            refine ⟨_, rfl, ?_⟩
            exact Round.out ⟨rfl, by rw [h6]; simp only [c4]; rfl, by rw [h6]; subst h3; rfl⟩
        · have h6 := round i o s h2 h3 h4 h5 (.inl c3)
          simp only [σ, evC_exit, evC_region, evC_seq, evC_cond, feedL, feedOf, runL, stepW, wantedV, Ev.step, opv, ev, getT, binV, intOp, put, constV, List.contains_nil, Nat.reduceEqDiff, if_true, if_false, decide_false, reduceCtorEq, give, V.hasSl, C.isSl, V.strip, C.strip, feeds, List.append_nil, Bool.false_eq_true, List.getElem?_toArray, constC, List.getElem?_cons_zero, List.getElem?_cons_succ, Option.bind_some, bb_ft, pickV, cellsB, c3]
          refine ⟨_, rfl, ?_⟩
          exact Round.out ⟨rfl, by rw [h6]; rfl, by rw [h6]; subst h3; rfl⟩)
      simp only at q2 q3
      subst q2
      simp only [q1, getT, Nat.reduceEqDiff, if_true, if_false, q3]
    · rw [if_neg (fun h => h.elim c1 c2)] at hA
      simp only [resTmpsR, List.filterMap, evC_skip, evC_ret, evC_region, evC_seq, evC_cond, evC_loop, blockEx, feedL, feedOf, runL, stepW, wantedV, Ev.step, opv, ev, getT, binV, intOp, put, params, constV, keep, List.map, List.contains_nil, Bool.or_self, Nat.reduceEqDiff, if_true, if_false, decide_false, reduceCtorEq, Nat.reduceBEq, give, gives, V.hasSl, C.isSl, V.strip, C.strip, feeds, List.append_nil, List.nil_append, List.contains_cons, Bool.false_eq_true, List.getElem?_toArray, List.length_cons, constC, lenV, List.getElem?_cons_zero, List.getElem?_cons_succ, Bool.or_false, beq_self_eq_true, Bool.and_true, Bool.false_and, readV, List.drop_zero, List.length_nil, Nat.zero_add, Option.bind_some, List.drop_succ_cons, List.take_zero, cond_false, List.getElem?_nil, List.map_cons, kstrip_ro, Nat.reduceAdd, finishR, resVs, resV, freezeVs, freezeV, freezeC, target, consOf, doCall, argsG, List.all_cons, List.all_nil, V.le, C.le, Ev.look, Ev.setF, Ev.setRange, List.cons_append, Nat.add_one_sub_one, cons_46, sealed_46, live_34_0, agg_43, esz_26, lay_70, und_43, h1, hls, hss, hlen, hF, hne, c1, four, bytesOf_len, e1, c2]
      generalize hL : loopE cfg (callE cfg) itE 34 [6] _ _ _ = out
      obtain ⟨ex, ⟨m, fs'⟩, q1, rfl, q2, q3⟩ := fin _ out (by rw [← hL, hA]; rfl) (fun (i, o, s) ⟨h2, h3, h4, h5⟩ => by
        simp only at h2 h3 h4 h5
        by_cases c3 : (i : Int) < N
        · cases c4 : s.2
          · have h2' : (i : Int) ≤ N ∧ N ≤ 250000 := by
              rcases h2 with h2 | h2
              · rw [c4] at h2; cases h2
              · exact h2
            have hlk := hls (cellsB s)
            have h6 := poly_ev ([] :: Ev.setF F d k (cellsB s)) (n + 1) d k s (by simp [setF_len, hF]) (look_up _ (hlen _) hlk) h4
            have h7 : IntKind.i64.wrap ((i : Int) + 1) = ((i + 1 : Nat) : Int) := by rw [wrap64] <;> omega
            have h8 : (encL o).length + 1 < 5629499534213 := by simp [encL]; omega
            have h9 : ¬(i + 1 = 0) := by omega
            simp only [cellsB, c4] at h6
            by_cases h0 : i = 0
            · have hk : (if i = 0 then K.nil else K.own) = K.nil := if_pos h0
              simp only [σ, evC_skip, evC_region, evC_seq, evC_cond, evC_bregion, blockEx, feedL, feedOf, runL, stepW, wantedV, Ev.step, opv, ev, getT, binV, intOp, unV, put, constV, List.map, List.contains_nil, Bool.or_self, Nat.reduceEqDiff, if_true, if_false, decide_true, reduceCtorEq, Nat.reduceBEq, give, gives, V.hasSl, C.isSl, V.strip, C.strip, feeds, List.append_nil, List.nil_append, List.contains_cons, Bool.false_eq_true, List.getElem?_toArray, List.length_cons, constC, List.getElem?_cons_zero, List.getElem?_cons_succ, Bool.or_false, beq_self_eq_true, Bool.not_false, Bool.and_true, Bool.false_and, and_self, or_false, readV, List.drop_zero, fillE, V.cells, toDs, C.toD, appendV, tailD, appOK, List.replicate, List.length_nil, Nat.zero_add, cfg_arr, Option.bind_some, List.drop_succ_cons, List.take_succ_cons, List.take_zero, cond_true, List.set_cons_zero, List.getElem?_nil, kstrip_own, kstrip_nil, Nat.lt_add_one, Nat.reduceAdd, Nat.reduceLeDiff, Nat.mul_one, target, consOf, doCall, argsG, List.all_cons, List.all_nil, V.le, C.le, Ev.newObj, Ev.look, Ev.setF, Ev.setRange, List.cons_append, Nat.add_one_sub_one, sealed_35, agg_4, esz_26, elemT_26, lay_70, zero_42, und_26, elemI_26, sealed_35, cellsB, hk, h6, hls, hss, hlen, hne, c3, c4, h7, h8]
              refine ⟨_, rfl, ?_⟩
              exact Round.again (i + 1, o ++ [(polyB s).1], (polyB s).2) (by simp only [← enc1, h9, if_false]; rfl) ⟨by omega, by simp [h3], Nat.le_trans (polyB_len s) h4, again i o s c4 c3 h5⟩ (by simp only; omega)
            · simp only [σ, evC_skip, evC_region, evC_seq, evC_cond, evC_bregion, blockEx, feedL, feedOf, runL, stepW, wantedV, Ev.step, opv, ev, getT, binV, intOp, unV, put, constV, List.map, List.contains_nil, Bool.or_self, Nat.reduceEqDiff, if_true, if_false, decide_true, reduceCtorEq, Nat.reduceBEq, give, gives, V.hasSl, C.isSl, V.strip, C.strip, feeds, List.append_nil, List.nil_append, List.contains_cons, Bool.false_eq_true, List.getElem?_toArray, List.length_cons, constC, List.getElem?_cons_zero, List.getElem?_cons_succ, Bool.or_false, beq_self_eq_true, Bool.not_false, Bool.and_true, Bool.false_and, and_self, or_false, readV, List.drop_zero, fillE, V.cells, toDs, C.toD, appendV, tailD, appOK, List.replicate, List.length_nil, Nat.zero_add, cfg_arr, Option.bind_some, List.drop_succ_cons, List.take_succ_cons, List.take_zero, cond_true, List.set_cons_zero, List.getElem?_nil, kstrip_own, Nat.lt_add_one, Nat.reduceAdd, Nat.reduceLeDiff, Nat.mul_one, target, consOf, doCall, argsG, List.all_cons, List.all_nil, V.le, C.le, Ev.newObj, Ev.look, Ev.setF, Ev.setRange, List.cons_append, Nat.add_one_sub_one, sealed_35, agg_4, esz_26, elemT_26, lay_70, zero_42, und_26, elemI_26, sealed_35, cellsB, h0, h6, hls, hss, hlen, hne, c3, c4, h7, h8]
              refine ⟨_, rfl, ?_⟩
              exact Round.again (i + 1, o ++ [(polyB s).1], (polyB s).2) (by simp only [← enc1, h9, if_false]; rfl) ⟨by omega, by simp [h3], Nat.le_trans (polyB_len s) h4, again i o s c4 c3 h5⟩ (by simp only; omega)
          · have h6 := round i o s h2 h3 h4 h5 (.inr c4)
            simp only [σ, evC_exit, evC_region, evC_seq, evC_cond, feedL, feedOf, runL, stepW, wantedV, Ev.step, opv, ev, getT, binV, intOp, unV, put, constV, List.contains_nil, Nat.reduceEqDiff, if_true, if_false, decide_true, reduceCtorEq, give, V.hasSl, C.isSl, V.strip, C.strip, feeds, List.append_nil, List.nil_append, Bool.false_eq_true, List.getElem?_toArray, List.length_cons, constC, List.getElem?_cons_zero, List.getElem?_cons_succ, beq_self_eq_true, Bool.not_true, Bool.false_and, readV, List.drop_zero, List.length_nil, Nat.zero_add, Option.bind_some, List.drop_succ_cons, List.take_succ_cons, List.take_zero, Bool.not_true, cond_true, List.getElem?_nil, Nat.reduceAdd, Ev.look, Ev.setF, Ev.setRange, List.cons_append, Nat.add_one_sub_one, agg_4, lay_70, cellsB, hls, hss, hlen, hne, c3, c4]
            refine ⟨_, rfl, ?_⟩
            exact Round.out ⟨rfl, by rw [h6]; simp only [c4]; rfl, by rw [h6]; subst h3; rfl⟩
        · have h6 := round i o s h2 h3 h4 h5 (.inl c3)
          simp only [σ, evC_exit, evC_region, evC_seq, evC_cond, feedL, feedOf, runL, stepW, wantedV, Ev.step, opv, ev, getT, binV, intOp, put, constV, List.contains_nil, Nat.reduceEqDiff, if_true, if_false, decide_false, reduceCtorEq, give, V.hasSl, C.isSl, V.strip, C.strip, feeds, List.append_nil, Bool.false_eq_true, List.getElem?_toArray, constC, List.getElem?_cons_zero, List.getElem?_cons_succ, Option.bind_some, bb_ft, pickV, cellsB, c3]
          refine ⟨_, rfl, ?_⟩
          exact Round.out ⟨rfl, by rw [h6]; rfl, by rw [h6]; subst h3; rfl⟩)
      simp only at q2 q3
      subst q2
      simp only [q1, getT, Nat.reduceEqDiff, if_true, if_false, q3]

def polysB (s : St) : List Pg × St := manyB polyB 0 s
theorem polysB_len (s : St) : (polysB s).2.1.length ≤ s.1.length := manyB_len polyB_len 0 s

end Go.Proofs.YtbfllngekcckeaaGreatDoor
