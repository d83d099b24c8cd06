/- Signs, one by one. Written by rdgen.py. Rows out of signs. Written by rdgen.py. -/
import Derived.Test.YtbfllngekcckeaaGreatDoorEvF20
import Derived.Lib.AtoiAllCases
namespace Go.Proofs.YtbfllngekcckeaaGreatDoor
open Go.Ev
set_option linter.unusedSimpArgs false
set_option linter.unusedVariables false
set_option maxHeartbeats 400000
set_option maxRecDepth 4000

def cellsT (s : Rs) : List C := [.sl .ro 1 (encW s.1), .bool s.2]
structure OkT (ts : Toks) : Prop where
  len : ts.length ≤ 1000000000
  words : ∀ t ∈ ts, t.length ≤ 1000000000

theorem OkT.suf {a b : Toks} (h : OkT b) (hs : a <:+ b) : OkT a := ⟨Nat.le_trans hs.length_le h.len, fun t ht => h.words t (hs.subset ht)⟩

theorem nextB_suf (s : Rs) : (nextB s).2.1 <:+ s.1 := by
  obtain ⟨ts, bad⟩ := s
  cases bad
  · cases ts with
    | nil => exact List.suffix_refl _
    | cons w r => exact List.suffix_cons w r
  · exact List.suffix_refl _
theorem isB_suf (w : List UInt8) (s : Rs) : (isB w s).1 <:+ s.1 := nextB_suf s
theorem numberB_suf (s : Rs) : (numberB s).2.1 <:+ s.1 := nextB_suf s
theorem ptB_suf (s : Rs) : (ptB s).2.1 <:+ s.1 := (numberB_suf _).trans (numberB_suf _)
theorem rowsLoop_suf {α : Type} {one : Rs → α × Rs} (h : ∀ s, (one s).2.1 <:+ s.1) : ∀ (n : Nat) (out : List α) (s : Rs), (rowsLoop one n out s).2.1 <:+ s.1
  | 0, _, s => List.suffix_refl _
  | n + 1, out, s => by
    have h1 := (nextB_suf (one s).2).trans (h s)
    simp only [rowsLoop]
    split
    · exact List.suffix_refl _
    · split
      · exact h1
      · split
        · exact (rowsLoop_suf h n _ _).trans h1
        · exact (rowsLoop_suf h n _ _).trans h1
theorem rowsB_suf {α : Type} {one : Rs → α × Rs} (h : ∀ s, (one s).2.1 <:+ s.1) (s : Rs) : (rowsB one s).2.1 <:+ s.1 := (rowsLoop_suf h _ _ _).trans (isB_suf _ s)
theorem rgB_suf (s : Rs) : (rgB s).2.1 <:+ s.1 := by
  have := rowsB_suf ptB_suf s
  unfold rgB
  simp only
  split <;> exact this
theorem pgB_suf (s : Rs) : (pgB s).2.1 <:+ s.1 := rowsB_suf rgB_suf s

theorem atoi_prim (w : List UInt8) (fs : Frames) (h : w.length ≤ 1000000000) : callE cfg 71 [.c (.str w)] fs = some (some (match Lib.atoiAll w with
    | .ok n => .tup [.c (.int .i64 n), .c .nilif]
    | .range => .tup [.c (.int .i64 (Lib.atoiSat w)), .c .someif]
    | _ => .tup [.c (.int .i64 0), .c .someif]), fs) :=
  callE_prim (p := primAtoi) rfl (by
    unfold primAtoi
    simp only
    rw [if_pos (by omega)]
    cases Lib.atoiAll w <;> rfl)

theorem itoa_prim64 (n : Int) (fs : Frames) (h1 : -9223372036854775808 ≤ n) (h2 : n ≤ 9223372036854775807) : callE cfg 61 [.c (.int .i64 n)] fs = some (some (.c (.str (itoaF n))), fs) :=
  callE_prim (p := primItoa) rfl (by
    unfold primItoa
    exact if_pos ⟨h1, h2⟩)

theorem trim_prim (w p : List UInt8) (fs : Frames) : callE cfg 72 [.c (.str w), .c (.str p)] fs = some (some (.c (.str (Lib.trimPrefix w p))), fs) :=
  callE_prim (p := primTrimPrefix) rfl rfl

theorem look_upT {F : Frames} {n d k : Nat} {cs : List C} (fr : Fr) (hF : F.length = n + 1) (hl : Ev.look F d k = some cs) : Ev.look (fr :: F) d k = some cs := by
  have := look_lt hl
  simp only [Ev.look]
  rw [if_neg (by omega)]
  exact hl

theorem next_ev (F : Frames) (n d k : Nat) (s : Rs) (hF : F.length = n + 1) (hl : Ev.look F d k = some (cellsT s)) :
    callE cfg 43 [.c (.ptr d k 0)] F = some (some (.c (.str (nextB s).1)), Ev.setF F d k (cellsT (nextB s).2)) := by
  have hlt := look_lt hl
  rw [hF] at hlt
  have hne : ¬(d = n + 1) := by omega
  have hss := setF_setF F d k
  have hls := fun o => look_setF (o := o) hl
  have hlen : ∀ o, (Ev.setF F d k o).length = n + 1 := fun o => by rw [setF_len, hF]
  refine callE_code (fn := Tryz.f43) (rs := [.tmp 2]) (by kernel_rfl) (by kernel_rfl) (by kernel_rfl) rfl rfl rfl (by show 1 ≤ 34; decide) ?_
  obtain ⟨ts, bad⟩ := s
  simp only [cellsT] at hl
  cases bad
  · cases ts with
    | nil =>
      have e0 : encW [] = [] := rfl
      have z : (((0 : Nat) : Int) == 0) = true := rfl
      rw [e0] at hl
      simp only [resTmpsR, List.filterMap, evC_ret, evC_region, evC_seq, evC_cond, feedL, feedOf, runL, stepW, wantedV, Ev.step, opv, ev, getT, binV, intOp, put, params, constV, List.contains_nil, Nat.reduceEqDiff, if_true, if_false, reduceCtorEq, give, V.hasSl, C.isSl, V.strip, C.strip, feeds, List.append_nil, List.nil_append, Bool.false_eq_true, List.getElem?_toArray, List.length_cons, constC, lenV, List.getElem?_cons_zero, List.getElem?_cons_succ, beq_self_eq_true, Bool.and_true, Bool.false_and, and_self, readV, List.drop_zero, V.cells, List.length_nil, Nat.zero_add, Option.bind_some, List.drop_succ_cons, List.take_succ_cons, List.take_zero, cond_false, List.getElem?_nil, kstrip_ro, Nat.reduceAdd, finishR, resVs, resV, freezeVs, freezeV, freezeC, C.le, C.leL, Ev.look, Ev.setF, Ev.setRange, List.cons_append, Nat.le_refl, Nat.add_one_sub_one, sz_4, agg_4, agg_58, lay_61, und_58, hl, hlen, hF, hne, nextB, cellsT, e0, z]
    | cons w r =>
      have e1 : encW (w :: r) = [.str w] :: encW r := rfl
      have z' : ((((encW r).length + 1 : Nat) : Int) == 0) = false := by rw [beq_eq_false_iff_ne]; omega
      have g0 : (0 : Int) < (((encW r).length + 1 : Nat) : Int) := by omega
      have g1 : (1 : Int) ≤ (((encW r).length + 1 : Nat) : Int) := by omega
      have g2 : (0 : Int) ≤ (((encW r).length + 1 : Nat) : Int) := by omega
      rw [e1] at hl
      simp only [resTmpsR, List.filterMap, evC_skip, evC_ret, evC_region, evC_seq, evC_cond, feedL, feedOf, runL, stepW, wantedV, Ev.step, opv, ev, getT, binV, intOp, put, params, constV, List.map, List.contains_nil, Bool.or_self, Nat.reduceEqDiff, if_true, if_false, reduceCtorEq, Nat.reduceBEq, give, V.hasSl, C.isSl, V.strip, C.strip, feeds, List.append_nil, List.nil_append, List.contains_cons, Bool.false_eq_true, List.getElem?_toArray, List.length_cons, constC, lenV, List.getElem?_cons_zero, List.getElem?_cons_succ, Bool.or_false, beq_self_eq_true, Bool.and_true, Bool.false_and, and_self, readV, D.toC, List.drop_zero, V.cells, List.length_nil, Nat.zero_add, Option.bind_some, List.drop_succ_cons, List.take_succ_cons, List.take_zero, cond_false, List.getElem?_nil, List.map_cons, kstrip_ro, Nat.lt_add_one, Nat.reduceAdd, Nat.reduceLeDiff, finishR, resVs, resV, freezeVs, freezeV, freezeC, C.le, C.leL, Ev.look, Ev.setF, Ev.setRange, sliceV, boundV, asNat, List.cons_append, Int.reduceLE, Int.reduceToNat, Option.map_some, Option.map_none, Int.le_refl, Nat.add_one_sub_one, sz_9, sz_58, agg_4, agg_9, agg_58, esz_58, lay_61, und_58, hl, hls, hss, hlen, hF, hne, nextB, cellsT, z', g0, g1, g2]
  · simp only [resTmpsR, List.filterMap, evC_ret, evC_region, evC_seq, evC_cond, feedL, feedOf, runL, stepW, wantedV, Ev.step, opv, ev, getT, put, params, constV, List.contains_nil, Nat.reduceEqDiff, if_true, if_false, reduceCtorEq, give, V.hasSl, C.isSl, V.strip, C.strip, feeds, List.append_nil, List.nil_append, Bool.false_eq_true, List.getElem?_toArray, List.length_cons, constC, List.getElem?_cons_zero, List.getElem?_cons_succ, Bool.and_true, Bool.false_and, and_self, readV, List.drop_zero, V.cells, List.length_nil, Nat.zero_add, Option.bind_some, List.drop_succ_cons, List.take_succ_cons, List.take_zero, bb_tf, List.getElem?_nil, Nat.reduceAdd, finishR, resVs, resV, freezeVs, freezeV, freezeC, C.le, C.leL, Ev.look, Ev.setF, Ev.setRange, pickV, List.cons_append, Nat.le_refl, Nat.add_one_sub_one, sz_4, agg_4, lay_61, hl, hlen, hF, hne, nextB, cellsT]

theorem is_ev (F : Frames) (n d k : Nat) (w : List UInt8) (s : Rs) (hF : F.length = n + 1) (hl : Ev.look F d k = some (cellsT s)) :
    callE cfg 29 [.c (.ptr d k 0), .c (.str w)] F = some (some (.tup []), Ev.setF F d k (cellsT (isB w s))) := by
  have hlt := look_lt hl
  rw [hF] at hlt
  have hne : ¬(d = n + 1) := by omega
  have hss := setF_setF F d k
  have hls := fun o => look_setF (o := o) hl
  have hlen : ∀ o, (Ev.setF F d k o).length = n + 1 := fun o => by rw [setF_len, hF]
  refine callE_code (fn := Tryz.f29) (rs := []) (by kernel_rfl) (by kernel_rfl) (by kernel_rfl) rfl rfl rfl (by show 2 ≤ 17; decide) ?_
  have h1 := next_ev ([] :: F) (n + 1) d k s (by simp [hF]) (look_upT _ hF hl)
  unfold isB
  generalize nextB s = x at h1
  obtain ⟨u, ts, bad⟩ := x
  simp only [cellsT] at h1
  cases hc : u == w <;> simp only [resTmpsR, List.filterMap, evC_region, feedL, feedOf, runL, stepW, wantedV, Ev.step, opv, ev, getT, binV, strOp, put, params, constV, List.map, List.contains_nil, Nat.reduceEqDiff, if_true, if_false, reduceCtorEq, give, gives, V.hasSl, C.isSl, V.strip, C.strip, feeds, List.append_nil, List.nil_append, Bool.false_eq_true, List.getElem?_toArray, List.length_cons, constC, List.getElem?_cons_zero, List.getElem?_cons_succ, Bool.false_or, beq_self_eq_true, Bool.not_true, Bool.not_false, Bool.and_true, Bool.false_and, and_self, readV, List.drop_zero, V.cells, List.length_nil, Nat.zero_add, Option.bind_some, List.drop_succ_cons, List.take_succ_cons, List.take_zero, Bool.true_or, Bool.false_or, Bool.not_true, bb_tf, cond_false, List.getElem?_nil, Nat.reduceAdd, finishR, resVs, freezeVs, target, consOf, doCall, argsG, List.all_cons, List.all_nil, V.le, C.le, C.leL, Ev.look, Ev.setF, Ev.setRange, pickV, List.cons_append, Nat.le_refl, Nat.add_one_sub_one, cons_43, sealed_43, sz_4, agg_4, lay_61, h1, hls, hss, hlen, hF, hne, cellsT, hc]

theorem nextB_word {s : Rs} (h : OkT s.1) : (nextB s).1.length ≤ 1000000000 := by
  obtain ⟨ts, bad⟩ := s
  cases bad
  · cases ts with
    | nil => exact Nat.zero_le _
    | cons w r => exact h.words w (by simp)
  · exact Nat.zero_le _

theorem number_ev (F : Frames) (n d k : Nat) (s : Rs) (hF : F.length = n + 1) (hl : Ev.look F d k = some (cellsT s)) (hb : OkT s.1) :
    callE cfg 66 [.c (.ptr d k 0)] F = some (some (.c (.int .i64 (numberB s).1)), Ev.setF F d k (cellsT (numberB s).2)) := by
  have hlt := look_lt hl
  rw [hF] at hlt
  have hne : ¬(d = n + 1) := by omega
  have hss := setF_setF F d k
  have hls := fun o => look_setF (o := o) hl
  have hlen : ∀ o, (Ev.setF F d k o).length = n + 1 := fun o => by rw [setF_len, hF]
  refine callE_code (fn := Tryz.f66) (rs := [.tmp 2]) (by kernel_rfl) (by kernel_rfl) (by kernel_rfl) rfl rfl rfl (by show 1 ≤ 31; decide) ?_
  have h1 := next_ev ([] :: F) (n + 1) d k s (by simp [hF]) (look_upT _ hF hl)
  have hw := nextB_word hb
  unfold numberB
  generalize nextB s = x at h1 hw
  obtain ⟨u, ts, bad⟩ := x
  simp only [cellsT] at h1 hw
  have h2 := atoi_prim u ([] :: Ev.setF F d k (cellsT (ts, bad))) hw
  have h3 := trim_prim u [45] ([] :: Ev.setF F d k (cellsT (ts, bad)))
  simp only [cellsT] at h2 h3
  unfold numT
  cases ha : Lib.atoiAll u with
  | ok v =>
    have hv := Lib.atoiAll_bounds ha
    have h4 := itoa_prim64 v ([] :: Ev.setF F d k (cellsT (ts, bad))) hv.1 hv.2
    rw [ha] at h2
    simp only [cellsT] at h2 h4
    have hg : decide ((((Lib.trimPrefix u [45]).length : Nat) : Int) > 9) = decide ((Lib.trimPrefix u [45]).length > 9) := by congr 1; exact propext (by omega)
    cases hc : itoaF v == u
    · simp only [resTmpsR, List.filterMap, evC_ret, evC_region, evC_seq, evC_cond, feedL, feedOf, runL, stepW, wantedV, Ev.step, opv, ev, getT, isLit, binV, strOp, litKind, eqV, put, params, constV, List.map, List.contains_nil, Bool.or_self, Nat.reduceEqDiff, if_true, if_false, reduceCtorEq, Nat.reduceBEq, give, gives, V.hasSl, C.isSl, V.strip, C.strip, feeds, List.append_nil, List.nil_append, List.contains_cons, Bool.false_eq_true, List.getElem?_toArray, List.length_cons, constC, List.getElem?_cons_zero, List.getElem?_cons_succ, Bool.or_false, Bool.or_true, beq_self_eq_true, Bool.not_true, Bool.not_false, Bool.and_true, and_self, List.drop_zero, V.cells, List.length_nil, Nat.zero_add, Option.bind_some, List.drop_succ_cons, List.take_succ_cons, List.take_zero, Bool.true_or, Bool.not_true, bb_tf, cond_false, List.getElem?_nil, Nat.reduceAdd, finishR, resVs, resV, freezeVs, freezeV, freezeC, target, consOf, doCall, argsG, List.all_cons, List.all_nil, V.le, C.le, C.leL, Ev.look, Ev.setF, Ev.setRange, pickV, List.cons_append, Nat.le_refl, Nat.add_one_sub_one, cons_43, sealed_43, cons_61, sealed_61, cons_71, sealed_71, cons_72, sz_4, lay_61, eqk_95, h1, h2, h4, hls, hss, hlen, hF, hne, cellsT, hc]
    · cases hd : decide ((Lib.trimPrefix u [45]).length > 9)
      · simp only [resTmpsR, List.filterMap, evC_skip, evC_ret, evC_region, evC_seq, evC_cond, feedL, feedOf, runL, stepW, wantedV, Ev.step, opv, ev, getT, isLit, binV, intOp, strOp, litKind, eqV, put, params, constV, List.map, List.contains_nil, Bool.or_self, Nat.reduceEqDiff, if_true, if_false, reduceCtorEq, Nat.reduceBEq, give, gives, V.hasSl, C.isSl, V.strip, C.strip, feeds, List.append_nil, List.nil_append, List.contains_cons, Bool.false_eq_true, List.getElem?_toArray, constC, lenV, List.getElem?_cons_zero, List.getElem?_cons_succ, Bool.or_false, Bool.false_or, Bool.or_true, beq_self_eq_true, Bool.not_true, Bool.and_true, Option.bind_some, Bool.false_or, Bool.not_true, cond_false, finishR, resVs, resV, freezeVs, freezeV, freezeC, target, consOf, doCall, argsG, List.all_cons, List.all_nil, V.le, C.le, Ev.setF, Nat.add_one_sub_one, cons_43, sealed_43, cons_61, sealed_61, cons_71, sealed_71, cons_72, sealed_72, eqk_95, und_9, h1, h2, h3, h4, hlen, hF, hne, cellsT, hc, hg, hd]
      · simp only [resTmpsR, List.filterMap, evC_ret, evC_region, evC_seq, evC_cond, feedL, feedOf, runL, stepW, wantedV, Ev.step, opv, ev, getT, isLit, binV, intOp, strOp, litKind, eqV, put, params, constV, List.map, List.contains_nil, Bool.or_self, Nat.reduceEqDiff, if_true, if_false, reduceCtorEq, Nat.reduceBEq, give, gives, V.hasSl, C.isSl, V.strip, C.strip, feeds, List.append_nil, List.nil_append, List.contains_cons, Bool.false_eq_true, List.getElem?_toArray, List.length_cons, constC, lenV, List.getElem?_cons_zero, List.getElem?_cons_succ, Bool.or_false, Bool.or_true, beq_self_eq_true, Bool.not_true, Bool.and_true, and_self, List.drop_zero, V.cells, List.length_nil, Nat.zero_add, Option.bind_some, List.drop_succ_cons, List.take_succ_cons, List.take_zero, Bool.true_or, Bool.not_true, cond_false, List.getElem?_nil, Nat.reduceAdd, finishR, resVs, resV, freezeVs, freezeV, freezeC, target, consOf, doCall, argsG, List.all_cons, List.all_nil, V.le, C.le, C.leL, Ev.look, Ev.setF, Ev.setRange, List.cons_append, Nat.le_refl, Nat.add_one_sub_one, cons_43, sealed_43, cons_61, sealed_61, cons_71, sealed_71, cons_72, sealed_72, sz_4, lay_61, eqk_95, und_9, h1, h2, h3, h4, hls, hss, hlen, hF, hne, cellsT, hc, hg, hd]
  | range =>
    rw [ha] at h2
    simp only [resTmpsR, List.filterMap, evC_ret, evC_region, evC_seq, evC_cond, feedL, feedOf, runL, stepW, wantedV, Ev.step, opv, ev, getT, isLit, binV, litKind, eqV, put, params, constV, List.map, List.contains_nil, Bool.or_self, Nat.reduceEqDiff, if_true, if_false, reduceCtorEq, Nat.reduceBEq, give, gives, V.hasSl, C.isSl, V.strip, C.strip, feeds, List.append_nil, List.nil_append, List.contains_cons, Bool.false_eq_true, List.getElem?_toArray, List.length_cons, constC, List.getElem?_cons_zero, List.getElem?_cons_succ, Bool.or_false, Bool.or_true, beq_self_eq_true, Bool.not_false, Bool.and_true, and_self, List.drop_zero, V.cells, List.length_nil, Nat.zero_add, Option.bind_some, List.drop_succ_cons, List.take_succ_cons, List.take_zero, Bool.true_or, bb_tf, List.getElem?_nil, Nat.reduceAdd, finishR, resVs, resV, freezeVs, freezeV, freezeC, target, consOf, doCall, argsG, List.all_cons, List.all_nil, V.le, C.le, C.leL, Ev.look, Ev.setF, Ev.setRange, pickV, List.cons_append, Nat.le_refl, Nat.add_one_sub_one, cons_43, sealed_43, cons_61, cons_71, sealed_71, cons_72, sz_4, lay_61, eqk_95, h1, h2, hls, hss, hlen, hF, hne, cellsT]
  | _ =>
    rw [ha] at h2
    simp only [resTmpsR, List.filterMap, evC_ret, evC_region, evC_seq, evC_cond, feedL, feedOf, runL, stepW, wantedV, Ev.step, opv, ev, getT, isLit, binV, litKind, eqV, put, params, constV, List.map, List.contains_nil, Bool.or_self, Nat.reduceEqDiff, if_true, if_false, reduceCtorEq, Nat.reduceBEq, give, gives, V.hasSl, C.isSl, V.strip, C.strip, feeds, List.append_nil, List.nil_append, List.contains_cons, Bool.false_eq_true, List.getElem?_toArray, List.length_cons, constC, List.getElem?_cons_zero, List.getElem?_cons_succ, Bool.or_false, Bool.or_true, beq_self_eq_true, Bool.not_false, Bool.and_true, and_self, List.drop_zero, V.cells, List.length_nil, Nat.zero_add, Option.bind_some, List.drop_succ_cons, List.take_succ_cons, List.take_zero, Bool.true_or, bb_tf, List.getElem?_nil, Nat.reduceAdd, finishR, resVs, resV, freezeVs, freezeV, freezeC, target, consOf, doCall, argsG, List.all_cons, List.all_nil, V.le, C.le, C.leL, Ev.look, Ev.setF, Ev.setRange, pickV, List.cons_append, Nat.le_refl, Nat.add_one_sub_one, cons_43, sealed_43, cons_61, cons_71, sealed_71, cons_72, sz_4, lay_61, eqk_95, h1, h2, hls, hss, hlen, hF, hne, cellsT]

theorem ptT_ev (F : Frames) (n d k : Nat) (s : Rs) (hF : F.length = n + 1) (hl : Ev.look F d k = some (cellsT s)) (hb : OkT s.1) :
    callE cfg 56 [.c (.ptr d k 0)] F = some (some (.agg [.int .i64 (ptB s).1.1, .int .i64 (ptB s).1.2]), Ev.setF F d k (cellsT (ptB s).2)) := by
  have hlt := look_lt hl
  rw [hF] at hlt
  have hne : ¬(d = n + 1) := by omega
  have hss := setF_setF F d k
  have hls := fun o => look_setF (o := o) hl
  have hlen : ∀ o, (Ev.setF F d k o).length = n + 1 := fun o => by rw [setF_len, hF]
  refine callE_code (fn := Tryz.f56) (rs := [.cell 2 41]) (by kernel_rfl) (by kernel_rfl) (by kernel_rfl) rfl rfl rfl (by show 1 ≤ 8; decide) ?_
  have h1 := number_ev ([[.int .i64 0, .int .i64 0]] :: F) (n + 1) d k s (by simp [hF]) (look_upT _ hF hl) hb
  have h2 := number_ev ([[.int .i64 0, .int .i64 0]] :: Ev.setF F d k (cellsT (numberB s).2)) (n + 1) d k (numberB s).2 (by simp [setF_len, hF]) (look_upT _ (hlen _) (hls _)) (hb.suf (numberB_suf s))
  simp only [resTmpsR, List.filterMap, evC_ret, evC_region, evC_seq, feedL, feedOf, runL, stepW, wantedV, Ev.step, opv, ev, getT, put, params, List.map, List.contains_nil, Nat.reduceEqDiff, if_true, if_false, reduceCtorEq, give, gives, V.hasSl, C.isSl, V.strip, C.strip, feeds, List.append_nil, List.nil_append, Bool.false_eq_true, List.length_cons, List.getElem?_cons_zero, List.getElem?_cons_succ, Bool.and_true, and_self, readV, List.drop_zero, fillC, V.cells, List.length_nil, Nat.zero_add, cfg_esc, List.drop_succ_cons, List.take_succ_cons, List.take_zero, List.set_cons_zero, List.map_cons, Nat.lt_add_one, Nat.reduceAdd, Nat.reduceLeDiff, finishR, resVs, resV, freezeVs, freezeV, freezeC, freezeCs, target, consOf, doCall, argsG, List.all_cons, List.all_nil, V.le, C.le, C.leL, Ev.newObj, Ev.look, Ev.setF, Ev.setRange, List.cons_append, Nat.le_refl, Nat.add_one_sub_one, cons_66, sealed_66, sz_41, agg_41, layB_41, zero_41, h1, h2, hss, hlen, hF, hne, ptB]

end Go.Proofs.YtbfllngekcckeaaGreatDoor
namespace Go.Proofs.YtbfllngekcckeaaGreatDoor
open Go.Ev
set_option linter.unusedSimpArgs false
set_option linter.unusedVariables false
set_option maxHeartbeats 400000
set_option maxRecDepth 4000

theorem rowsLoop_many {α : Type} {one : Rs → α × Rs} : ∀ (n : Nat) (out : List α) (s : Rs), (rowsLoop one n out s).1.length ≤ out.length + n
  | 0, _, s => Nat.zero_le _
  | n + 1, out, s => by
    simp only [rowsLoop]
    split
    · exact Nat.zero_le _
    · split
      · simp only [List.length_append, List.length_cons, List.length_nil]
        omega
      · split
        · have := rowsLoop_many (one := one) n (out ++ [(one s).1]) (nextB (one s).2).2
          simp only [List.length_append, List.length_cons, List.length_nil] at this
          omega
        · have := rowsLoop_many (one := one) n (out ++ [(one s).1]) ((nextB (one s).2).2.1, true)
          simp only [List.length_append, List.length_cons, List.length_nil] at this
          omega
theorem rowsB_many {α : Type} {one : Rs → α × Rs} (s : Rs) (hb : OkT s.1) : (rowsB one s).1.length ≤ 2000000000 := by
  have h1 := rowsLoop_many (one := one) ((isB [40] s).1.length + 1) [] (isB [40] s)
  have h2 := (isB_suf [40] s).length_le
  have h3 := hb.len
  unfold rowsB
  simp only [List.length_nil] at h1
  omega

theorem nextB_shorter (s : Rs) (h : (nextB s).1 ≠ []) : (nextB s).2.2 = false ∧ (nextB s).2.1.length < s.1.length := by
  obtain ⟨ts, bad⟩ := s
  cases bad
  · cases ts with
    | nil => exact absurd rfl h
    | cons w r => exact ⟨rfl, by simp [nextB]⟩
  · exact absurd rfl h

set_option maxHeartbeats 1000000 in
theorem rows60_ev (F : Frames) (n d k : Nat) (s : Rs) (hF : F.length = n + 1) (hl : Ev.look F d k = some (cellsT s)) (hb : OkT s.1) :
    callE cfg 55 [.c (.ptr d k 0), .c (.fn (.func 56) [] [])] F = some (some (.c (.sl (if (rowsB ptB s).1.length = 0 then .nil else .own) 2 (encR (rowsB ptB s).1))), Ev.setF F d k (cellsT (rowsB ptB s).2)) := by
  have hlt := look_lt hl
  rw [hF] at hlt
  have hne : ¬(d = n + 1) := by omega
  have hss := setF_setF F d k
  have hls := fun o => look_setF (o := o) hl
  have hlen : ∀ o, (Ev.setF F d k o).length = n + 1 := fun o => by rw [setF_len, hF]
  refine callE_code (fn := Tryz.f55) (rs := [.tmp 4]) (by kernel_rfl) (by kernel_rfl) (by kernel_rfl) rfl rfl rfl (by show 2 ≤ 30; decide) ?_
  have h1 := is_ev ([] :: F) (n + 1) d k [40] s (by simp [hF]) (look_upT _ hF hl)
  have hb1 := hb.suf (isB_suf [40] s)
  unfold rowsB
  generalize isB [40] s = s1 at h1 hb1 ⊢
  have hNl := hb1.len
  generalize hN : s1.1.length + 1 = N
  simp only [cellsT] at h1
  have enc1 : ∀ (o : List (Int × Int)) x, encR o ++ [[.int .i64 x.1, .int .i64 x.2]] = encR (o ++ [x]) := fun o x => by simp [encR, encP]
  simp only [resTmpsR, List.filterMap, evC_ret, evC_region, evC_seq, evC_loop, blockEx, feedL, feedOf, runL, stepW, wantedV, Ev.step, opv, ev, getT, put, params, constV, keep, List.map, List.contains_nil, Nat.reduceEqDiff, if_true, if_false, reduceCtorEq, give, gives, V.hasSl, C.isSl, V.strip, C.strip, feeds, List.append_nil, List.nil_append, Bool.false_eq_true, constC, Bool.and_true, Nat.zero_add, List.map_cons, finishR, resVs, resV, freezeVs, freezeV, freezeC, target, consOf, doCall, argsG, List.all_cons, List.all_nil, V.le, C.le, Ev.setF, Nat.add_one_sub_one, cons_29, sealed_29, live_55_0, esz_38, h1, hF, hne]
  let σ : List (Int × Int) × Rs × Nat → S := fun (o, s, m) => { m := [(0, .c (.ptr d k 0)), (1, .c (.fn (.func 56) [] [])), (4, .c (.sl .nil 2 [])), (5, .c (.sl (if o.length = 0 then .nil else .own) 2 (encR o)))], fs := [] :: Ev.setF F d k (cellsT s) }
  generalize hR : rowsLoop ptB N [] s1 = R
  generalize hL : loopE cfg (callE cfg) itE 55 [4] _ _ _ = out
  have hout : ∃ ex st, out = some (ex, st) ∧ st.fs = [] :: Ev.setF F d k (cellsT R.2) ∧ ((ex = .exit 0 ∧ R.1 = []) ∨ (ex = .ret ∧ ¬(R.1.length = 0) ∧ getT st.m 4 = .c (.sl .own 2 (encR R.1)))) := by
    rw [← hL]
    refine loopE_inv σ (fun (o, s, m) => m) (fun (o, s, m) => R = rowsLoop ptB m o s ∧ (s.2 = true ∨ s.1.length < m) ∧ o.length + m = N ∧ OkT s.1) (fun ex st => st.fs = [] :: Ev.setF F d k (cellsT R.2) ∧ ((ex = .exit 0 ∧ R.1 = []) ∨ (ex = .ret ∧ ¬(R.1.length = 0) ∧ getT st.m 4 = .c (.sl .own 2 (encR R.1))))) (fun (o, s, m) ⟨p1, p2, p3, p4⟩ => ?_) ([], s1, N) ⟨hR.symm, .inr (by rw [← hN]; exact Nat.lt_succ_self _), by simp, hb1⟩
    obtain ⟨ts, bad⟩ := s
    simp only at p2 p3 p4
    cases bad
    · obtain ⟨m, rfl⟩ : ∃ m', m = m' + 1 := by
        rcases p2 with p2 | p2
        · cases p2
        · exact ⟨m - 1, by omega⟩
      have p2' : ts.length < m + 1 := by
        rcases p2 with p2 | p2
        · cases p2
        · exact p2
      simp only [rowsLoop, Bool.false_eq_true, if_false] at p1
      have h6 := ptT_ev ([] :: Ev.setF F d k (cellsT (ts, false))) (n + 1) d k (ts, false) (by simp [setF_len, hF]) (look_upT _ (hlen _) (hls _)) p4
      have hsx := ptB_suf (ts, false)
      generalize ptB (ts, false) = x at p1 h6 hsx
      obtain ⟨x, x2⟩ := x
      simp only at p1 h6 hsx
      have h7 := next_ev ([] :: Ev.setF F d k (cellsT x2)) (n + 1) d k x2 (by simp [setF_len, hF]) (look_upT _ (hlen _) (hls _))
      have hsh := nextB_shorter x2
      have hsy := (nextB_suf x2).trans hsx
      generalize nextB x2 = y at p1 h7 hsh hsy
      obtain ⟨w, ts2, bad2⟩ := y
      simp only at p1 h7 hsh hsy
      have hx := hsx.length_le
      have h8 : (encR o).length + 1 < 8278675785607 := by simp only [encR, List.length_map]; omega
      have h9 : ¬((o ++ [x]).length = 0) := by simp
      simp only [cellsT] at h6 h7
      have hk : ∃ kk, (if o.length = 0 then K.nil else K.own) = kk ∧ (kk = .nil ∨ kk = .own) := by
        by_cases h0 : o.length = 0
        · exact ⟨_, if_pos h0, .inl rfl⟩
        · exact ⟨_, if_neg h0, .inr rfl⟩
      obtain ⟨kk, hk, hkk⟩ := hk
      by_cases c1 : w = [41]
      · rw [if_pos c1] at p1
        have d1 : (w == [41]) = true := by rw [c1]; rfl
        have fin : R.1 = o ++ [x] := by rw [p1]
        have fin2 : R.2 = (ts2, bad2) := by rw [p1]
        rcases hkk with rfl | rfl
        · simp only [σ, evC_skip, evC_ret, evC_region, evC_seq, evC_cond, evC_bseq, blockEx, feedL, feedOf, runL, stepW, wantedV, Ev.step, opv, ev, getT, binV, strOp, unV, put, constV, List.map, List.contains_nil, Bool.or_self, Nat.reduceEqDiff, if_true, if_false, reduceCtorEq, Nat.reduceBEq, give, gives, V.hasSl, C.isSl, V.strip, C.strip, feeds, List.append_nil, List.nil_append, List.contains_cons, Bool.false_eq_true, List.length_cons, constC, List.getElem?_cons_zero, List.getElem?_cons_succ, Bool.or_false, beq_self_eq_true, Bool.not_false, Bool.and_true, Bool.false_and, and_self, or_false, readV, List.drop_zero, fillE, V.cells, toDs, C.toD, appendV, tailD, appOK, List.replicate, List.length_nil, Nat.zero_add, cfg_arr, List.drop_succ_cons, List.take_succ_cons, List.take_zero, List.set_cons_zero, List.getElem?_nil, kstrip_own, kstrip_nil, Nat.lt_add_one, Nat.zero_lt_succ, Nat.reduceAdd, Nat.reduceLeDiff, Nat.one_mul, target, consOf, doCall, argsG, List.all_cons, List.all_nil, V.le, C.le, Ev.newObj, Ev.look, Ev.setF, Ev.setRange, List.cons_append, Nat.add_one_sub_one, cons_43, sealed_43, agg_4, esz_38, elemT_38, lay_61, zero_41, und_38, elemI_38, sealed_56, cellsT, hk, h6, h7, hls, hss, hlen, hne, d1, h8, enc1]
          refine ⟨_, rfl, ?_⟩
          exact Round.ret ⟨by rw [fin2]; rfl, .inr ⟨rfl, by rw [fin]; exact h9, by rw [fin]; rfl⟩⟩
        · simp only [σ, evC_skip, evC_ret, evC_region, evC_seq, evC_cond, evC_bseq, blockEx, feedL, feedOf, runL, stepW, wantedV, Ev.step, opv, ev, getT, binV, strOp, unV, put, constV, List.map, List.contains_nil, Bool.or_self, Nat.reduceEqDiff, if_true, if_false, reduceCtorEq, Nat.reduceBEq, give, gives, V.hasSl, C.isSl, V.strip, C.strip, feeds, List.append_nil, List.nil_append, List.contains_cons, Bool.false_eq_true, List.length_cons, constC, List.getElem?_cons_zero, List.getElem?_cons_succ, Bool.or_false, beq_self_eq_true, Bool.not_false, Bool.and_true, Bool.false_and, and_self, or_false, readV, List.drop_zero, fillE, V.cells, toDs, C.toD, appendV, tailD, appOK, List.replicate, List.length_nil, Nat.zero_add, cfg_arr, List.drop_succ_cons, List.take_succ_cons, List.take_zero, List.set_cons_zero, List.getElem?_nil, kstrip_own, Nat.lt_add_one, Nat.zero_lt_succ, Nat.reduceAdd, Nat.reduceLeDiff, Nat.one_mul, target, consOf, doCall, argsG, List.all_cons, List.all_nil, V.le, C.le, Ev.newObj, Ev.look, Ev.setF, Ev.setRange, List.cons_append, Nat.add_one_sub_one, cons_43, sealed_43, agg_4, esz_38, elemT_38, lay_61, zero_41, und_38, elemI_38, sealed_56, cellsT, hk, h6, h7, hls, hss, hlen, hne, d1, h8, enc1]
          refine ⟨_, rfl, ?_⟩
          exact Round.ret ⟨by rw [fin2]; rfl, .inr ⟨rfl, by rw [fin]; exact h9, by rw [fin]; rfl⟩⟩
      · rw [if_neg c1] at p1
        have d1 : (w == [41]) = false := by rw [beq_eq_false_iff_ne]; exact c1
        by_cases c2 : w = [44]
        · rw [if_pos c2] at p1
          obtain ⟨e1, e2⟩ := hsh (by rw [c2]; simp)
          have d2 : (w == [44]) = true := by rw [c2]; rfl
          rcases hkk with rfl | rfl
          · simp only [σ, evC_skip, evC_region, evC_seq, evC_cond, evC_bseq, blockEx, feedL, feedOf, runL, stepW, wantedV, Ev.step, opv, ev, getT, binV, strOp, unV, put, constV, List.map, List.contains_nil, Bool.or_self, Nat.reduceEqDiff, if_true, if_false, reduceCtorEq, Nat.reduceBEq, give, gives, V.hasSl, C.isSl, V.strip, C.strip, feeds, List.append_nil, List.nil_append, List.contains_cons, Bool.false_eq_true, List.length_cons, constC, List.getElem?_cons_zero, List.getElem?_cons_succ, Bool.or_false, beq_self_eq_true, Bool.not_true, Bool.not_false, Bool.and_true, Bool.false_and, and_self, or_false, readV, List.drop_zero, fillE, V.cells, toDs, C.toD, appendV, tailD, appOK, List.replicate, List.length_nil, Nat.zero_add, cfg_arr, List.drop_succ_cons, List.take_succ_cons, List.take_zero, Bool.not_true, List.set_cons_zero, List.getElem?_nil, kstrip_own, kstrip_nil, Nat.lt_add_one, Nat.zero_lt_succ, Nat.reduceAdd, Nat.reduceLeDiff, Nat.one_mul, target, consOf, doCall, argsG, List.all_cons, List.all_nil, V.le, C.le, Ev.newObj, Ev.look, Ev.setF, Ev.setRange, List.cons_append, Nat.add_one_sub_one, cons_43, sealed_43, agg_4, esz_38, elemT_38, lay_61, zero_41, und_38, elemI_38, sealed_56, cellsT, hk, h6, h7, hls, hss, hlen, hne, d1, d2, h8, enc1]
            refine ⟨_, rfl, ?_⟩
            exact Round.again (o ++ [x], (ts2, bad2), m) (by simp only [h9, if_false]; rfl) ⟨p1, .inr (by simp only; omega), by simp only [List.length_append, List.length_cons, List.length_nil]; omega, p4.suf hsy⟩ (by simp only; omega)
          · simp only [σ, evC_skip, evC_region, evC_seq, evC_cond, evC_bseq, blockEx, feedL, feedOf, runL, stepW, wantedV, Ev.step, opv, ev, getT, binV, strOp, unV, put, constV, List.map, List.contains_nil, Bool.or_self, Nat.reduceEqDiff, if_true, if_false, reduceCtorEq, Nat.reduceBEq, give, gives, V.hasSl, C.isSl, V.strip, C.strip, feeds, List.append_nil, List.nil_append, List.contains_cons, Bool.false_eq_true, List.length_cons, constC, List.getElem?_cons_zero, List.getElem?_cons_succ, Bool.or_false, beq_self_eq_true, Bool.not_true, Bool.not_false, Bool.and_true, Bool.false_and, and_self, or_false, readV, List.drop_zero, fillE, V.cells, toDs, C.toD, appendV, tailD, appOK, List.replicate, List.length_nil, Nat.zero_add, cfg_arr, List.drop_succ_cons, List.take_succ_cons, List.take_zero, Bool.not_true, List.set_cons_zero, List.getElem?_nil, kstrip_own, Nat.lt_add_one, Nat.zero_lt_succ, Nat.reduceAdd, Nat.reduceLeDiff, Nat.one_mul, target, consOf, doCall, argsG, List.all_cons, List.all_nil, V.le, C.le, Ev.newObj, Ev.look, Ev.setF, Ev.setRange, List.cons_append, Nat.add_one_sub_one, cons_43, sealed_43, agg_4, esz_38, elemT_38, lay_61, zero_41, und_38, elemI_38, sealed_56, cellsT, hk, h6, h7, hls, hss, hlen, hne, d1, d2, h8, enc1]
            refine ⟨_, rfl, ?_⟩
            exact Round.again (o ++ [x], (ts2, bad2), m) (by simp only [h9, if_false]; rfl) ⟨p1, .inr (by simp only; omega), by simp only [List.length_append, List.length_cons, List.length_nil]; omega, p4.suf hsy⟩ (by simp only; omega)
        · rw [if_neg c2] at p1
          have d2 : (w == [44]) = false := by rw [beq_eq_false_iff_ne]; exact c2
          rcases hkk with rfl | rfl
          · simp only [σ, evC_skip, evC_region, evC_seq, evC_cond, evC_bseq, blockEx, feedL, feedOf, runL, stepW, wantedV, Ev.step, opv, ev, getT, binV, strOp, unV, put, constV, List.map, List.contains_nil, Bool.or_self, Nat.reduceEqDiff, if_true, if_false, reduceCtorEq, Nat.reduceBEq, give, gives, V.hasSl, C.isSl, V.strip, C.strip, feeds, List.append_nil, List.nil_append, List.contains_cons, Bool.false_eq_true, List.length_cons, constC, List.getElem?_cons_zero, List.getElem?_cons_succ, Bool.or_false, beq_self_eq_true, Bool.not_false, Bool.and_true, Bool.false_and, and_self, or_false, readV, List.drop_zero, fillE, V.cells, toDs, C.toD, appendV, tailD, appOK, List.replicate, List.length_nil, Nat.zero_add, cfg_arr, List.drop_succ_cons, List.take_succ_cons, List.take_zero, List.set_cons_zero, List.getElem?_nil, kstrip_own, kstrip_nil, Nat.lt_add_one, Nat.zero_lt_succ, Nat.reduceAdd, Nat.reduceLeDiff, Nat.one_mul, target, consOf, doCall, argsG, List.all_cons, List.all_nil, V.le, C.le, C.leL, Ev.newObj, Ev.look, Ev.setF, Ev.setRange, List.cons_append, Nat.le_refl, Nat.add_one_sub_one, cons_43, sealed_43, sz_4, agg_4, esz_38, elemT_38, lay_61, zero_41, und_38, elemI_38, sealed_56, cellsT, hk, h6, h7, hls, hss, hlen, hne, d1, d2, h8, enc1]
            refine ⟨_, rfl, ?_⟩
            exact Round.again (o ++ [x], (ts2, true), m) (by simp only [h9, if_false]; rfl) ⟨p1, .inl rfl, by simp only [List.length_append, List.length_cons, List.length_nil]; omega, p4.suf hsy⟩ (by simp only; omega)
          · simp only [σ, evC_skip, evC_region, evC_seq, evC_cond, evC_bseq, blockEx, feedL, feedOf, runL, stepW, wantedV, Ev.step, opv, ev, getT, binV, strOp, unV, put, constV, List.map, List.contains_nil, Bool.or_self, Nat.reduceEqDiff, if_true, if_false, reduceCtorEq, Nat.reduceBEq, give, gives, V.hasSl, C.isSl, V.strip, C.strip, feeds, List.append_nil, List.nil_append, List.contains_cons, Bool.false_eq_true, List.length_cons, constC, List.getElem?_cons_zero, List.getElem?_cons_succ, Bool.or_false, beq_self_eq_true, Bool.not_false, Bool.and_true, Bool.false_and, and_self, or_false, readV, List.drop_zero, fillE, V.cells, toDs, C.toD, appendV, tailD, appOK, List.replicate, List.length_nil, Nat.zero_add, cfg_arr, List.drop_succ_cons, List.take_succ_cons, List.take_zero, List.set_cons_zero, List.getElem?_nil, kstrip_own, Nat.lt_add_one, Nat.zero_lt_succ, Nat.reduceAdd, Nat.reduceLeDiff, Nat.one_mul, target, consOf, doCall, argsG, List.all_cons, List.all_nil, V.le, C.le, C.leL, Ev.newObj, Ev.look, Ev.setF, Ev.setRange, List.cons_append, Nat.le_refl, Nat.add_one_sub_one, cons_43, sealed_43, sz_4, agg_4, esz_38, elemT_38, lay_61, zero_41, und_38, elemI_38, sealed_56, cellsT, hk, h6, h7, hls, hss, hlen, hne, d1, d2, h8, enc1]
            refine ⟨_, rfl, ?_⟩
            exact Round.again (o ++ [x], (ts2, true), m) (by simp only [h9, if_false]; rfl) ⟨p1, .inl rfl, by simp only [List.length_append, List.length_cons, List.length_nil]; omega, p4.suf hsy⟩ (by simp only; omega)
    · have hbad : rowsLoop ptB m o (ts, true) = ([], (ts, true)) := by cases m <;> simp [rowsLoop]
      rw [hbad] at p1
      simp only [σ, evC_exit, evC_region, evC_seq, evC_cond, feedL, feedOf, runL, stepW, wantedV, Ev.step, opv, ev, getT, unV, put, List.contains_nil, Nat.reduceEqDiff, if_true, if_false, reduceCtorEq, give, V.hasSl, C.isSl, V.strip, C.strip, feeds, List.append_nil, List.nil_append, Bool.false_eq_true, List.length_cons, List.getElem?_cons_zero, List.getElem?_cons_succ, Bool.not_true, Bool.false_and, readV, List.drop_zero, List.length_nil, Nat.zero_add, List.drop_succ_cons, List.take_succ_cons, List.take_zero, Bool.not_true, List.getElem?_nil, Nat.reduceAdd, Ev.look, Ev.setF, Ev.setRange, List.cons_append, Nat.add_one_sub_one, agg_4, lay_61, cellsT, hls, hss, hlen, hne]
      refine ⟨_, rfl, ?_⟩
      exact Round.out ⟨by rw [p1]; rfl, .inl ⟨rfl, by rw [p1]⟩⟩
  obtain ⟨ex, ⟨m, fs'⟩, q1, q2, q3 | q3⟩ := hout
  · obtain ⟨rfl, q4⟩ := q3
    simp only at q2
    subst q2
    rw [q4]
    simp only [q1, getT, if_true, List.length_nil]
    rfl
  · obtain ⟨rfl, q4, q5⟩ := q3
    simp only at q2 q5
    subst q2
    simp only [q1, if_false, q4, q5]

theorem rgT_ev (F : Frames) (n d k : Nat) (s : Rs) (hF : F.length = n + 1) (hl : Ev.look F d k = some (cellsT s)) (hb : OkT s.1) :
    ∃ kk, callE cfg 45 [.c (.ptr d k 0)] F = some (some (.c (.sl kk 2 (encR (rgB s).1))), Ev.setF F d k (cellsT (rgB s).2)) := by
  have hlt := look_lt hl
  rw [hF] at hlt
  have hne : ¬(d = n + 1) := by omega
  have hss := setF_setF F d k
  have hls := fun o => look_setF (o := o) hl
  have hlen : ∀ o, (Ev.setF F d k o).length = n + 1 := fun o => by rw [setF_len, hF]
  have h1 := rows60_ev ([] :: F) (n + 1) d k s (by simp [hF]) (look_upT _ hF hl) hb
  have hmany : (rowsB ptB s).1.length ≤ 2000000000 := rowsB_many (one := ptB) s hb
  unfold rgB
  generalize rowsB ptB s = x at h1 hmany ⊢
  obtain ⟨l, ts, bad⟩ := x
  simp only [cellsT] at h1 hmany ⊢
  generalize (if l.length = 0 then K.nil else K.own) = kk at h1
  by_cases c1 : l.length ≤ 3
  · refine ⟨.nil, ?_⟩
    refine callE_code (fn := Tryz.f45) (rs := [.tmp 2]) (by kernel_rfl) (by kernel_rfl) (by kernel_rfl) rfl rfl rfl (by show 1 ≤ 29; decide) ?_
    rw [if_pos (.inl c1)]
    have d1 : ((l.length : Int) ≤ 3) := by omega
    simp only [resTmpsR, List.filterMap, evC_ret, evC_region, evC_draw, evC_seq, evC_cond, feedL, feedOf, runL, stepW, wantedV, Ev.step, opv, ev, getT, binV, intOp, put, params, constV, List.map, List.contains_nil, Bool.or_self, Nat.reduceEqDiff, if_true, if_false, decide_true, reduceCtorEq, Nat.reduceBEq, give, gives, V.hasSl, C.isSl, V.strip, C.strip, feeds, List.append_nil, List.nil_append, List.contains_cons, Bool.false_eq_true, List.getElem?_toArray, List.length_cons, constC, lenV, List.getElem?_cons_zero, List.getElem?_cons_succ, Bool.and_true, and_self, List.drop_zero, V.cells, List.length_nil, Nat.zero_add, Option.bind_some, List.drop_succ_cons, List.take_succ_cons, List.take_zero, bb_tf, List.getElem?_nil, Nat.reduceAdd, finishR, resVs, resV, freezeVs, freezeV, freezeC, target, consOf, doCall, argsG, List.all_cons, List.all_nil, V.le, C.le, C.leL, Ev.look, Ev.setF, Ev.setRange, pickV, List.cons_append, Nat.le_refl, Nat.add_one_sub_one, cons_55, sealed_55, sz_4, esz_39, lay_61, und_38, h1, hls, hss, hlen, hF, hne, encR_len, d1]
    rfl
  · have d1 : ¬((l.length : Int) ≤ 3) := by omega
    have d2 : (0 : Int) < (l.length : Int) := by omega
    have d3 : IntKind.i64.wrap ((l.length : Int) - 1) = ((l.length - 1 : Nat) : Int) := by rw [wrap64] <;> omega
    have d4 : (0 : Int) ≤ ((l.length - 1 : Nat) : Int) := by omega
    have d5 : (((l.length - 1 : Nat) : Int)) < (l.length : Int) := by omega
    have d6 : (((l.length - 1 : Nat) : Int)) ≤ (l.length : Int) := by omega
    obtain ⟨p, hp, _⟩ := drop_get (l := l) (i := 0) (by omega)
    obtain ⟨q, hq, _⟩ := drop_get (l := l) (i := l.length - 1) (by omega)
    have ep := encR_get hp
    have eq' := encR_get hq
    have hcut : cut 0 (l.length - 1) (encR l) = encR (l.take (l.length - 1)) := by simp [cut, encR]
    by_cases c2 : p = q
    · refine ⟨.ro, ?_⟩
      refine callE_code (fn := Tryz.f45) (rs := [.tmp 2]) (by kernel_rfl) (by kernel_rfl) (by kernel_rfl) rfl rfl rfl (by show 1 ≤ 29; decide) ?_
      rw [if_neg (by
        rintro (h | h)
        · exact c1 h
        · exact h (by rw [hp, hq, c2]))]
      have c3 : (p.1 == q.1) = true := by simp [c2]
      have c4 : (p.2 == q.2) = true := by simp [c2]
      simp only [resTmpsR, List.filterMap, evC_skip, evC_ret, evC_region, evC_draw, evC_seq, evC_cond, feedL, feedOf, runL, stepW, wantedV, Ev.step, opv, ev, getT, binV, intOp, put, params, constV, List.map, List.contains_nil, Bool.or_self, Nat.reduceEqDiff, if_true, if_false, decide_false, reduceCtorEq, Nat.reduceBEq, give, gives, V.hasSl, C.isSl, V.strip, C.strip, feeds, List.append_nil, List.nil_append, List.contains_cons, Bool.false_eq_true, List.getElem?_toArray, List.length_cons, constC, lenV, List.getElem?_cons_zero, List.getElem?_cons_succ, Bool.or_false, beq_self_eq_true, Bool.not_true, Bool.and_true, and_self, readV, D.toC, List.drop_zero, List.length_nil, Nat.zero_add, Option.bind_some, List.take_succ_cons, List.take_zero, Bool.not_true, cond_false, List.map_cons, kstrip_ro, kstrip_strip, Nat.zero_lt_succ, Nat.reduceAdd, finishR, resVs, resV, freezeVs, freezeV, freezeC, target, consOf, doCall, argsG, List.all_cons, List.all_nil, V.le, C.le, C.leL, Ev.setF, sliceV, boundV, asNat, Int.reduceToNat, Int.toNat_natCast, Option.map_some, Option.map_none, Int.le_refl, Nat.le_refl, Nat.add_one_sub_one, cons_55, sealed_55, sz_41, agg_41, esz_38, esz_39, eqf_41, und_38, h1, hF, hne, encR_len, d1, d2, d3, d4, d5, d6, ep, eq', eqCs, c3, c4, hcut]
    · refine ⟨.nil, ?_⟩
      refine callE_code (fn := Tryz.f45) (rs := [.tmp 2]) (by kernel_rfl) (by kernel_rfl) (by kernel_rfl) rfl rfl rfl (by show 1 ≤ 29; decide) ?_
      rw [if_pos (.inr (by rw [hp, hq]; exact fun h => c2 (Option.some.inj h)))]
      by_cases c3 : p.1 = q.1
      · have c3' : (p.1 == q.1) = true := by simp [c3]
        have c4' : (p.2 == q.2) = false := by
          rw [beq_eq_false_iff_ne]
          exact fun h => c2 (Prod.ext c3 h)
        simp only [resTmpsR, List.filterMap, evC_ret, evC_region, evC_draw, evC_seq, evC_cond, feedL, feedOf, runL, stepW, wantedV, Ev.step, opv, ev, getT, binV, intOp, put, params, constV, List.map, List.contains_nil, Bool.or_self, Nat.reduceEqDiff, if_true, if_false, decide_false, reduceCtorEq, Nat.reduceBEq, give, gives, V.hasSl, C.isSl, V.strip, C.strip, feeds, List.append_nil, List.nil_append, List.contains_cons, Bool.false_eq_true, List.getElem?_toArray, List.length_cons, constC, lenV, List.getElem?_cons_zero, List.getElem?_cons_succ, beq_self_eq_true, Bool.not_false, Bool.and_false, Bool.and_true, and_self, readV, D.toC, List.drop_zero, V.cells, List.length_nil, Nat.zero_add, Option.bind_some, List.drop_succ_cons, List.take_succ_cons, List.take_zero, cond_false, List.getElem?_nil, List.map_cons, Nat.zero_lt_succ, Nat.reduceAdd, finishR, resVs, resV, freezeVs, freezeV, freezeC, target, consOf, doCall, argsG, List.all_cons, List.all_nil, V.le, C.le, C.leL, Ev.look, Ev.setF, Ev.setRange, List.cons_append, Int.reduceToNat, Int.toNat_natCast, Int.le_refl, Nat.le_refl, Nat.add_one_sub_one, cons_55, sealed_55, sz_4, sz_41, agg_41, esz_38, esz_39, lay_61, eqf_41, und_38, h1, hls, hss, hlen, hF, hne, encR_len, d1, d2, d3, d4, d5, ep, eq', eqCs, c3', c4']
        rfl
      · have c3' : (p.1 == q.1) = false := by rw [beq_eq_false_iff_ne]; exact c3
        simp only [resTmpsR, List.filterMap, evC_ret, evC_region, evC_draw, evC_seq, evC_cond, feedL, feedOf, runL, stepW, wantedV, Ev.step, opv, ev, getT, binV, intOp, put, params, constV, List.map, List.contains_nil, Bool.or_self, Nat.reduceEqDiff, if_true, if_false, decide_false, reduceCtorEq, Nat.reduceBEq, give, gives, V.hasSl, C.isSl, V.strip, C.strip, feeds, List.append_nil, List.nil_append, List.contains_cons, Bool.false_eq_true, List.getElem?_toArray, List.length_cons, constC, lenV, List.getElem?_cons_zero, List.getElem?_cons_succ, beq_self_eq_true, Bool.not_false, Bool.and_true, Bool.false_and, and_self, readV, D.toC, List.drop_zero, V.cells, List.length_nil, Nat.zero_add, Option.bind_some, List.drop_succ_cons, List.take_succ_cons, List.take_zero, cond_false, List.getElem?_nil, List.map_cons, Nat.zero_lt_succ, Nat.reduceAdd, finishR, resVs, resV, freezeVs, freezeV, freezeC, target, consOf, doCall, argsG, List.all_cons, List.all_nil, V.le, C.le, C.leL, Ev.look, Ev.setF, Ev.setRange, List.cons_append, Int.reduceToNat, Int.toNat_natCast, Int.le_refl, Nat.le_refl, Nat.add_one_sub_one, cons_55, sealed_55, sz_4, sz_41, agg_41, esz_38, esz_39, lay_61, eqf_41, und_38, h1, hls, hss, hlen, hF, hne, encR_len, d1, d2, d3, d4, d5, ep, eq', eqCs, c3']
        rfl

set_option maxHeartbeats 1000000 in
theorem rows51_ev (F : Frames) (n d k : Nat) (s : Rs) (hF : F.length = n + 1) (hl : Ev.look F d k = some (cellsT s)) (hb : OkT s.1) :
    callE cfg 44 [.c (.ptr d k 0), .c (.fn (.func 45) [] [])] F = some (some (.c (.sl (if (rowsB rgB s).1.length = 0 then .nil else .own) 1 (encG (rowsB rgB s).1))), Ev.setF F d k (cellsT (rowsB rgB s).2)) := by
  have hlt := look_lt hl
  rw [hF] at hlt
  have hne : ¬(d = n + 1) := by omega
  have hss := setF_setF F d k
  have hls := fun o => look_setF (o := o) hl
  have hlen : ∀ o, (Ev.setF F d k o).length = n + 1 := fun o => by rw [setF_len, hF]
  refine callE_code (fn := Tryz.f44) (rs := [.tmp 4]) (by kernel_rfl) (by kernel_rfl) (by kernel_rfl) rfl rfl rfl (by show 2 ≤ 30; decide) ?_
  have h1 := is_ev ([] :: F) (n + 1) d k [40] s (by simp [hF]) (look_upT _ hF hl)
  have hb1 := hb.suf (isB_suf [40] s)
  unfold rowsB
  generalize isB [40] s = s1 at h1 hb1 ⊢
  have hNl := hb1.len
  generalize hN : s1.1.length + 1 = N
  simp only [cellsT] at h1
  have enc1 : ∀ (o : List (Rg)) x, encG o ++ [[.sl 2 (encR x)]] = encG (o ++ [x]) := fun o x => by simp [encG]
  simp only [resTmpsR, List.filterMap, evC_ret, evC_region, evC_seq, evC_loop, blockEx, feedL, feedOf, runL, stepW, wantedV, Ev.step, opv, ev, getT, put, params, constV, keep, List.map, List.contains_nil, Nat.reduceEqDiff, if_true, if_false, reduceCtorEq, give, gives, V.hasSl, C.isSl, V.strip, C.strip, feeds, List.append_nil, List.nil_append, Bool.false_eq_true, constC, Bool.and_true, Nat.zero_add, List.map_cons, finishR, resVs, resV, freezeVs, freezeV, freezeC, target, consOf, doCall, argsG, List.all_cons, List.all_nil, V.le, C.le, Ev.setF, Nat.add_one_sub_one, cons_29, sealed_29, live_44_0, esz_36, h1, hF, hne]
  let σ : List (Rg) × Rs × Nat → S := fun (o, s, m) => { m := [(0, .c (.ptr d k 0)), (1, .c (.fn (.func 45) [] [])), (4, .c (.sl .nil 1 [])), (5, .c (.sl (if o.length = 0 then .nil else .own) 1 (encG o)))], fs := [] :: Ev.setF F d k (cellsT s) }
  generalize hR : rowsLoop rgB N [] s1 = R
  generalize hL : loopE cfg (callE cfg) itE 44 [4] _ _ _ = out
  have hout : ∃ ex st, out = some (ex, st) ∧ st.fs = [] :: Ev.setF F d k (cellsT R.2) ∧ ((ex = .exit 0 ∧ R.1 = []) ∨ (ex = .ret ∧ ¬(R.1.length = 0) ∧ getT st.m 4 = .c (.sl .own 1 (encG R.1)))) := by
    rw [← hL]
    refine loopE_inv σ (fun (o, s, m) => m) (fun (o, s, m) => R = rowsLoop rgB m o s ∧ (s.2 = true ∨ s.1.length < m) ∧ o.length + m = N ∧ OkT s.1) (fun ex st => st.fs = [] :: Ev.setF F d k (cellsT R.2) ∧ ((ex = .exit 0 ∧ R.1 = []) ∨ (ex = .ret ∧ ¬(R.1.length = 0) ∧ getT st.m 4 = .c (.sl .own 1 (encG R.1))))) (fun (o, s, m) ⟨p1, p2, p3, p4⟩ => ?_) ([], s1, N) ⟨hR.symm, .inr (by rw [← hN]; exact Nat.lt_succ_self _), by simp, hb1⟩
    obtain ⟨ts, bad⟩ := s
    simp only at p2 p3 p4
    cases bad
    · obtain ⟨m, rfl⟩ : ∃ m', m = m' + 1 := by
        rcases p2 with p2 | p2
        · cases p2
        · exact ⟨m - 1, by omega⟩
      have p2' : ts.length < m + 1 := by
        rcases p2 with p2 | p2
        · cases p2
        · exact p2
      simp only [rowsLoop, Bool.false_eq_true, if_false] at p1
      obtain ⟨ke, h6⟩ := rgT_ev ([] :: Ev.setF F d k (cellsT (ts, false))) (n + 1) d k (ts, false) (by simp [setF_len, hF]) (look_upT _ (hlen _) (hls _)) p4
      have hsx := rgB_suf (ts, false)
      generalize rgB (ts, false) = x at p1 h6 hsx
      obtain ⟨x, x2⟩ := x
      simp only at p1 h6 hsx
      have h7 := next_ev ([] :: Ev.setF F d k (cellsT x2)) (n + 1) d k x2 (by simp [setF_len, hF]) (look_upT _ (hlen _) (hls _))
      have hsh := nextB_shorter x2
      have hsy := (nextB_suf x2).trans hsx
      generalize nextB x2 = y at p1 h7 hsh hsy
      obtain ⟨w, ts2, bad2⟩ := y
      simp only at p1 h7 hsh hsy
      have hx := hsx.length_le
      have h8 : (encG o).length + 1 < 5629499534213 := by simp only [encG, List.length_map]; omega
      have h9 : ¬((o ++ [x]).length = 0) := by simp
      simp only [cellsT] at h6 h7
      have hk : ∃ kk, (if o.length = 0 then K.nil else K.own) = kk ∧ (kk = .nil ∨ kk = .own) := by
        by_cases h0 : o.length = 0
        · exact ⟨_, if_pos h0, .inl rfl⟩
        · exact ⟨_, if_neg h0, .inr rfl⟩
      obtain ⟨kk, hk, hkk⟩ := hk
      by_cases c1 : w = [41]
      · rw [if_pos c1] at p1
        have d1 : (w == [41]) = true := by rw [c1]; rfl
        have fin : R.1 = o ++ [x] := by rw [p1]
        have fin2 : R.2 = (ts2, bad2) := by rw [p1]
        rcases hkk with rfl | rfl
        · simp only [σ, evC_skip, evC_ret, evC_region, evC_seq, evC_cond, evC_bseq, blockEx, feedL, feedOf, runL, stepW, wantedV, Ev.step, opv, ev, getT, binV, strOp, unV, put, constV, List.map, List.contains_nil, Bool.or_self, Nat.reduceEqDiff, if_true, if_false, reduceCtorEq, Nat.reduceBEq, give, gives, V.hasSl, C.isSl, V.strip, C.strip, feeds, List.append_nil, List.nil_append, List.contains_cons, Bool.false_eq_true, List.length_cons, constC, List.getElem?_cons_zero, List.getElem?_cons_succ, Bool.or_false, beq_self_eq_true, Bool.not_false, Bool.and_true, Bool.false_and, and_self, or_false, readV, List.drop_zero, fillE, V.cells, toDs, C.toD, appendV, tailD, appOK, List.replicate, List.length_nil, Nat.zero_add, cfg_arr, List.drop_succ_cons, List.take_succ_cons, List.take_zero, List.set_cons_zero, List.getElem?_nil, kstrip_own, kstrip_nil, Nat.lt_add_one, Nat.reduceAdd, Nat.reduceLeDiff, Nat.mul_one, target, consOf, doCall, argsG, List.all_cons, List.all_nil, V.le, C.le, Ev.newObj, Ev.look, Ev.setF, Ev.setRange, List.cons_append, Nat.add_one_sub_one, cons_43, sealed_43, agg_4, esz_36, elemT_36, lay_61, zero_39, und_36, elemI_36, sealed_45, cellsT, hk, h6, h7, hls, hss, hlen, hne, d1, h8, enc1]
          refine ⟨_, rfl, ?_⟩
          exact Round.ret ⟨by rw [fin2]; rfl, .inr ⟨rfl, by rw [fin]; exact h9, by rw [fin]; rfl⟩⟩
        · simp only [σ, evC_skip, evC_ret, evC_region, evC_seq, evC_cond, evC_bseq, blockEx, feedL, feedOf, runL, stepW, wantedV, Ev.step, opv, ev, getT, binV, strOp, unV, put, constV, List.map, List.contains_nil, Bool.or_self, Nat.reduceEqDiff, if_true, if_false, reduceCtorEq, Nat.reduceBEq, give, gives, V.hasSl, C.isSl, V.strip, C.strip, feeds, List.append_nil, List.nil_append, List.contains_cons, Bool.false_eq_true, List.length_cons, constC, List.getElem?_cons_zero, List.getElem?_cons_succ, Bool.or_false, beq_self_eq_true, Bool.not_false, Bool.and_true, Bool.false_and, and_self, or_false, readV, List.drop_zero, fillE, V.cells, toDs, C.toD, appendV, tailD, appOK, List.replicate, List.length_nil, Nat.zero_add, cfg_arr, List.drop_succ_cons, List.take_succ_cons, List.take_zero, List.set_cons_zero, List.getElem?_nil, kstrip_own, Nat.lt_add_one, Nat.reduceAdd, Nat.reduceLeDiff, Nat.mul_one, target, consOf, doCall, argsG, List.all_cons, List.all_nil, V.le, C.le, Ev.newObj, Ev.look, Ev.setF, Ev.setRange, List.cons_append, Nat.add_one_sub_one, cons_43, sealed_43, agg_4, esz_36, elemT_36, lay_61, zero_39, und_36, elemI_36, sealed_45, cellsT, hk, h6, h7, hls, hss, hlen, hne, d1, h8, enc1]
          refine ⟨_, rfl, ?_⟩
          exact Round.ret ⟨by rw [fin2]; rfl, .inr ⟨rfl, by rw [fin]; exact h9, by rw [fin]; rfl⟩⟩
      · rw [if_neg c1] at p1
        have d1 : (w == [41]) = false := by rw [beq_eq_false_iff_ne]; exact c1
        by_cases c2 : w = [44]
        · rw [if_pos c2] at p1
          obtain ⟨e1, e2⟩ := hsh (by rw [c2]; simp)
          have d2 : (w == [44]) = true := by rw [c2]; rfl
          rcases hkk with rfl | rfl
          · simp only [σ, evC_skip, evC_region, evC_seq, evC_cond, evC_bseq, blockEx, feedL, feedOf, runL, stepW, wantedV, Ev.step, opv, ev, getT, binV, strOp, unV, put, constV, List.map, List.contains_nil, Bool.or_self, Nat.reduceEqDiff, if_true, if_false, reduceCtorEq, Nat.reduceBEq, give, gives, V.hasSl, C.isSl, V.strip, C.strip, feeds, List.append_nil, List.nil_append, List.contains_cons, Bool.false_eq_true, List.length_cons, constC, List.getElem?_cons_zero, List.getElem?_cons_succ, Bool.or_false, beq_self_eq_true, Bool.not_true, Bool.not_false, Bool.and_true, Bool.false_and, and_self, or_false, readV, List.drop_zero, fillE, V.cells, toDs, C.toD, appendV, tailD, appOK, List.replicate, List.length_nil, Nat.zero_add, cfg_arr, List.drop_succ_cons, List.take_succ_cons, List.take_zero, Bool.not_true, List.set_cons_zero, List.getElem?_nil, kstrip_own, kstrip_nil, Nat.lt_add_one, Nat.reduceAdd, Nat.reduceLeDiff, Nat.mul_one, target, consOf, doCall, argsG, List.all_cons, List.all_nil, V.le, C.le, Ev.newObj, Ev.look, Ev.setF, Ev.setRange, List.cons_append, Nat.add_one_sub_one, cons_43, sealed_43, agg_4, esz_36, elemT_36, lay_61, zero_39, und_36, elemI_36, sealed_45, cellsT, hk, h6, h7, hls, hss, hlen, hne, d1, d2, h8, enc1]
            refine ⟨_, rfl, ?_⟩
            exact Round.again (o ++ [x], (ts2, bad2), m) (by simp only [h9, if_false]; rfl) ⟨p1, .inr (by simp only; omega), by simp only [List.length_append, List.length_cons, List.length_nil]; omega, p4.suf hsy⟩ (by simp only; omega)
          · simp only [σ, evC_skip, evC_region, evC_seq, evC_cond, evC_bseq, blockEx, feedL, feedOf, runL, stepW, wantedV, Ev.step, opv, ev, getT, binV, strOp, unV, put, constV, List.map, List.contains_nil, Bool.or_self, Nat.reduceEqDiff, if_true, if_false, reduceCtorEq, Nat.reduceBEq, give, gives, V.hasSl, C.isSl, V.strip, C.strip, feeds, List.append_nil, List.nil_append, List.contains_cons, Bool.false_eq_true, List.length_cons, constC, List.getElem?_cons_zero, List.getElem?_cons_succ, Bool.or_false, beq_self_eq_true, Bool.not_true, Bool.not_false, Bool.and_true, Bool.false_and, and_self, or_false, readV, List.drop_zero, fillE, V.cells, toDs, C.toD, appendV, tailD, appOK, List.replicate, List.length_nil, Nat.zero_add, cfg_arr, List.drop_succ_cons, List.take_succ_cons, List.take_zero, Bool.not_true, List.set_cons_zero, List.getElem?_nil, kstrip_own, Nat.lt_add_one, Nat.reduceAdd, Nat.reduceLeDiff, Nat.mul_one, target, consOf, doCall, argsG, List.all_cons, List.all_nil, V.le, C.le, Ev.newObj, Ev.look, Ev.setF, Ev.setRange, List.cons_append, Nat.add_one_sub_one, cons_43, sealed_43, agg_4, esz_36, elemT_36, lay_61, zero_39, und_36, elemI_36, sealed_45, cellsT, hk, h6, h7, hls, hss, hlen, hne, d1, d2, h8, enc1]
            refine ⟨_, rfl, ?_⟩
            exact Round.again (o ++ [x], (ts2, bad2), m) (by simp only [h9, if_false]; rfl) ⟨p1, .inr (by simp only; omega), by simp only [List.length_append, List.length_cons, List.length_nil]; omega, p4.suf hsy⟩ (by simp only; omega)
        · rw [if_neg c2] at p1
          have d2 : (w == [44]) = false := by rw [beq_eq_false_iff_ne]; exact c2
          rcases hkk with rfl | rfl
          · simp only [σ, evC_skip, evC_region, evC_seq, evC_cond, evC_bseq, blockEx, feedL, feedOf, runL, stepW, wantedV, Ev.step, opv, ev, getT, binV, strOp, unV, put, constV, List.map, List.contains_nil, Bool.or_self, Nat.reduceEqDiff, if_true, if_false, reduceCtorEq, Nat.reduceBEq, give, gives, V.hasSl, C.isSl, V.strip, C.strip, feeds, List.append_nil, List.nil_append, List.contains_cons, Bool.false_eq_true, List.length_cons, constC, List.getElem?_cons_zero, List.getElem?_cons_succ, Bool.or_false, beq_self_eq_true, Bool.not_false, Bool.and_true, Bool.false_and, and_self, or_false, readV, List.drop_zero, fillE, V.cells, toDs, C.toD, appendV, tailD, appOK, List.replicate, List.length_nil, Nat.zero_add, cfg_arr, List.drop_succ_cons, List.take_succ_cons, List.take_zero, List.set_cons_zero, List.getElem?_nil, kstrip_own, kstrip_nil, Nat.lt_add_one, Nat.reduceAdd, Nat.reduceLeDiff, Nat.mul_one, target, consOf, doCall, argsG, List.all_cons, List.all_nil, V.le, C.le, C.leL, Ev.newObj, Ev.look, Ev.setF, Ev.setRange, List.cons_append, Nat.le_refl, Nat.add_one_sub_one, cons_43, sealed_43, sz_4, agg_4, esz_36, elemT_36, lay_61, zero_39, und_36, elemI_36, sealed_45, cellsT, hk, h6, h7, hls, hss, hlen, hne, d1, d2, h8, enc1]
            refine ⟨_, rfl, ?_⟩
            exact Round.again (o ++ [x], (ts2, true), m) (by simp only [h9, if_false]; rfl) ⟨p1, .inl rfl, by simp only [List.length_append, List.length_cons, List.length_nil]; omega, p4.suf hsy⟩ (by simp only; omega)
          · simp only [σ, evC_skip, evC_region, evC_seq, evC_cond, evC_bseq, blockEx, feedL, feedOf, runL, stepW, wantedV, Ev.step, opv, ev, getT, binV, strOp, unV, put, constV, List.map, List.contains_nil, Bool.or_self, Nat.reduceEqDiff, if_true, if_false, reduceCtorEq, Nat.reduceBEq, give, gives, V.hasSl, C.isSl, V.strip, C.strip, feeds, List.append_nil, List.nil_append, List.contains_cons, Bool.false_eq_true, List.length_cons, constC, List.getElem?_cons_zero, List.getElem?_cons_succ, Bool.or_false, beq_self_eq_true, Bool.not_false, Bool.and_true, Bool.false_and, and_self, or_false, readV, List.drop_zero, fillE, V.cells, toDs, C.toD, appendV, tailD, appOK, List.replicate, List.length_nil, Nat.zero_add, cfg_arr, List.drop_succ_cons, List.take_succ_cons, List.take_zero, List.set_cons_zero, List.getElem?_nil, kstrip_own, Nat.lt_add_one, Nat.reduceAdd, Nat.reduceLeDiff, Nat.mul_one, target, consOf, doCall, argsG, List.all_cons, List.all_nil, V.le, C.le, C.leL, Ev.newObj, Ev.look, Ev.setF, Ev.setRange, List.cons_append, Nat.le_refl, Nat.add_one_sub_one, cons_43, sealed_43, sz_4, agg_4, esz_36, elemT_36, lay_61, zero_39, und_36, elemI_36, sealed_45, cellsT, hk, h6, h7, hls, hss, hlen, hne, d1, d2, h8, enc1]
            refine ⟨_, rfl, ?_⟩
            exact Round.again (o ++ [x], (ts2, true), m) (by simp only [h9, if_false]; rfl) ⟨p1, .inl rfl, by simp only [List.length_append, List.length_cons, List.length_nil]; omega, p4.suf hsy⟩ (by simp only; omega)
    · have hbad : rowsLoop rgB m o (ts, true) = ([], (ts, true)) := by cases m <;> simp [rowsLoop]
      rw [hbad] at p1
      simp only [σ, evC_exit, evC_region, evC_seq, evC_cond, feedL, feedOf, runL, stepW, wantedV, Ev.step, opv, ev, getT, unV, put, List.contains_nil, Nat.reduceEqDiff, if_true, if_false, reduceCtorEq, give, V.hasSl, C.isSl, V.strip, C.strip, feeds, List.append_nil, List.nil_append, Bool.false_eq_true, List.length_cons, List.getElem?_cons_zero, List.getElem?_cons_succ, Bool.not_true, Bool.false_and, readV, List.drop_zero, List.length_nil, Nat.zero_add, List.drop_succ_cons, List.take_succ_cons, List.take_zero, Bool.not_true, List.getElem?_nil, Nat.reduceAdd, Ev.look, Ev.setF, Ev.setRange, List.cons_append, Nat.add_one_sub_one, agg_4, lay_61, cellsT, hls, hss, hlen, hne]
      refine ⟨_, rfl, ?_⟩
      exact Round.out ⟨by rw [p1]; rfl, .inl ⟨rfl, by rw [p1]⟩⟩
  obtain ⟨ex, ⟨m, fs'⟩, q1, q2, q3 | q3⟩ := hout
  · obtain ⟨rfl, q4⟩ := q3
    simp only at q2
    subst q2
    rw [q4]
    simp only [q1, getT, if_true, List.length_nil]
    rfl
  · obtain ⟨rfl, q4, q5⟩ := q3
    simp only at q2 q5
    subst q2
    simp only [q1, if_false, q4, q5]

theorem pgT_ev (F : Frames) (n d k : Nat) (s : Rs) (hF : F.length = n + 1) (hl : Ev.look F d k = some (cellsT s)) (hb : OkT s.1) :
    ∃ kk, callE cfg 32 [.c (.ptr d k 0)] F = some (some (.c (.sl kk 1 (encG (pgB s).1))), Ev.setF F d k (cellsT (pgB s).2)) := by
  refine ⟨if (rowsB rgB s).1.length = 0 then .nil else .own, ?_⟩
  have hlt := look_lt hl
  rw [hF] at hlt
  have hne : ¬(d = n + 1) := by omega
  have hss := setF_setF F d k
  have hls := fun o => look_setF (o := o) hl
  have hlen : ∀ o, (Ev.setF F d k o).length = n + 1 := fun o => by rw [setF_len, hF]
  have h1 := rows51_ev ([] :: F) (n + 1) d k s (by simp [hF]) (look_upT _ hF hl) hb
  refine callE_code (fn := Tryz.f32) (rs := [.tmp 2]) (by kernel_rfl) (by kernel_rfl) (by kernel_rfl) rfl rfl rfl (by show 1 ≤ 5; decide) ?_
  unfold pgB
  simp only [resTmpsR, List.filterMap, evC_ret, evC_region, evC_seq, feedL, feedOf, runL, stepW, wantedV, Ev.step, opv, ev, getT, put, params, constV, List.map, List.contains_nil, Bool.or_self, Nat.reduceEqDiff, if_true, if_false, reduceCtorEq, Nat.reduceBEq, give, gives, V.hasSl, C.isSl, V.strip, C.strip, feeds, List.append_nil, List.nil_append, List.contains_cons, Bool.false_eq_true, Bool.or_false, beq_self_eq_true, Bool.and_true, finishR, resVs, resV, freezeVs, freezeV, freezeC, target, consOf, doCall, argsG, List.all_cons, List.all_nil, V.le, C.le, C.leL, Ev.setF, Nat.add_one_sub_one, cons_44, sealed_44, esz_42, h1, hF, hne]

set_option maxHeartbeats 1000000 in
theorem rows32_ev (F : Frames) (n d k : Nat) (s : Rs) (hF : F.length = n + 1) (hl : Ev.look F d k = some (cellsT s)) (hb : OkT s.1) :
    callE cfg 31 [.c (.ptr d k 0), .c (.fn (.func 32) [] [])] F = some (some (.c (.sl (if (rowsB pgB s).1.length = 0 then .nil else .own) 1 (encL (rowsB pgB s).1))), Ev.setF F d k (cellsT (rowsB pgB s).2)) := by
  have hlt := look_lt hl
  rw [hF] at hlt
  have hne : ¬(d = n + 1) := by omega
  have hss := setF_setF F d k
  have hls := fun o => look_setF (o := o) hl
  have hlen : ∀ o, (Ev.setF F d k o).length = n + 1 := fun o => by rw [setF_len, hF]
  refine callE_code (fn := Tryz.f31) (rs := [.tmp 4]) (by kernel_rfl) (by kernel_rfl) (by kernel_rfl) rfl rfl rfl (by show 2 ≤ 30; decide) ?_
  have h1 := is_ev ([] :: F) (n + 1) d k [40] s (by simp [hF]) (look_upT _ hF hl)
  have hb1 := hb.suf (isB_suf [40] s)
  unfold rowsB
  generalize isB [40] s = s1 at h1 hb1 ⊢
  have hNl := hb1.len
  generalize hN : s1.1.length + 1 = N
  simp only [cellsT] at h1
  have enc1 : ∀ (o : List (Pg)) x, encL o ++ [[.sl 1 (encG x)]] = encL (o ++ [x]) := fun o x => by simp [encL]
  simp only [resTmpsR, List.filterMap, evC_ret, evC_region, evC_seq, evC_loop, blockEx, feedL, feedOf, runL, stepW, wantedV, Ev.step, opv, ev, getT, put, params, constV, keep, List.map, List.contains_nil, Nat.reduceEqDiff, if_true, if_false, reduceCtorEq, give, gives, V.hasSl, C.isSl, V.strip, C.strip, feeds, List.append_nil, List.nil_append, Bool.false_eq_true, constC, Bool.and_true, Nat.zero_add, List.map_cons, finishR, resVs, resV, freezeVs, freezeV, freezeC, target, consOf, doCall, argsG, List.all_cons, List.all_nil, V.le, C.le, Ev.setF, Nat.add_one_sub_one, cons_29, sealed_29, live_31_0, esz_26, h1, hF, hne]
  let σ : List (Pg) × Rs × Nat → S := fun (o, s, m) => { m := [(0, .c (.ptr d k 0)), (1, .c (.fn (.func 32) [] [])), (4, .c (.sl .nil 1 [])), (5, .c (.sl (if o.length = 0 then .nil else .own) 1 (encL o)))], fs := [] :: Ev.setF F d k (cellsT s) }
  generalize hR : rowsLoop pgB N [] s1 = R
  generalize hL : loopE cfg (callE cfg) itE 31 [4] _ _ _ = out
  have hout : ∃ ex st, out = some (ex, st) ∧ st.fs = [] :: Ev.setF F d k (cellsT R.2) ∧ ((ex = .exit 0 ∧ R.1 = []) ∨ (ex = .ret ∧ ¬(R.1.length = 0) ∧ getT st.m 4 = .c (.sl .own 1 (encL R.1)))) := by
    rw [← hL]
    refine loopE_inv σ (fun (o, s, m) => m) (fun (o, s, m) => R = rowsLoop pgB m o s ∧ (s.2 = true ∨ s.1.length < m) ∧ o.length + m = N ∧ OkT s.1) (fun ex st => st.fs = [] :: Ev.setF F d k (cellsT R.2) ∧ ((ex = .exit 0 ∧ R.1 = []) ∨ (ex = .ret ∧ ¬(R.1.length = 0) ∧ getT st.m 4 = .c (.sl .own 1 (encL R.1))))) (fun (o, s, m) ⟨p1, p2, p3, p4⟩ => ?_) ([], s1, N) ⟨hR.symm, .inr (by rw [← hN]; exact Nat.lt_succ_self _), by simp, hb1⟩
    obtain ⟨ts, bad⟩ := s
    simp only at p2 p3 p4
    cases bad
    · obtain ⟨m, rfl⟩ : ∃ m', m = m' + 1 := by
        rcases p2 with p2 | p2
        · cases p2
        · exact ⟨m - 1, by omega⟩
      have p2' : ts.length < m + 1 := by
        rcases p2 with p2 | p2
        · cases p2
        · exact p2
      simp only [rowsLoop, Bool.false_eq_true, if_false] at p1
      obtain ⟨ke, h6⟩ := pgT_ev ([] :: Ev.setF F d k (cellsT (ts, false))) (n + 1) d k (ts, false) (by simp [setF_len, hF]) (look_upT _ (hlen _) (hls _)) p4
      have hsx := pgB_suf (ts, false)
      generalize pgB (ts, false) = x at p1 h6 hsx
      obtain ⟨x, x2⟩ := x
      simp only at p1 h6 hsx
      have h7 := next_ev ([] :: Ev.setF F d k (cellsT x2)) (n + 1) d k x2 (by simp [setF_len, hF]) (look_upT _ (hlen _) (hls _))
      have hsh := nextB_shorter x2
      have hsy := (nextB_suf x2).trans hsx
      generalize nextB x2 = y at p1 h7 hsh hsy
      obtain ⟨w, ts2, bad2⟩ := y
      simp only at p1 h7 hsh hsy
      have hx := hsx.length_le
      have h8 : (encL o).length + 1 < 5629499534213 := by simp only [encL, List.length_map]; omega
      have h9 : ¬((o ++ [x]).length = 0) := by simp
      simp only [cellsT] at h6 h7
      have hk : ∃ kk, (if o.length = 0 then K.nil else K.own) = kk ∧ (kk = .nil ∨ kk = .own) := by
        by_cases h0 : o.length = 0
        · exact ⟨_, if_pos h0, .inl rfl⟩
        · exact ⟨_, if_neg h0, .inr rfl⟩
      obtain ⟨kk, hk, hkk⟩ := hk
      by_cases c1 : w = [41]
      · rw [if_pos c1] at p1
        have d1 : (w == [41]) = true := by rw [c1]; rfl
        have fin : R.1 = o ++ [x] := by rw [p1]
        have fin2 : R.2 = (ts2, bad2) := by rw [p1]
        rcases hkk with rfl | rfl
        · simp only [σ, evC_skip, evC_ret, evC_region, evC_seq, evC_cond, evC_bseq, blockEx, feedL, feedOf, runL, stepW, wantedV, Ev.step, opv, ev, getT, binV, strOp, unV, put, constV, List.map, List.contains_nil, Bool.or_self, Nat.reduceEqDiff, if_true, if_false, reduceCtorEq, Nat.reduceBEq, give, gives, V.hasSl, C.isSl, V.strip, C.strip, feeds, List.append_nil, List.nil_append, List.contains_cons, Bool.false_eq_true, List.length_cons, constC, List.getElem?_cons_zero, List.getElem?_cons_succ, Bool.or_false, beq_self_eq_true, Bool.not_false, Bool.and_true, Bool.false_and, and_self, or_false, readV, List.drop_zero, fillE, V.cells, toDs, C.toD, appendV, tailD, appOK, List.replicate, List.length_nil, Nat.zero_add, cfg_arr, List.drop_succ_cons, List.take_succ_cons, List.take_zero, List.set_cons_zero, List.getElem?_nil, kstrip_own, kstrip_nil, Nat.lt_add_one, Nat.reduceAdd, Nat.reduceLeDiff, Nat.mul_one, target, consOf, doCall, argsG, List.all_cons, List.all_nil, V.le, C.le, Ev.newObj, Ev.look, Ev.setF, Ev.setRange, List.cons_append, Nat.add_one_sub_one, cons_43, sealed_43, agg_4, esz_26, elemT_26, lay_61, zero_42, und_26, elemI_26, sealed_32, cellsT, hk, h6, h7, hls, hss, hlen, hne, d1, h8, enc1]
          refine ⟨_, rfl, ?_⟩
          exact Round.ret ⟨by rw [fin2]; rfl, .inr ⟨rfl, by rw [fin]; exact h9, by rw [fin]; rfl⟩⟩
        · simp only [σ, evC_skip, evC_ret, evC_region, evC_seq, evC_cond, evC_bseq, blockEx, feedL, feedOf, runL, stepW, wantedV, Ev.step, opv, ev, getT, binV, strOp, unV, put, constV, List.map, List.contains_nil, Bool.or_self, Nat.reduceEqDiff, if_true, if_false, reduceCtorEq, Nat.reduceBEq, give, gives, V.hasSl, C.isSl, V.strip, C.strip, feeds, List.append_nil, List.nil_append, List.contains_cons, Bool.false_eq_true, List.length_cons, constC, List.getElem?_cons_zero, List.getElem?_cons_succ, Bool.or_false, beq_self_eq_true, Bool.not_false, Bool.and_true, Bool.false_and, and_self, or_false, readV, List.drop_zero, fillE, V.cells, toDs, C.toD, appendV, tailD, appOK, List.replicate, List.length_nil, Nat.zero_add, cfg_arr, List.drop_succ_cons, List.take_succ_cons, List.take_zero, List.set_cons_zero, List.getElem?_nil, kstrip_own, Nat.lt_add_one, Nat.reduceAdd, Nat.reduceLeDiff, Nat.mul_one, target, consOf, doCall, argsG, List.all_cons, List.all_nil, V.le, C.le, Ev.newObj, Ev.look, Ev.setF, Ev.setRange, List.cons_append, Nat.add_one_sub_one, cons_43, sealed_43, agg_4, esz_26, elemT_26, lay_61, zero_42, und_26, elemI_26, sealed_32, cellsT, hk, h6, h7, hls, hss, hlen, hne, d1, h8, enc1]
          refine ⟨_, rfl, ?_⟩
          exact Round.ret ⟨by rw [fin2]; rfl, .inr ⟨rfl, by rw [fin]; exact h9, by rw [fin]; rfl⟩⟩
      · rw [if_neg c1] at p1
        have d1 : (w == [41]) = false := by rw [beq_eq_false_iff_ne]; exact c1
        by_cases c2 : w = [44]
        · rw [if_pos c2] at p1
          obtain ⟨e1, e2⟩ := hsh (by rw [c2]; simp)
          have d2 : (w == [44]) = true := by rw [c2]; rfl
          rcases hkk with rfl | rfl
          · simp only [σ, evC_skip, evC_region, evC_seq, evC_cond, evC_bseq, blockEx, feedL, feedOf, runL, stepW, wantedV, Ev.step, opv, ev, getT, binV, strOp, unV, put, constV, List.map, List.contains_nil, Bool.or_self, Nat.reduceEqDiff, if_true, if_false, reduceCtorEq, Nat.reduceBEq, give, gives, V.hasSl, C.isSl, V.strip, C.strip, feeds, List.append_nil, List.nil_append, List.contains_cons, Bool.false_eq_true, List.length_cons, constC, List.getElem?_cons_zero, List.getElem?_cons_succ, Bool.or_false, beq_self_eq_true, Bool.not_true, Bool.not_false, Bool.and_true, Bool.false_and, and_self, or_false, readV, List.drop_zero, fillE, V.cells, toDs, C.toD, appendV, tailD, appOK, List.replicate, List.length_nil, Nat.zero_add, cfg_arr, List.drop_succ_cons, List.take_succ_cons, List.take_zero, Bool.not_true, List.set_cons_zero, List.getElem?_nil, kstrip_own, kstrip_nil, Nat.lt_add_one, Nat.reduceAdd, Nat.reduceLeDiff, Nat.mul_one, target, consOf, doCall, argsG, List.all_cons, List.all_nil, V.le, C.le, Ev.newObj, Ev.look, Ev.setF, Ev.setRange, List.cons_append, Nat.add_one_sub_one, cons_43, sealed_43, agg_4, esz_26, elemT_26, lay_61, zero_42, und_26, elemI_26, sealed_32, cellsT, hk, h6, h7, hls, hss, hlen, hne, d1, d2, h8, enc1]
            refine ⟨_, rfl, ?_⟩
            exact Round.again (o ++ [x], (ts2, bad2), m) (by simp only [h9, if_false]; rfl) ⟨p1, .inr (by simp only; omega), by simp only [List.length_append, List.length_cons, List.length_nil]; omega, p4.suf hsy⟩ (by simp only; omega)
          · simp only [σ, evC_skip, evC_region, evC_seq, evC_cond, evC_bseq, blockEx, feedL, feedOf, runL, stepW, wantedV, Ev.step, opv, ev, getT, binV, strOp, unV, put, constV, List.map, List.contains_nil, Bool.or_self, Nat.reduceEqDiff, if_true, if_false, reduceCtorEq, Nat.reduceBEq, give, gives, V.hasSl, C.isSl, V.strip, C.strip, feeds, List.append_nil, List.nil_append, List.contains_cons, Bool.false_eq_true, List.length_cons, constC, List.getElem?_cons_zero, List.getElem?_cons_succ, Bool.or_false, beq_self_eq_true, Bool.not_true, Bool.not_false, Bool.and_true, Bool.false_and, and_self, or_false, readV, List.drop_zero, fillE, V.cells, toDs, C.toD, appendV, tailD, appOK, List.replicate, List.length_nil, Nat.zero_add, cfg_arr, List.drop_succ_cons, List.take_succ_cons, List.take_zero, Bool.not_true, List.set_cons_zero, List.getElem?_nil, kstrip_own, Nat.lt_add_one, Nat.reduceAdd, Nat.reduceLeDiff, Nat.mul_one, target, consOf, doCall, argsG, List.all_cons, List.all_nil, V.le, C.le, Ev.newObj, Ev.look, Ev.setF, Ev.setRange, List.cons_append, Nat.add_one_sub_one, cons_43, sealed_43, agg_4, esz_26, elemT_26, lay_61, zero_42, und_26, elemI_26, sealed_32, cellsT, hk, h6, h7, hls, hss, hlen, hne, d1, d2, h8, enc1]
            refine ⟨_, rfl, ?_⟩
            exact Round.again (o ++ [x], (ts2, bad2), m) (by simp only [h9, if_false]; rfl) ⟨p1, .inr (by simp only; omega), by simp only [List.length_append, List.length_cons, List.length_nil]; omega, p4.suf hsy⟩ (by simp only; omega)
        · rw [if_neg c2] at p1
          have d2 : (w == [44]) = false := by rw [beq_eq_false_iff_ne]; exact c2
          rcases hkk with rfl | rfl
          · simp only [σ, evC_skip, evC_region, evC_seq, evC_cond, evC_bseq, blockEx, feedL, feedOf, runL, stepW, wantedV, Ev.step, opv, ev, getT, binV, strOp, unV, put, constV, List.map, List.contains_nil, Bool.or_self, Nat.reduceEqDiff, if_true, if_false, reduceCtorEq, Nat.reduceBEq, give, gives, V.hasSl, C.isSl, V.strip, C.strip, feeds, List.append_nil, List.nil_append, List.contains_cons, Bool.false_eq_true, List.length_cons, constC, List.getElem?_cons_zero, List.getElem?_cons_succ, Bool.or_false, beq_self_eq_true, Bool.not_false, Bool.and_true, Bool.false_and, and_self, or_false, readV, List.drop_zero, fillE, V.cells, toDs, C.toD, appendV, tailD, appOK, List.replicate, List.length_nil, Nat.zero_add, cfg_arr, List.drop_succ_cons, List.take_succ_cons, List.take_zero, List.set_cons_zero, List.getElem?_nil, kstrip_own, kstrip_nil, Nat.lt_add_one, Nat.reduceAdd, Nat.reduceLeDiff, Nat.mul_one, target, consOf, doCall, argsG, List.all_cons, List.all_nil, V.le, C.le, C.leL, Ev.newObj, Ev.look, Ev.setF, Ev.setRange, List.cons_append, Nat.le_refl, Nat.add_one_sub_one, cons_43, sealed_43, sz_4, agg_4, esz_26, elemT_26, lay_61, zero_42, und_26, elemI_26, sealed_32, cellsT, hk, h6, h7, hls, hss, hlen, hne, d1, d2, h8, enc1]
            refine ⟨_, rfl, ?_⟩
            exact Round.again (o ++ [x], (ts2, true), m) (by simp only [h9, if_false]; rfl) ⟨p1, .inl rfl, by simp only [List.length_append, List.length_cons, List.length_nil]; omega, p4.suf hsy⟩ (by simp only; omega)
          · simp only [σ, evC_skip, evC_region, evC_seq, evC_cond, evC_bseq, blockEx, feedL, feedOf, runL, stepW, wantedV, Ev.step, opv, ev, getT, binV, strOp, unV, put, constV, List.map, List.contains_nil, Bool.or_self, Nat.reduceEqDiff, if_true, if_false, reduceCtorEq, Nat.reduceBEq, give, gives, V.hasSl, C.isSl, V.strip, C.strip, feeds, List.append_nil, List.nil_append, List.contains_cons, Bool.false_eq_true, List.length_cons, constC, List.getElem?_cons_zero, List.getElem?_cons_succ, Bool.or_false, beq_self_eq_true, Bool.not_false, Bool.and_true, Bool.false_and, and_self, or_false, readV, List.drop_zero, fillE, V.cells, toDs, C.toD, appendV, tailD, appOK, List.replicate, List.length_nil, Nat.zero_add, cfg_arr, List.drop_succ_cons, List.take_succ_cons, List.take_zero, List.set_cons_zero, List.getElem?_nil, kstrip_own, Nat.lt_add_one, Nat.reduceAdd, Nat.reduceLeDiff, Nat.mul_one, target, consOf, doCall, argsG, List.all_cons, List.all_nil, V.le, C.le, C.leL, Ev.newObj, Ev.look, Ev.setF, Ev.setRange, List.cons_append, Nat.le_refl, Nat.add_one_sub_one, cons_43, sealed_43, sz_4, agg_4, esz_26, elemT_26, lay_61, zero_42, und_26, elemI_26, sealed_32, cellsT, hk, h6, h7, hls, hss, hlen, hne, d1, d2, h8, enc1]
            refine ⟨_, rfl, ?_⟩
            exact Round.again (o ++ [x], (ts2, true), m) (by simp only [h9, if_false]; rfl) ⟨p1, .inl rfl, by simp only [List.length_append, List.length_cons, List.length_nil]; omega, p4.suf hsy⟩ (by simp only; omega)
    · have hbad : rowsLoop pgB m o (ts, true) = ([], (ts, true)) := by cases m <;> simp [rowsLoop]
      rw [hbad] at p1
      simp only [σ, evC_exit, evC_region, evC_seq, evC_cond, feedL, feedOf, runL, stepW, wantedV, Ev.step, opv, ev, getT, unV, put, List.contains_nil, Nat.reduceEqDiff, if_true, if_false, reduceCtorEq, give, V.hasSl, C.isSl, V.strip, C.strip, feeds, List.append_nil, List.nil_append, Bool.false_eq_true, List.length_cons, List.getElem?_cons_zero, List.getElem?_cons_succ, Bool.not_true, Bool.false_and, readV, List.drop_zero, List.length_nil, Nat.zero_add, List.drop_succ_cons, List.take_succ_cons, List.take_zero, Bool.not_true, List.getElem?_nil, Nat.reduceAdd, Ev.look, Ev.setF, Ev.setRange, List.cons_append, Nat.add_one_sub_one, agg_4, lay_61, cellsT, hls, hss, hlen, hne]
      refine ⟨_, rfl, ?_⟩
      exact Round.out ⟨by rw [p1]; rfl, .inl ⟨rfl, by rw [p1]⟩⟩
  obtain ⟨ex, ⟨m, fs'⟩, q1, q2, q3 | q3⟩ := hout
  · obtain ⟨rfl, q4⟩ := q3
    simp only at q2
    subst q2
    rw [q4]
    simp only [q1, getT, if_true, List.length_nil]
    rfl
  · obtain ⟨rfl, q4, q5⟩ := q3
    simp only at q2 q5
    subst q2
    simp only [q1, if_false, q4, q5]

end Go.Proofs.YtbfllngekcckeaaGreatDoor
