/- text.signs, of a text whose bytes are below 128. -/
import Derived.Test.YtbfllngekcckeaaGreatDoorEvPr
import Derived.Test.YtbfllngekcckeaaGreatDoorEvIt
import Derived.Test.YtbfllngekcckeaaGreatDoorEvSx
set_option linter.unusedSimpArgs false
set_option linter.unusedVariables false
namespace Go.Proofs.YtbfllngekcckeaaGreatDoor
open Go.Ev
open Go.RowKit (Below)
set_option maxHeartbeats 400000
set_option maxRecDepth 4000

/-- The calls that signs makes. -/
noncomputable def cfgS : Cfg := { cfg with ok := fun _ => false, prim := fun g => if g = 42 then some primContainsRune else none }

theorem cfgS_ok : CfgOK cfgS := by
  refine ⟨by kernel_rfl, (fun f h fn b _ _ => by cases h), fun g p h => ?_⟩
  simp only [cfgS] at h
  split at h
  · rename_i hg
    subst hg
    cases h
    exact containsRune_ok
  · cases h

noncomputable def callS : CallF := callN cfgS 1
theorem callS_ok : CallOK cfg.P callS ∧ Even callS := callN_ok cfgS_ok 1

theorem callS_49 (b : UInt8) (h : b < 128) (fs : Frames) : callS 42 [.c (.str [40, 41, 44]), .c (.int .i32 b.toNat)] fs = some (some (.c (.bool (decide (b = 40 ∨ b = 41 ∨ b = 44)))), fs) := by
  have h1 : b.toNat < 128 := by simpa using UInt8.lt_iff_toNat_lt.1 h
  have h2 : UInt8.ofNat ((b.toNat : Int)).toNat = b := by simp
  have h3 : ([40, 41, 44] : List UInt8).contains b = decide (b = 40 ∨ b = 41 ∨ b = 44) := by
    simp only [List.contains_cons, List.contains_nil, Bool.or_false]
    by_cases e1 : b = 40 <;> by_cases e2 : b = 41 <;> by_cases e3 : b = 44 <;> simp_all
  show (if (0 : Int) ≤ b.toNat ∧ (b.toNat : Int) < 128 then _ else _) = _
  rw [if_pos ⟨by omega, by omega⟩, h2, h3]

def encS (l : List (List UInt8)) : List (List D) := l.map fun w => [.str w]

noncomputable def itS : (S → Out) → List Nat → S → Out := itE
theorem itS_ok : ItOK itE := fun _ _ _ _ h => itE_get h

/-- What stands at the loop's head. -/
def sgS (fs : Frames) (pv : Value) (o : List (List UInt8)) (last : List UInt8) : S :=
  { m := [(3, .c (.sl (if o.length = 0 then .nil else .own) 1 (encS o))), (4, .c (.str last)), (8, .raw pv)], fs := [] :: fs }

/-- A round's words. -/
def sgStep (o : List (List UInt8)) (last : List UInt8) (b : UInt8) : List (List UInt8) × List UInt8 :=
  if b = 32 then (if last = [] then (o, []) else (o ++ [last], []))
  else if b = 40 ∨ b = 41 ∨ b = 44 then (if last = [] then (o ++ [[b]], []) else (o ++ [last, [b]], []))
  else (o, last ++ [b])

theorem sgStep_eq (o : List (List UInt8)) (last : List UInt8) (b : UInt8) (r : List UInt8) : o ++ signsF last (b :: r) = (sgStep o last b).1 ++ signsF (sgStep o last b).2 r := by
  unfold sgStep
  simp only [signsF]
  split
  · split <;> simp_all
  · split
    · split <;> simp_all
    · simp

theorem sgStep_len (o : List (List UInt8)) (last : List UInt8) (b : UInt8) : (sgStep o last b).1.length ≤ o.length + 2 ∧ (sgStep o last b).2.length ≤ last.length + 1 := by
  unfold sgStep
  split
  · split <;> simp
  · split
    · split <;> simp
    · simp

theorem iter_below (w : World) (t : ByteArray) (n : Nat) : Below w.heap.size w (w.iter t n) :=
  ⟨rfl, rfl, rfl, by show w.heap.size ≤ (w.heap.push _).size; simp, fun k hk => Go.RowKit.Below.heap_alloc w _ k hk⟩

/-- The loop's head: what is read so far, and the iterator. -/
def Head (fs : Frames) (dep : Nat) (γ₀ : Gh) (β₀ : Bl) (w₀ : World) (s : List UInt8) (pos : Nat) (o : List (List UInt8)) (last : List UInt8) (a : Act) (w : World) : Prop :=
  ∃ γ β B, Inv 43 (dep + 1) γ β (sgS fs (.pointer (some ⟨B, 0, none⟩)) o last) a w ∧ Ext (dep + 1) ([] :: fs) γ₀ β₀ w₀ γ β w ∧ Iter γ w w₀ B ⟨s.toArray⟩ pos ∧ a.defers = []

theorem rounds_signs {fs : Frames} {dep : Nat} {γ₀ : Gh} {β₀ : Bl} {w₀ : World} {s : List UInt8} {body : Code} {Q : Exit → Act → World → Prop}
    (h1 : ∀ pos b o last a w next, s[pos]? = some b → o.length ≤ 2 * pos → last.length ≤ pos → Head fs dep γ₀ β₀ w₀ s pos o last a w →
      (∀ a' w', Head fs dep γ₀ β₀ w₀ s (pos + 1) (sgStep o last b).1 (sgStep o last b).2 a' w' → next a' w') → body.wp Tryz.prog (Exit.then next Q) a w)
    (h2 : ∀ o last a w next, o.length ≤ 2 * s.length → signsF [] s = o ++ signsF last [] → Head fs dep γ₀ β₀ w₀ s s.length o last a w → body.wp Tryz.prog (Exit.then next Q) a w) :
    ∀ (r : List UInt8) (pos : Nat) o last a w, s.drop pos = r → o.length ≤ 2 * pos → last.length ≤ pos → pos ≤ s.length → signsF [] s = o ++ signsF last r → Head fs dep γ₀ β₀ w₀ s pos o last a w → Code.rounds Tryz.prog body Q (r.length + 1) a w
  | [], pos, o, last, a, w, hr, ho, hl, hp, hs, h => by
    have : pos = s.length := by
      have := congrArg List.length hr
      simp at this
      omega
    subst this
    exact h2 o last a w _ ho hs h
  | b :: r, pos, o, last, a, w, hr, ho, hl, hp, hs, h => by
    have hb : s[pos]? = some b := by
      have := congrArg List.head? hr
      simpa using this
    have hlt : pos < s.length := by
      have := (List.getElem?_eq_some_iff.1 hb).1
      exact this
    obtain ⟨g1, g2⟩ := sgStep_len o last b
    refine h1 pos b o last a w _ hb ho hl h fun a' w' h' => ?_
    refine rounds_signs h1 h2 r (pos + 1) _ _ a' w' ?_ (by omega) (by omega) (by omega) (by rw [← sgStep_eq]; exact hs) h'
    have := congrArg List.tail hr
    simpa using this

/-- The loop's body, and what is behind the loop. -/
def loopBody : Code → Code
  | .seq _ (.seq _ (.seq _ (.seq (.seq _ (.block _ (.loop b))) _))) => b
  | _ => .skip
def behind : Code → Code
  | .seq _ (.seq _ (.seq _ (.seq _ b))) => b
  | _ => .skip
noncomputable def sgBody : Code := loopBody (Tryz.f28.body.getD .skip)
noncomputable def sgTail : Code := behind (Tryz.f28.body.getD .skip)

def blkOf : Code → Code
  | .seq _ (.seq _ b) => b
  | _ => .skip
noncomputable def sgBlk : Code := blkOf sgBody

theorem str_add (x y : List UInt8) (h : x.length + y.length ≤ 9223372036854775807) : strOp .add x y = some (.str (x ++ y)) := if_pos h

theorem enc_ascii (n : Nat) (h : n < 128) : (Utf8.encode (n : Int)).data.toList = [UInt8.ofNat n] := by
  have hv : Utf8.valid (n : Int) = true := by
    rw [validRune_eq]
    simp only [validRune, decide_eq_true_eq]
    omega
  have : Utf8.encode (n : Int) = ⟨#[UInt8.ofNat n]⟩ := by
    simp only [Utf8.encode, hv, if_true, Int.toNat_natCast, h]
  rw [this]

def caOf : Code → Code
  | .block _ (.seq _ (.block _ (.seq _ (.cond _ a _)))) => a
  | _ => .skip
def cbOf : Code → Code
  | .block _ (.seq _ (.block _ (.seq _ (.cond _ _ b)))) => b
  | _ => .skip
def r7Of : Code → Code
  | .block _ (.seq _ (.block _ (.seq r _))) => r
  | _ => .skip
noncomputable def sgR7 : Code := r7Of sgBlk
noncomputable def sgA : Code := caOf sgBlk
noncomputable def sgB : Code := cbOf sgBlk

def sg6 (fs : Frames) (x3 x4 x6 x8 : V) : S := { m := [(3, x3), (4, x4), (6, x6), (8, x8)], fs := [] :: fs }
def sg16 (fs : Frames) (x3 x4 x6 x8 : V) (c : Bool) : S := { m := [(3, x3), (4, x4), (6, x6), (8, x8), (16, .c (.bool c))], fs := [] :: fs }

theorem sg_r7 (call : CallF) (hcall : ∀ (b : UInt8), b < 128 → ∀ fs, call 42 [.c (.str [40, 41, 44]), .c (.int .i32 b.toNat)] fs = some (some (.c (.bool (decide (b = 40 ∨ b = 41 ∨ b = 44)))), fs)) (fs : Frames) (x3 x4 x8 : V) (b : UInt8) (h128 : b < 128) :
    ∃ s1, evC cfg call itE 28 [2] sgR7 (sg6 fs x3 x4 (.c (.int .i32 b.toNat)) x8) = some (.normal, s1) ∧ keep [3, 4, 6, 8, 16] s1 = sg16 fs x3 x4 (.c (.int .i32 b.toNat)) x8 (decide (b = 32 ∨ b = 40 ∨ b = 41 ∨ b = 44)) ∧ s1.fs = [] :: fs := by
  by_cases c1 : b = 32
  · have t1 : ((b.toNat : Int) == 32) = true := by subst c1; rfl
    have t2 : decide (b = 32 ∨ b = 40 ∨ b = 41 ∨ b = 44) = true := decide_eq_true (.inl c1)
    rw [t2]
    refine ⟨_, by
      simp only [sg6, sgR7, r7Of, sgBlk, blkOf, sgBody, loopBody, Tryz.f28, Option.getD_some, evC_region, feedL, feedOf, runL, stepW, wantedV, Ev.step, opv, ev, getT, binV, intOp, put, constV, List.contains_nil, Bool.or_self, Nat.reduceEqDiff, if_true, if_false, Nat.reduceBEq, give, V.hasSl, C.isSl, V.strip, C.strip, feeds, List.append_nil, List.contains_cons, Bool.false_eq_true, List.getElem?_toArray, constC, List.getElem?_cons_zero, List.getElem?_cons_succ, Option.bind_some, bb_tf, pickV, cons_42, t1]
      rfl, rfl, rfl⟩
  · have hn32 : ¬((b.toNat : Int) = 32) := fun e => c1 (UInt8.toNat_inj.1 (by have : (32 : UInt8).toNat = 32 := rfl; omega))
    have t1 : ((b.toNat : Int) == 32) = false := by rw [beq_eq_false_iff_ne]; exact hn32
    have hc := hcall b h128 ([] :: fs)
    cases c3 : decide (b = 40 ∨ b = 41 ∨ b = 44)
    · have t2 : decide (b = 32 ∨ b = 40 ∨ b = 41 ∨ b = 44) = false := by
        have := of_decide_eq_false c3
        exact decide_eq_false fun h => h.elim c1 this
      rw [t2]
      rw [c3] at hc
      refine ⟨_, by
        simp only [sg6, sgR7, r7Of, sgBlk, blkOf, sgBody, loopBody, Tryz.f28, Option.getD_some, evC_region, feedL, feedOf, runL, stepW, wantedV, Ev.step, opv, ev, getT, binV, intOp, put, constV, List.map, List.contains_nil, Bool.or_self, Nat.reduceEqDiff, if_true, if_false, Nat.reduceBEq, give, gives, V.hasSl, C.isSl, V.strip, C.strip, feeds, List.append_nil, List.nil_append, List.contains_cons, Bool.false_eq_true, List.getElem?_toArray, constC, List.getElem?_cons_zero, List.getElem?_cons_succ, beq_self_eq_true, Bool.and_true, Option.bind_some, cond_false, target, consOf, doCall, argsG, List.all_cons, List.all_nil, V.le, C.le, cons_42, sealed_42, t1, hc]
        rfl, rfl, rfl⟩
    · have t2 : decide (b = 32 ∨ b = 40 ∨ b = 41 ∨ b = 44) = true := decide_eq_true (.inr (of_decide_eq_true c3))
      rw [t2]
      rw [c3] at hc
      refine ⟨_, by
        simp only [sg6, sgR7, r7Of, sgBlk, blkOf, sgBody, loopBody, Tryz.f28, Option.getD_some, evC_region, feedL, feedOf, runL, stepW, wantedV, Ev.step, opv, ev, getT, binV, intOp, put, constV, List.map, List.contains_nil, Bool.or_self, Nat.reduceEqDiff, if_true, if_false, Nat.reduceBEq, give, gives, V.hasSl, C.isSl, V.strip, C.strip, feeds, List.append_nil, List.nil_append, List.contains_cons, Bool.false_eq_true, List.getElem?_toArray, constC, List.getElem?_cons_zero, List.getElem?_cons_succ, beq_self_eq_true, Bool.and_true, Option.bind_some, cond_false, target, consOf, doCall, argsG, List.all_cons, List.all_nil, V.le, C.le, cons_42, sealed_42, t1, hc]
        rfl, rfl, rfl⟩

theorem sg_a (call : CallF) (fs : Frames) (pv : Value) (b : UInt8) (o : List (List UInt8)) (last : List UInt8) (h128 : b < 128) (ho : o.length ≤ 2000000000) (hbr : b = 32 ∨ b = 40 ∨ b = 41 ∨ b = 44) :
    ∃ s1, evC cfg call itE 28 [2] sgA (sg16 fs (.c (.sl (if o.length = 0 then .nil else .own) 1 (encS o))) (.c (.str last)) (.c (.int .i32 b.toNat)) (.raw pv) true) = some (.normal, s1) ∧
      keep [3, 4, 8] s1 = sgS fs pv (sgStep o last b).1 (sgStep o last b).2 ∧ s1.fs = [] :: fs := by
  have h128' : b.toNat < 128 := by simpa using UInt8.lt_iff_toNat_lt.1 h128
  have hel : (encS o).length = o.length := by simp [encS]
  have q1 : (encS o).length + 1 < 8278675785607 := by omega
  have q2 : (encS o ++ [[D.str last]]).length + 1 < 8278675785607 := by simp only [List.length_append, List.length_cons, List.length_nil]; omega
  have q3 : (Utf8.encode (b.toNat : Int)).data.toList = [b] := by rw [enc_ascii _ h128']; simp
  have henc : ∀ (o : List (List UInt8)) x, encS o ++ [[D.str x]] = encS (o ++ [x]) := fun o x => by simp [encS]
  by_cases c1 : b = 32
  · have t1 : ((b.toNat : Int) == 32) = true := by subst c1; rfl
    by_cases c2 : last = []
    · subst c2
      have t2 : (([] : List UInt8) == []) = true := rfl
      have t3 : ((b.toNat : Int) != 32) = false := by subst c1; rfl
      refine ⟨_, by
        simp only [sg16, sgA, caOf, sgBlk, blkOf, sgBody, loopBody, Tryz.f28, Option.getD_some, evC_skip, evC_region, evC_seq, evC_cond, feedL, feedOf, runL, stepW, wantedV, Ev.step, opv, ev, getT, binV, intOp, strOp, put, constV, List.map, List.contains_nil, Bool.or_self, Nat.reduceEqDiff, if_true, if_false, reduceCtorEq, Nat.reduceBEq, give, V.hasSl, C.isSl, V.strip, C.strip, feeds, List.append_nil, List.nil_append, List.contains_cons, Bool.false_eq_true, List.length_cons, constC, Bool.or_false, beq_self_eq_true, Bool.not_true, and_self, or_false, fillE, V.cells, toDs, C.toD, appendV, tailD, appOK, List.replicate, List.length_nil, Nat.zero_add, cfg_arr, Bool.true_or, Bool.not_true, List.set_cons_zero, Nat.lt_add_one, Nat.reduceLeDiff, Nat.mul_one, convV, Ev.newObj, esz_58, elemT_58, zero_9, conv_21_9, und_58, elemI_58]
        try simp only [sg16, sgA, caOf, sgBlk, blkOf, sgBody, loopBody, Tryz.f28, Option.getD_some, resTmpsR, List.filterMap, evC_skip, evC_label, evC_exit, evC_ret, evC_region, evC_draw, evC_seq, evC_cond, evC_loop, evC_bseq, evC_bcond, evC_bregion, evC_bblock, evC_bskip, blockEx, feedL, feedOf, runL, stepW, wantedV, Ev.step, opv, ev, getT, isLit, binV, intOp, shiftOp, strOp, unV, litKind, eqV, put, params, constV, keep, List.map, List.contains_nil, Bool.or_self, Nat.reduceEqDiff, reduceIte, if_true, if_false, decide_true, decide_false, reduceCtorEq, Nat.reduceBEq, give, gives, V.hasSl, C.isSl, V.strip, C.strip, feeds, List.append_nil, List.nil_append, List.contains_cons, Bool.false_eq_true, List.getElem?_toArray, List.length_cons, constC, lenV, List.getElem?_cons_zero, List.getElem?_cons_succ, Bool.or_false, Bool.false_or, Bool.or_true, beq_self_eq_true, Bool.not_true, Bool.not_false, Bool.and_false, Bool.and_true, Bool.true_and, Bool.false_and, and_true, true_and, and_self, or_false, false_or, true_or, or_true, Nat.reduceLT, Nat.lt_irrefl, Nat.zero_lt_one, readV, D.toC, List.drop_zero, fillE, fillC, V.cells, toDs, C.toD, appendV, tailD, appOK, List.replicate, List.length_nil, Nat.zero_add, cfg_arr, cfg_esc, Option.bind_some, Option.bind_none, List.drop_succ_cons, List.take_succ_cons, List.take_zero, Bool.true_or, Bool.false_or, Bool.not_true, bb_tt, bb_ft, bb_tf, bb_ff, cond_true, cond_false, IntKind.bits, Int.reducePow, Nat.reducePow, List.set_cons_zero, List.set_cons_succ, List.getElem?_nil, List.map_cons, List.map_nil, kstrip_own, kstrip_ro, kstrip_nil, kstrip_exact, kstrip_strip, foldC, minC, maxC, Nat.lt_add_one, Nat.zero_lt_succ, Nat.reduceAdd, Nat.reduceMul, Nat.reduceLeDiff, Nat.reduceSub, Nat.one_mul, Nat.mul_one, finishR, resVs, resV, freezeVs, freezeV, freezeC, freezeCs, List.take_length, convV, target, consOf, doCall, argsG, List.all_cons, List.all_nil, V.le, C.le, C.leL, Ev.newObj, Ev.look, Ev.setF, Ev.setRange, List.getElem?_append, sliceV, boundV, asNat, pickV, List.cons_append, V.le1, Int.reduceNeg, Int.reduceLT, Int.reduceLE, Int.reduceToNat, Int.reduceEq, Int.reduceAdd, Nat.reduceGT, Int.toNat_natCast, Option.map_some, Option.map_none, Int.le_refl, Nat.le_refl, Nat.add_one_sub_one, Nat.add_sub_cancel, Nat.sub_self, cons_4, sealed_4, cons_5, sealed_5, cons_15, sealed_15, cons_7, sealed_7, cons_10, sealed_10, cons_16, sealed_16, cons_12, sealed_12, cons_9, sealed_9, cons_31, sealed_31, cons_27, sealed_27, cons_20, sealed_20, cons_46, sealed_46, cons_42, sealed_42, cons_52, sealed_52, sz_3, sz_4, sz_5, sz_9, sz_43, sz_49, sz_37, sz_39, sz_41, sz_42, sz_58, sz_78, sz_90, sz_95, sz_119, sz_132, sz_148, sz_149, agg_3, agg_4, agg_5, agg_9, agg_43, agg_49, agg_37, agg_39, agg_41, agg_42, agg_58, agg_78, agg_90, agg_95, agg_119, esz_22, esz_43, esz_26, esz_49, esz_36, esz_37, esz_38, esz_39, esz_42, esz_58, elemT_22, elemT_43, elemT_26, elemT_49, elemT_36, elemT_38, elemT_39, elemT_42, elemT_58, lay_41, lay_70, lay_61, lay_78, lay_92, layB_41, layB_70, layB_61, layB_78, layB_140, layB_132, layB_147, layB_148, layB_149, zero_3, zero_5, zero_9, zero_37, zero_39, zero_41, zero_42, zero_70, zero_61, zero_78, zero_118, zero_140, zero_132, zero_134, zero_147, zero_148, zero_149, eqk_4, eqf_41, eqk_90, eqk_95, conv_2_119, conv_3_5, conv_3_86, conv_3_119, conv_5_3, conv_5_21, conv_5_119, conv_9_43, conv_21_3, conv_21_5, conv_21_9, conv_43_9, conv_86_133, conv_90_112, conv_112_90, conv_119_2, conv_119_5, conv_119_133, conv_133_5, und_9, und_22, und_43, und_26, und_49, und_36, und_37, und_38, und_39, und_42, und_58, und_118, und_132, und_134, und_148, und_149, ifc_9, ifc_124, ifc_127, ifc_145, elemI_22, elemI_43, elemI_26, elemI_49, elemI_36, elemI_38, elemI_39, elemI_58, by_3, by_5, by_9, by_37, by_39, by_41, by_42, t1, t2]
        try simp only [t3]
        rfl, ?_, rfl⟩
      rw [show (sgStep o [] b).1 = o from (by simp [sgStep, c1]), show (sgStep o [] b).2 = [] from (by simp [sgStep, c1])]
      exact rfl
    · have t2 : (last == []) = false := by rw [beq_eq_false_iff_ne]; exact c2
      have t3 : ((b.toNat : Int) != 32) = false := by subst c1; rfl
      by_cases hz : o.length = 0
      · have hk : (if o.length = 0 then Ev.K.nil else Ev.K.own) = Ev.K.nil := if_pos hz
        rw [hk]
        refine ⟨_, by
          simp only [sg16, sgA, caOf, sgBlk, blkOf, sgBody, loopBody, Tryz.f28, Option.getD_some, evC_skip, evC_region, evC_seq, evC_cond, feedL, feedOf, runL, stepW, wantedV, Ev.step, opv, ev, getT, isLit, binV, intOp, strOp, litKind, eqV, put, constV, List.map, List.contains_nil, Bool.or_self, Nat.reduceEqDiff, if_true, if_false, reduceCtorEq, Nat.reduceBEq, give, V.hasSl, C.isSl, V.strip, C.strip, feeds, List.append_nil, List.nil_append, List.contains_cons, Bool.false_eq_true, List.length_cons, constC, Bool.or_false, Bool.or_true, beq_self_eq_true, and_self, or_false, fillE, V.cells, toDs, C.toD, appendV, tailD, appOK, List.replicate, List.length_nil, Nat.zero_add, cfg_arr, List.set_cons_zero, kstrip_nil, Nat.lt_add_one, Nat.reduceLeDiff, Nat.mul_one, convV, Ev.newObj, esz_58, elemT_58, zero_9, conv_21_9, und_58, elemI_58]
          try simp only [getT, Nat.reduceEqDiff, if_true, if_false, reduceCtorEq, List.length_cons, beq_self_eq_true, Bool.not_false, or_false, toDs, C.toD, List.length_nil, Nat.zero_add, kstrip_own, t2, q1]
          try simp only [t3]
          rfl, ?_, rfl⟩
        rw [show (sgStep o last b).1 = o ++ [last] from (by simp [sgStep, c1, c2]), show (sgStep o last b).2 = [] from (by simp [sgStep, c1, c2])]
        exact (by simp only [sgS, ← henc]; simp only [List.length_append, List.length_cons, List.length_nil]; rw [if_neg (by omega)]; rfl)
      · have hk : (if o.length = 0 then Ev.K.nil else Ev.K.own) = Ev.K.own := if_neg hz
        rw [hk]
        refine ⟨_, by
          simp only [sg16, sgA, caOf, sgBlk, blkOf, sgBody, loopBody, Tryz.f28, Option.getD_some, evC_skip, evC_region, evC_seq, evC_cond, feedL, feedOf, runL, stepW, wantedV, Ev.step, opv, ev, getT, isLit, binV, intOp, strOp, litKind, eqV, put, constV, List.map, List.contains_nil, Bool.or_self, Nat.reduceEqDiff, if_true, if_false, reduceCtorEq, Nat.reduceBEq, give, V.hasSl, C.isSl, V.strip, C.strip, feeds, List.append_nil, List.nil_append, List.contains_cons, Bool.false_eq_true, List.length_cons, constC, Bool.or_false, Bool.or_true, beq_self_eq_true, and_self, or_false, fillE, V.cells, toDs, C.toD, appendV, tailD, appOK, List.replicate, List.length_nil, Nat.zero_add, cfg_arr, List.set_cons_zero, kstrip_own, Nat.lt_add_one, Nat.reduceLeDiff, Nat.mul_one, convV, Ev.newObj, esz_58, elemT_58, zero_9, conv_21_9, und_58, elemI_58]
          try simp only [getT, Nat.reduceEqDiff, if_true, if_false, reduceCtorEq, List.length_cons, beq_self_eq_true, Bool.not_false, or_false, toDs, C.toD, List.length_nil, Nat.zero_add, kstrip_own, t2, q1]
          try simp only [t3]
          rfl, ?_, rfl⟩
        rw [show (sgStep o last b).1 = o ++ [last] from (by simp [sgStep, c1, c2]), show (sgStep o last b).2 = [] from (by simp [sgStep, c1, c2])]
        exact (by simp only [sgS, ← henc]; simp only [List.length_append, List.length_cons, List.length_nil]; rw [if_neg (by omega)]; rfl)
  · have hn32 : ¬((b.toNat : Int) = 32) := fun e => c1 (UInt8.toNat_inj.1 (by have : (32 : UInt8).toNat = 32 := rfl; omega))
    have t1 : ((b.toNat : Int) == 32) = false := by rw [beq_eq_false_iff_ne]; exact hn32
    have t3 : ((b.toNat : Int) != 32) = true := by rw [bne_iff_ne]; exact hn32
    have c3 : b = 40 ∨ b = 41 ∨ b = 44 := hbr.resolve_left c1
    · skip
      by_cases c2 : last = []
      · subst c2
        have t2 : (([] : List UInt8) == []) = true := rfl
        by_cases hz : o.length = 0
        · have hk : (if o.length = 0 then Ev.K.nil else Ev.K.own) = Ev.K.nil := if_pos hz
          rw [hk]
          refine ⟨_, by
            simp only [sg16, sgA, caOf, sgBlk, blkOf, sgBody, loopBody, Tryz.f28, Option.getD_some, evC_skip, evC_region, evC_seq, evC_cond, feedL, feedOf, runL, stepW, wantedV, Ev.step, opv, ev, getT, binV, intOp, strOp, put, constV, List.map, List.contains_nil, Bool.or_self, Nat.reduceEqDiff, if_true, if_false, reduceCtorEq, Nat.reduceBEq, give, V.hasSl, C.isSl, V.strip, C.strip, feeds, List.append_nil, List.nil_append, List.contains_cons, Bool.false_eq_true, List.length_cons, constC, Bool.or_false, beq_self_eq_true, Bool.not_true, and_self, or_false, fillE, V.cells, toDs, C.toD, appendV, tailD, appOK, List.replicate, List.length_nil, Nat.zero_add, cfg_arr, Bool.not_true, List.set_cons_zero, kstrip_nil, Nat.lt_add_one, Nat.reduceLeDiff, Nat.mul_one, convV, Ev.newObj, esz_58, elemT_58, zero_9, conv_21_9, und_58, elemI_58]
            try simp only [getT, Nat.reduceEqDiff, if_true, if_false, kstrip_own, q1]
            try simp only [t3, q3]
            rfl, ?_, rfl⟩
          rw [show (sgStep o [] b).1 = o ++ [[b]] from (by simp [sgStep, c1, c3]), show (sgStep o [] b).2 = [] from (by simp [sgStep, c1, c3])]
          exact (by simp only [sgS, ← henc]; simp only [List.length_append, List.length_cons, List.length_nil]; rw [if_neg (by omega)]; rfl)
        · have hk : (if o.length = 0 then Ev.K.nil else Ev.K.own) = Ev.K.own := if_neg hz
          rw [hk]
          refine ⟨_, by
            simp only [sg16, sgA, caOf, sgBlk, blkOf, sgBody, loopBody, Tryz.f28, Option.getD_some, evC_skip, evC_region, evC_seq, evC_cond, feedL, feedOf, runL, stepW, wantedV, Ev.step, opv, ev, getT, binV, intOp, strOp, put, constV, List.map, List.contains_nil, Bool.or_self, Nat.reduceEqDiff, if_true, if_false, reduceCtorEq, Nat.reduceBEq, give, V.hasSl, C.isSl, V.strip, C.strip, feeds, List.append_nil, List.nil_append, List.contains_cons, Bool.false_eq_true, List.length_cons, constC, Bool.or_false, beq_self_eq_true, Bool.not_true, and_self, or_false, fillE, V.cells, toDs, C.toD, appendV, tailD, appOK, List.replicate, List.length_nil, Nat.zero_add, cfg_arr, Bool.not_true, List.set_cons_zero, kstrip_own, Nat.lt_add_one, Nat.reduceLeDiff, Nat.mul_one, convV, Ev.newObj, esz_58, elemT_58, zero_9, conv_21_9, und_58, elemI_58]
            try simp only [getT, Nat.reduceEqDiff, if_true, if_false, kstrip_own, q1]
            try simp only [t3, q3]
            rfl, ?_, rfl⟩
          rw [show (sgStep o [] b).1 = o ++ [[b]] from (by simp [sgStep, c1, c3]), show (sgStep o [] b).2 = [] from (by simp [sgStep, c1, c3])]
          exact (by simp only [sgS, ← henc]; simp only [List.length_append, List.length_cons, List.length_nil]; rw [if_neg (by omega)]; rfl)
      · have t2 : (last == []) = false := by rw [beq_eq_false_iff_ne]; exact c2
        by_cases hz : o.length = 0
        · have hk : (if o.length = 0 then Ev.K.nil else Ev.K.own) = Ev.K.nil := if_pos hz
          rw [hk]
          refine ⟨_, by
            simp only [sg16, sgA, caOf, sgBlk, blkOf, sgBody, loopBody, Tryz.f28, Option.getD_some, evC_skip, evC_region, evC_seq, evC_cond, feedL, feedOf, runL, stepW, wantedV, Ev.step, opv, ev, getT, isLit, binV, intOp, strOp, litKind, eqV, put, constV, List.map, List.contains_nil, Bool.or_self, Nat.reduceEqDiff, if_true, if_false, reduceCtorEq, Nat.reduceBEq, give, V.hasSl, C.isSl, V.strip, C.strip, feeds, List.append_nil, List.nil_append, List.contains_cons, Bool.false_eq_true, List.length_cons, constC, Bool.or_false, Bool.or_true, beq_self_eq_true, and_self, or_false, fillE, V.cells, toDs, C.toD, appendV, tailD, appOK, List.replicate, List.length_nil, Nat.zero_add, cfg_arr, List.set_cons_zero, kstrip_nil, Nat.lt_add_one, Nat.reduceLeDiff, Nat.mul_one, convV, Ev.newObj, esz_58, elemT_58, zero_9, conv_21_9, und_58, elemI_58]
            try simp only [getT, Nat.reduceEqDiff, if_true, if_false, reduceCtorEq, List.length_cons, beq_self_eq_true, Bool.not_false, or_false, toDs, C.toD, List.length_nil, Nat.zero_add, kstrip_own, t2, q1]
            try simp only [getT, Nat.reduceEqDiff, if_true, if_false, kstrip_own, t3, q2, q3]
            rfl, ?_, rfl⟩
          rw [show (sgStep o last b).1 = o ++ [last] ++ [[b]] from (by simp [sgStep, c1, c2, c3]), show (sgStep o last b).2 = [] from (by simp [sgStep, c1, c2, c3])]
          exact (by simp only [sgS, ← henc]; simp only [List.length_append, List.length_cons, List.length_nil]; rw [if_neg (by omega)]; rfl)
        · have hk : (if o.length = 0 then Ev.K.nil else Ev.K.own) = Ev.K.own := if_neg hz
          rw [hk]
          refine ⟨_, by
            simp only [sg16, sgA, caOf, sgBlk, blkOf, sgBody, loopBody, Tryz.f28, Option.getD_some, evC_skip, evC_region, evC_seq, evC_cond, feedL, feedOf, runL, stepW, wantedV, Ev.step, opv, ev, getT, isLit, binV, intOp, strOp, litKind, eqV, put, constV, List.map, List.contains_nil, Bool.or_self, Nat.reduceEqDiff, if_true, if_false, reduceCtorEq, Nat.reduceBEq, give, V.hasSl, C.isSl, V.strip, C.strip, feeds, List.append_nil, List.nil_append, List.contains_cons, Bool.false_eq_true, List.length_cons, constC, Bool.or_false, Bool.or_true, beq_self_eq_true, and_self, or_false, fillE, V.cells, toDs, C.toD, appendV, tailD, appOK, List.replicate, List.length_nil, Nat.zero_add, cfg_arr, List.set_cons_zero, kstrip_own, Nat.lt_add_one, Nat.reduceLeDiff, Nat.mul_one, convV, Ev.newObj, esz_58, elemT_58, zero_9, conv_21_9, und_58, elemI_58]
            try simp only [getT, Nat.reduceEqDiff, if_true, if_false, reduceCtorEq, List.length_cons, beq_self_eq_true, Bool.not_false, or_false, toDs, C.toD, List.length_nil, Nat.zero_add, kstrip_own, t2, q1]
            try simp only [getT, Nat.reduceEqDiff, if_true, if_false, kstrip_own, t3, q2, q3]
            rfl, ?_, rfl⟩
          rw [show (sgStep o last b).1 = o ++ [last] ++ [[b]] from (by simp [sgStep, c1, c2, c3]), show (sgStep o last b).2 = [] from (by simp [sgStep, c1, c2, c3])]
          exact (by simp only [sgS, ← henc]; simp only [List.length_append, List.length_cons, List.length_nil]; rw [if_neg (by omega)]; rfl)

theorem sg_b (fs : Frames) (pv : Value) (b : UInt8) (o : List (List UInt8)) (last : List UInt8) (h128 : b < 128) (hl : last.length ≤ 2000000000) (hbr : ¬(b = 32 ∨ b = 40 ∨ b = 41 ∨ b = 44)) {dep : Nat} {γ : Gh} {β : Bl} {a : Act} {w : World} (hd : 1 ≤ dep) {Q : Exit → Act → World → Prop}
    (i0 : Inv 43 (dep + 1) γ β (sg16 fs (.c (.sl (if o.length = 0 then .nil else .own) 1 (encS o))) (.c (.str last)) (.c (.int .i32 b.toNat)) (.raw pv) false) a w)
    (hk : ∀ γ' β' a' w', Inv 43 (dep + 1) γ' β' (sgS fs pv (sgStep o last b).1 (sgStep o last b).2) a' w' → Ext (dep + 1) ([] :: fs) γ β w γ' β' w' → a'.defers = a.defers → Q .normal a' w') : sgB.wp Tryz.prog Q a w := by
  have h128' : b.toNat < 128 := by simpa using UInt8.lt_iff_toNat_lt.1 h128
  have q3 : (Utf8.encode (b.toNat : Int)).data.toList = [b] := by rw [enc_ascii _ h128']; simp
  have q4 : strOp .add last [b] = some (.str (last ++ [b])) := str_add last [b] (by simp only [List.length_cons, List.length_nil]; omega)
  have c1 : ¬b = 32 := fun h => hbr (.inl h)
  have c3 : ¬(b = 40 ∨ b = 41 ∨ b = 44) := fun h => hbr (.inr h)
  unfold sg16 at i0
  refine wp_region_list ?_
  refine wpList_plain rfl fun K1 hK1 => ?_
  refine step_ok (c := cfg) (f := 28) (r := 6) (fd := []) (strict := false) (ex := .normal) callS_ok.1 (by omega) (fun d hd => by cases hd; decide) i0 (by simp only [Ev.step, opv, ev, getT, put, List.contains_nil, Nat.reduceEqDiff, if_true, if_false, give, V.hasSl, C.isSl, V.strip, C.strip, feeds, Bool.false_eq_true]; rfl) ?_
  intro γ1 β1 a1 w1 i1 x1 sh1 d1
  refine hK1 _ _ ?_
  refine wpList_plain rfl fun K2 hK2 => ?_
  refine step_ok (c := cfg) (f := 28) (r := 6) (fd := []) (strict := false) (ex := .normal) callS_ok.1 (by omega) (fun d hd => by cases hd; decide) i1 (by simp only [Ev.step, opv, ev, getT, put, List.contains_nil, Nat.reduceEqDiff, if_true, if_false, give, V.hasSl, C.isSl, V.strip, C.strip, feeds, Bool.false_eq_true]; rfl) ?_
  intro γ2 β2 a2 w2 i2 x2 sh2 d2
  refine hK2 _ _ ?_
  refine wpList_plain rfl fun K3 hK3 => ?_
  refine step_ok (c := cfg) (f := 28) (r := 6) (fd := []) (strict := false) (ex := .normal) callS_ok.1 (by omega) (fun d hd => by cases hd; decide) i2 (by simp only [Ev.step, opv, ev, getT, put, Nat.reduceEqDiff, if_true, if_false, convV, conv_21_9, q3]; rfl) ?_
  intro γ3 β3 a3 w3 i3 x3 sh3 d3
  refine hK3 _ _ ?_
  refine wpList_plain rfl fun K4 hK4 => ?_
  refine step_ok (c := cfg) (f := 28) (r := 6) (fd := []) (strict := false) (ex := .normal) callS_ok.1 (by omega) (fun d hd => by cases hd; decide) i3 (by simp only [Ev.step, opv, ev, getT, binV, put, Nat.reduceEqDiff, if_true, if_false, q4]; rfl) ?_
  intro γ4 β4 a4 w4 i4 x4 sh4 d4
  refine hK4 _ _ ?_
  refine wpList_plain rfl fun K5 hK5 => ?_
  refine step_ok (c := cfg) (f := 28) (r := 6) (fd := []) (strict := false) (ex := .normal) callS_ok.1 (by omega) (fun d hd => by cases hd; decide) i4 (by simp only [Ev.step, opv, ev, getT, put, Nat.reduceEqDiff, if_true, if_false, give, V.hasSl, C.isSl, V.strip, C.strip, Bool.false_eq_true]; rfl) ?_
  intro γ5 β5 a5 w5 i5 x5 sh5 d5
  refine hK5 _ _ ?_
  refine wpList_nil (hk _ _ _ _ ?_ ((((x1.trans x2 sh1).trans x3 (sh1.trans sh2)).trans x4 ((sh1.trans sh2).trans sh3)).trans x5 (((sh1.trans sh2).trans sh3).trans sh4)) (by rw [d5, d4, d3, d2, d1]))
  have j := i5.keep [3, 4, 8]
  rw [show (sgStep o last b).1 = o from (by simp [sgStep, c1, c3]), show (sgStep o last b).2 = last ++ [b] from (by simp [sgStep, c1, c3])]
  exact j

theorem signs_more (s : List UInt8) (hs : s.all (· < 128) = true) (hlen : s.length ≤ 1000000000) {fs : Frames} {dep : Nat} {γ : Gh} {β : Bl} {w : World} (hd : 1 ≤ dep) (hw : WInv dep γ β fs w) {Q : Exit → Act → World → Prop}
    (pos : Nat) (b : UInt8) (o : List (List UInt8)) (last : List UInt8) (a : Act) (w' : World) (next : Act → World → Prop) (hb : s[pos]? = some b) (ho : o.length ≤ 2 * pos) (hl : last.length ≤ pos) (head : Head fs dep γ β w s pos o last a w')
    (hnext : ∀ a' w', Head fs dep γ β w s (pos + 1) (sgStep o last b).1 (sgStep o last b).2 a' w' → next a' w') : sgBody.wp Tryz.prog (Exit.then next Q) a w' := by
  obtain ⟨γ', β', B, i, x, it, dn⟩ := head
  have mixed : cfg.P.follows .mixedOrders = true := by kernel_rfl
  have fr := fun {code : Code} {next : Act → World → Prop} {Q : Exit → Act → World → Prop} {st s1 : S} {γ : Gh} {β : Bl} {a : Act} {w : World} => frag_ok (c := cfg) (call := callS) (it := itE) (f := 28) (res := [2]) (N := 43) (dep := dep + 1) (code := code) (next := next) (Q := Q) (s := st) (s1 := s1) (γ := γ) (β := β) (a := a) (w := w) callS_ok.1 callS_ok.2 itS_ok (by omega) mixed
  have hall : ∀ (pos : Nat) b, s[pos]? = some b → b < 128 := fun pos b hb => by
    have := List.all_eq_true.1 hs b (List.mem_of_getElem? hb)
    simpa using this
  have hlt := (List.getElem?_eq_some_iff.1 hb).1
  have hbe : s[pos]'hlt = b := (List.getElem?_eq_some_iff.1 hb).2
  have h128 := hall pos b hb
  have h128' : b.toNat < 128 := by simpa using UInt8.lt_iff_toNat_lt.1 h128
  have hsz' : pos < (⟨s.toArray⟩ : ByteArray).size := by rw [str_size]; exact hlt
  have hget : (⟨s.toArray⟩ : ByteArray)[pos]'hsz' = b := by
    show s.toArray[pos] = b
    simpa using hbe
  have he : a.eval (.tmp 8) = .pointer (some ⟨B, 0, none⟩) := by
    have := (i.ev cfg.P 0 (.tmp 8)).1
    simpa only [sgS, resTmpsR, List.filterMap, evC_skip, evC_label, evC_exit, evC_ret, evC_region, evC_draw, evC_seq, evC_cond, evC_loop, evC_bseq, evC_bcond, evC_bregion, evC_bblock, evC_bskip, blockEx, feedL, feedOf, runL, stepW, wantedV, Ev.step, opv, ev, getT, isLit, binV, intOp, shiftOp, strOp, unV, litKind, eqV, put, params, constV, keep, List.map, List.contains_nil, Bool.or_self, Nat.reduceEqDiff, reduceIte, if_true, if_false, decide_true, decide_false, reduceCtorEq, Nat.reduceBEq, give, gives, V.hasSl, C.isSl, V.strip, C.strip, feeds, List.append_nil, List.nil_append, List.contains_cons, Bool.false_eq_true, List.getElem?_toArray, List.length_cons, constC, lenV, List.getElem?_cons_zero, List.getElem?_cons_succ, Bool.or_false, Bool.false_or, Bool.or_true, beq_self_eq_true, Bool.not_true, Bool.not_false, Bool.and_false, Bool.and_true, Bool.true_and, Bool.false_and, and_true, true_and, and_self, or_false, false_or, true_or, or_true, Nat.reduceLT, Nat.lt_irrefl, Nat.zero_lt_one, readV, D.toC, List.drop_zero, fillE, fillC, V.cells, toDs, C.toD, appendV, tailD, appOK, List.replicate, List.length_nil, Nat.zero_add, cfg_arr, cfg_esc, Option.bind_some, Option.bind_none, List.drop_succ_cons, List.take_succ_cons, List.take_zero, Bool.true_or, Bool.false_or, Bool.not_true, bb_tt, bb_ft, bb_tf, bb_ff, cond_true, cond_false, IntKind.bits, Int.reducePow, Nat.reducePow, List.set_cons_zero, List.set_cons_succ, List.getElem?_nil, List.map_cons, List.map_nil, kstrip_own, kstrip_ro, kstrip_nil, kstrip_exact, kstrip_strip, foldC, minC, maxC, Nat.lt_add_one, Nat.zero_lt_succ, Nat.reduceAdd, Nat.reduceMul, Nat.reduceLeDiff, Nat.reduceSub, Nat.one_mul, Nat.mul_one, finishR, resVs, resV, freezeVs, freezeV, freezeC, freezeCs, List.take_length, convV, target, consOf, doCall, argsG, List.all_cons, List.all_nil, V.le, C.le, C.leL, Ev.newObj, Ev.look, Ev.setF, Ev.setRange, List.getElem?_append, sliceV, boundV, asNat, pickV, List.cons_append, V.le1, Int.reduceNeg, Int.reduceLT, Int.reduceLE, Int.reduceToNat, Int.reduceEq, Int.reduceAdd, Nat.reduceGT, Int.toNat_natCast, Option.map_some, Option.map_none, Int.le_refl, Nat.le_refl, Nat.add_one_sub_one, Nat.add_sub_cancel, Nat.sub_self, cons_4, sealed_4, cons_5, sealed_5, cons_15, sealed_15, cons_7, sealed_7, cons_10, sealed_10, cons_16, sealed_16, cons_12, sealed_12, cons_9, sealed_9, cons_31, sealed_31, cons_27, sealed_27, cons_20, sealed_20, cons_46, sealed_46, cons_42, sealed_42, cons_52, sealed_52, sz_3, sz_4, sz_5, sz_9, sz_43, sz_49, sz_37, sz_39, sz_41, sz_42, sz_58, sz_78, sz_90, sz_95, sz_119, sz_132, sz_148, sz_149, agg_3, agg_4, agg_5, agg_9, agg_43, agg_49, agg_37, agg_39, agg_41, agg_42, agg_58, agg_78, agg_90, agg_95, agg_119, esz_22, esz_43, esz_26, esz_49, esz_36, esz_37, esz_38, esz_39, esz_42, esz_58, elemT_22, elemT_43, elemT_26, elemT_49, elemT_36, elemT_38, elemT_39, elemT_42, elemT_58, lay_41, lay_70, lay_61, lay_78, lay_92, layB_41, layB_70, layB_61, layB_78, layB_140, layB_132, layB_147, layB_148, layB_149, zero_3, zero_5, zero_9, zero_37, zero_39, zero_41, zero_42, zero_70, zero_61, zero_78, zero_118, zero_140, zero_132, zero_134, zero_147, zero_148, zero_149, eqk_4, eqf_41, eqk_90, eqk_95, conv_2_119, conv_3_5, conv_3_86, conv_3_119, conv_5_3, conv_5_21, conv_5_119, conv_9_43, conv_21_3, conv_21_5, conv_21_9, conv_43_9, conv_86_133, conv_90_112, conv_112_90, conv_119_2, conv_119_5, conv_119_133, conv_133_5, und_9, und_22, und_43, und_26, und_49, und_36, und_37, und_38, und_39, und_42, und_58, und_118, und_132, und_134, und_148, und_149, ifc_9, ifc_124, ifc_127, ifc_145, elemI_22, elemI_43, elemI_26, elemI_49, elemI_36, elemI_38, elemI_39, elemI_58, by_3, by_5, by_9, by_37, by_39, by_41, by_42, RV] using this
  refine wp_seq (wp_region_list ?_)
  refine wpList_plain rfl fun K hK => ?_
  refine nextMore_wp rfl he it.here hsz' (by rw [hget]; exact h128') (hK _ _ ?_)
  rw [hget]
  have i2 := (((i.clr (some 9)).landed (dst := some 9) (.tup [.c (.bool true), .c (.int .i64 pos), .c (.int .i32 b.toNat)]) (.tuple #[.bool true, .int .i64 pos, .int .i32 b.toNat]) (fun d hd => by cases hd; decide) (fun d hd => ⟨_, rfl, rfl, rfl, rfl, trivial⟩) rfl).moved (pos' := pos + 1) it)
  have x2 := Ext.moved (pos' := pos + 1) x hw.gh it
  have it2 := it.moved (pos' := pos + 1)
  refine wpList_plain rfl fun K2 hK2 => ?_
  refine step_ok (c := cfg) (f := 28) (r := 4) (fd := []) (strict := false) (ex := .normal) callS_ok.1 (by omega) (fun d hd => by cases hd; decide) i2 (by simp only [sgS, Ev.put, Ev.step, opv, getT, put, Nat.reduceEqDiff, if_true, if_false, List.getElem?_cons_zero]; rfl) ?_
  intro γ3 β3 a3 w3 i3 x3 sh3 d3
  refine hK2 _ _ (wpList_nil ?_)
  refine wp_seq (wp_cond_true ?_ (wp_skip ?_))
  · have := (i3.ev cfg.P 0 (.tmp 10)).1
    simpa only [resTmpsR, List.filterMap, evC_skip, evC_label, evC_exit, evC_ret, evC_region, evC_draw, evC_seq, evC_cond, evC_loop, evC_bseq, evC_bcond, evC_bregion, evC_bblock, evC_bskip, blockEx, feedL, feedOf, runL, stepW, wantedV, Ev.step, opv, ev, getT, isLit, binV, intOp, shiftOp, strOp, unV, litKind, eqV, put, params, constV, keep, List.map, List.contains_nil, Bool.or_self, Nat.reduceEqDiff, reduceIte, if_true, if_false, decide_true, decide_false, reduceCtorEq, Nat.reduceBEq, give, gives, V.hasSl, C.isSl, V.strip, C.strip, feeds, List.append_nil, List.nil_append, List.contains_cons, Bool.false_eq_true, List.getElem?_toArray, List.length_cons, constC, lenV, List.getElem?_cons_zero, List.getElem?_cons_succ, Bool.or_false, Bool.false_or, Bool.or_true, beq_self_eq_true, Bool.not_true, Bool.not_false, Bool.and_false, Bool.and_true, Bool.true_and, Bool.false_and, and_true, true_and, and_self, or_false, false_or, true_or, or_true, Nat.reduceLT, Nat.lt_irrefl, Nat.zero_lt_one, readV, D.toC, List.drop_zero, fillE, fillC, V.cells, toDs, C.toD, appendV, tailD, appOK, List.replicate, List.length_nil, Nat.zero_add, cfg_arr, cfg_esc, Option.bind_some, Option.bind_none, List.drop_succ_cons, List.take_succ_cons, List.take_zero, Bool.true_or, Bool.false_or, Bool.not_true, bb_tt, bb_ft, bb_tf, bb_ff, cond_true, cond_false, IntKind.bits, Int.reducePow, Nat.reducePow, List.set_cons_zero, List.set_cons_succ, List.getElem?_nil, List.map_cons, List.map_nil, kstrip_own, kstrip_ro, kstrip_nil, kstrip_exact, kstrip_strip, foldC, minC, maxC, Nat.lt_add_one, Nat.zero_lt_succ, Nat.reduceAdd, Nat.reduceMul, Nat.reduceLeDiff, Nat.reduceSub, Nat.one_mul, Nat.mul_one, finishR, resVs, resV, freezeVs, freezeV, freezeC, freezeCs, List.take_length, convV, target, consOf, doCall, argsG, List.all_cons, List.all_nil, V.le, C.le, C.leL, Ev.newObj, Ev.look, Ev.setF, Ev.setRange, List.getElem?_append, sliceV, boundV, asNat, pickV, List.cons_append, V.le1, Int.reduceNeg, Int.reduceLT, Int.reduceLE, Int.reduceToNat, Int.reduceEq, Int.reduceAdd, Nat.reduceGT, Int.toNat_natCast, Option.map_some, Option.map_none, Int.le_refl, Nat.le_refl, Nat.add_one_sub_one, Nat.add_sub_cancel, Nat.sub_self, cons_4, sealed_4, cons_5, sealed_5, cons_15, sealed_15, cons_7, sealed_7, cons_10, sealed_10, cons_16, sealed_16, cons_12, sealed_12, cons_9, sealed_9, cons_31, sealed_31, cons_27, sealed_27, cons_20, sealed_20, cons_46, sealed_46, cons_42, sealed_42, cons_52, sealed_52, sz_3, sz_4, sz_5, sz_9, sz_43, sz_49, sz_37, sz_39, sz_41, sz_42, sz_58, sz_78, sz_90, sz_95, sz_119, sz_132, sz_148, sz_149, agg_3, agg_4, agg_5, agg_9, agg_43, agg_49, agg_37, agg_39, agg_41, agg_42, agg_58, agg_78, agg_90, agg_95, agg_119, esz_22, esz_43, esz_26, esz_49, esz_36, esz_37, esz_38, esz_39, esz_42, esz_58, elemT_22, elemT_43, elemT_26, elemT_49, elemT_36, elemT_38, elemT_39, elemT_42, elemT_58, lay_41, lay_70, lay_61, lay_78, lay_92, layB_41, layB_70, layB_61, layB_78, layB_140, layB_132, layB_147, layB_148, layB_149, zero_3, zero_5, zero_9, zero_37, zero_39, zero_41, zero_42, zero_70, zero_61, zero_78, zero_118, zero_140, zero_132, zero_134, zero_147, zero_148, zero_149, eqk_4, eqf_41, eqk_90, eqk_95, conv_2_119, conv_3_5, conv_3_86, conv_3_119, conv_5_3, conv_5_21, conv_5_119, conv_9_43, conv_21_3, conv_21_5, conv_21_9, conv_43_9, conv_86_133, conv_90_112, conv_112_90, conv_119_2, conv_119_5, conv_119_133, conv_133_5, und_9, und_22, und_43, und_26, und_49, und_36, und_37, und_38, und_39, und_42, und_58, und_118, und_132, und_134, und_148, und_149, ifc_9, ifc_124, ifc_127, ifc_145, elemI_22, elemI_43, elemI_26, elemI_49, elemI_36, elemI_38, elemI_39, elemI_58, by_3, by_5, by_9, by_37, by_39, by_41, by_42, RV, RC] using this
  have X3 : Ext (dep + 1) ([] :: fs) γ β w γ3 β3 w3 := x2.trans x3 (Shape.refl _ _)
  have it3 := it2.after x3
  have dn3 : a3.defers = [] := by rw [d3, put_defers, dn]
  refine wp_block (wp_seq (fr (by kernel_rfl) (by simp only [evC_region, runL, stepW, wantedV, Ev.step, opv, ev, getT, put, Nat.reduceEqDiff, if_true, if_false, give, V.hasSl, C.isSl, V.strip, C.strip, Bool.false_eq_true, List.getElem?_cons_zero, List.getElem?_cons_succ]; rfl) i3 fun γ4 β4 a4 w4 i4 x4 sh4 d4 => ?_))
  have j4 := i4.keep [3, 4, 6, 8]
  obtain ⟨s5, r1, r2, r3⟩ := sg_r7 callS (fun b h fs => callS_49 b h fs) fs (.c (.sl (if o.length = 0 then .nil else .own) 1 (encS o))) (.c (.str last)) (.raw (.pointer (some ⟨B, 0, none⟩))) b h128
  refine wp_block (wp_seq (fr (code := sgR7) (by kernel_rfl) r1 j4 fun γ5 β5 a5 w5 i5 x5 sh5 d5 => ?_))
  have j5 := i5.keep [3, 4, 6, 8, 16]
  rw [r2] at j5
  have X5 : Ext (dep + 1) ([] :: fs) γ3 β3 w3 γ5 β5 w5 := x4.trans x5 (Shape.refl _ _)
  have go : ∀ {γ'' β'' a'' w''} {s1 : S}, keep [3, 4, 8] s1 = sgS fs (.pointer (some ⟨B, 0, none⟩)) (sgStep o last b).1 (sgStep o last b).2 → Inv 43 (dep + 1) γ'' β'' s1 a'' w'' → Ext (dep + 1) ([] :: fs) γ5 β5 w5 γ'' β'' w'' → a''.defers = a5.defers → next a'' w'' := fun h1 h4 h5 h6 => by
    refine hnext _ _ ⟨_, _, B, ?_, (X3.trans X5 (Shape.refl _ _)).trans h5 (Shape.refl _ _), (it3.after X5).after h5, by rw [h6, d5, d4, dn3]⟩
    have := h4.keep [3, 4, 8]
    rw [h1] at this
    exact this
  have hev := (j5.ev cfg.P 0 (.tmp 16)).1
  simp only [sg16, ev, getT, Nat.reduceEqDiff, if_true, if_false, RV, RC] at hev
  by_cases c : b = 32 ∨ b = 40 ∨ b = 41 ∨ b = 44
  · rw [decide_eq_true c] at hev j5
    obtain ⟨s6, r4, r5, r6⟩ := sg_a callS fs (.pointer (some ⟨B, 0, none⟩)) b o last h128 (by omega) c
    exact wp_cond_true hev (frag_any (c := cfg) (call := callS) (it := itE) (f := 28) (res := [2]) (N := 43) callS_ok.1 callS_ok.2 itS_ok (by omega) mixed (code := sgA) (by kernel_rfl) r4 j5 fun γ'' β'' a'' w'' h1 h2 h3 h4 => go r5 h1 h2 h4)
  · rw [decide_eq_false c] at hev j5
    exact wp_cond_false hev (sg_b fs (.pointer (some ⟨B, 0, none⟩)) b o last h128 (by omega) c hd j5 fun γ'' β'' a'' w'' h1 h2 h4 => go rfl h1 h2 h4)

theorem signs_end (s : List UInt8) (hlen : s.length ≤ 1000000000) {fs : Frames} {dep q : Nat} {γ : Gh} {β : Bl} {w : World} (hd : 1 ≤ dep) (hw : WInv dep γ β fs w)
    (o : List (List UInt8)) (last : List UInt8) (a : Act) (w' : World) (next : Act → World → Prop) (ho : o.length ≤ 2 * s.length) (hsig : signsF [] s = o ++ signsF last []) (head : Head fs dep γ β w s s.length o last a w') :
    sgBody.wp Tryz.prog (Exit.then next (Exit.inBlock 0 (Exit.then (sgTail.wp Tryz.prog (bodyPost Tryz.prog Tryz.f28 (Ev.Ends dep fs γ β w (some (.c (.sl .ro 1 (encS (signsF [] s))))) fs (.tmp dep q)))) (bodyPost Tryz.prog Tryz.f28 (Ev.Ends dep fs γ β w (some (.c (.sl .ro 1 (encS (signsF [] s))))) fs (.tmp dep q)))))) a w' := by
  obtain ⟨γ', β', B, i, x, it, dn⟩ := head
  have mixed : cfg.P.follows .mixedOrders = true := by kernel_rfl
  have fr := fun {code : Code} {next : Act → World → Prop} {Q : Exit → Act → World → Prop} {st s1 : S} {γ : Gh} {β : Bl} {a : Act} {w : World} => frag_ok (c := cfg) (call := callS) (it := itE) (f := 28) (res := [2]) (N := 43) (dep := dep + 1) (code := code) (next := next) (Q := Q) (s := st) (s1 := s1) (γ := γ) (β := β) (a := a) (w := w) callS_ok.1 callS_ok.2 itS_ok (by omega) mixed
  have he : a.eval (.tmp 8) = .pointer (some ⟨B, 0, none⟩) := by
    have := (i.ev cfg.P 0 (.tmp 8)).1
    simpa only [sgS, resTmpsR, List.filterMap, evC_skip, evC_label, evC_exit, evC_ret, evC_region, evC_draw, evC_seq, evC_cond, evC_loop, evC_bseq, evC_bcond, evC_bregion, evC_bblock, evC_bskip, blockEx, feedL, feedOf, runL, stepW, wantedV, Ev.step, opv, ev, getT, isLit, binV, intOp, shiftOp, strOp, unV, litKind, eqV, put, params, constV, keep, List.map, List.contains_nil, Bool.or_self, Nat.reduceEqDiff, reduceIte, if_true, if_false, decide_true, decide_false, reduceCtorEq, Nat.reduceBEq, give, gives, V.hasSl, C.isSl, V.strip, C.strip, feeds, List.append_nil, List.nil_append, List.contains_cons, Bool.false_eq_true, List.getElem?_toArray, List.length_cons, constC, lenV, List.getElem?_cons_zero, List.getElem?_cons_succ, Bool.or_false, Bool.false_or, Bool.or_true, beq_self_eq_true, Bool.not_true, Bool.not_false, Bool.and_false, Bool.and_true, Bool.true_and, Bool.false_and, and_true, true_and, and_self, or_false, false_or, true_or, or_true, Nat.reduceLT, Nat.lt_irrefl, Nat.zero_lt_one, readV, D.toC, List.drop_zero, fillE, fillC, V.cells, toDs, C.toD, appendV, tailD, appOK, List.replicate, List.length_nil, Nat.zero_add, cfg_arr, cfg_esc, Option.bind_some, Option.bind_none, List.drop_succ_cons, List.take_succ_cons, List.take_zero, Bool.true_or, Bool.false_or, Bool.not_true, bb_tt, bb_ft, bb_tf, bb_ff, cond_true, cond_false, IntKind.bits, Int.reducePow, Nat.reducePow, List.set_cons_zero, List.set_cons_succ, List.getElem?_nil, List.map_cons, List.map_nil, kstrip_own, kstrip_ro, kstrip_nil, kstrip_exact, kstrip_strip, foldC, minC, maxC, Nat.lt_add_one, Nat.zero_lt_succ, Nat.reduceAdd, Nat.reduceMul, Nat.reduceLeDiff, Nat.reduceSub, Nat.one_mul, Nat.mul_one, finishR, resVs, resV, freezeVs, freezeV, freezeC, freezeCs, List.take_length, convV, target, consOf, doCall, argsG, List.all_cons, List.all_nil, V.le, C.le, C.leL, Ev.newObj, Ev.look, Ev.setF, Ev.setRange, List.getElem?_append, sliceV, boundV, asNat, pickV, List.cons_append, V.le1, Int.reduceNeg, Int.reduceLT, Int.reduceLE, Int.reduceToNat, Int.reduceEq, Int.reduceAdd, Nat.reduceGT, Int.toNat_natCast, Option.map_some, Option.map_none, Int.le_refl, Nat.le_refl, Nat.add_one_sub_one, Nat.add_sub_cancel, Nat.sub_self, cons_4, sealed_4, cons_5, sealed_5, cons_15, sealed_15, cons_7, sealed_7, cons_10, sealed_10, cons_16, sealed_16, cons_12, sealed_12, cons_9, sealed_9, cons_31, sealed_31, cons_27, sealed_27, cons_20, sealed_20, cons_46, sealed_46, cons_42, sealed_42, cons_52, sealed_52, sz_3, sz_4, sz_5, sz_9, sz_43, sz_49, sz_37, sz_39, sz_41, sz_42, sz_58, sz_78, sz_90, sz_95, sz_119, sz_132, sz_148, sz_149, agg_3, agg_4, agg_5, agg_9, agg_43, agg_49, agg_37, agg_39, agg_41, agg_42, agg_58, agg_78, agg_90, agg_95, agg_119, esz_22, esz_43, esz_26, esz_49, esz_36, esz_37, esz_38, esz_39, esz_42, esz_58, elemT_22, elemT_43, elemT_26, elemT_49, elemT_36, elemT_38, elemT_39, elemT_42, elemT_58, lay_41, lay_70, lay_61, lay_78, lay_92, layB_41, layB_70, layB_61, layB_78, layB_140, layB_132, layB_147, layB_148, layB_149, zero_3, zero_5, zero_9, zero_37, zero_39, zero_41, zero_42, zero_70, zero_61, zero_78, zero_118, zero_140, zero_132, zero_134, zero_147, zero_148, zero_149, eqk_4, eqf_41, eqk_90, eqk_95, conv_2_119, conv_3_5, conv_3_86, conv_3_119, conv_5_3, conv_5_21, conv_5_119, conv_9_43, conv_21_3, conv_21_5, conv_21_9, conv_43_9, conv_86_133, conv_90_112, conv_112_90, conv_119_2, conv_119_5, conv_119_133, conv_133_5, und_9, und_22, und_43, und_26, und_49, und_36, und_37, und_38, und_39, und_42, und_58, und_118, und_132, und_134, und_148, und_149, ifc_9, ifc_124, ifc_127, ifc_145, elemI_22, elemI_43, elemI_26, elemI_49, elemI_36, elemI_38, elemI_39, elemI_58, by_3, by_5, by_9, by_37, by_39, by_41, by_42, RV] using this
  refine wp_seq (wp_region_list ?_)
  refine wpList_plain rfl fun K hK => ?_
  refine nextEnd_wp rfl he it.here (by rw [str_size]; omega) (hK _ _ ?_)
  have i2 := ((i.clr (some 9)).landed (dst := some 9) (.tup [.c (.bool false)]) (.tuple #[.bool false]) (fun d hd => by cases hd; decide) (fun d hd => ⟨_, rfl, rfl, trivial⟩) rfl)
  refine wpList_plain rfl fun K2 hK2 => ?_
  refine step_ok (c := cfg) (f := 28) (r := 4) (fd := []) (strict := false) (ex := .normal) callS_ok.1 (by omega) (fun d hd => by cases hd; decide) i2 (by simp only [sgS, Ev.put, Ev.step, opv, getT, put, Nat.reduceEqDiff, if_true, if_false, List.getElem?_cons_zero]; rfl) ?_
  intro γ3 β3 a3 w3 i3 x3 sh3 d3
  refine hK2 _ _ (wpList_nil ?_)
  refine wp_seq (wp_cond_false ?_ (wp_exit ?_))
  · have := (i3.ev cfg.P 0 (.tmp 10)).1
    simpa only [resTmpsR, List.filterMap, evC_skip, evC_label, evC_exit, evC_ret, evC_region, evC_draw, evC_seq, evC_cond, evC_loop, evC_bseq, evC_bcond, evC_bregion, evC_bblock, evC_bskip, blockEx, feedL, feedOf, runL, stepW, wantedV, Ev.step, opv, ev, getT, isLit, binV, intOp, shiftOp, strOp, unV, litKind, eqV, put, params, constV, keep, List.map, List.contains_nil, Bool.or_self, Nat.reduceEqDiff, reduceIte, if_true, if_false, decide_true, decide_false, reduceCtorEq, Nat.reduceBEq, give, gives, V.hasSl, C.isSl, V.strip, C.strip, feeds, List.append_nil, List.nil_append, List.contains_cons, Bool.false_eq_true, List.getElem?_toArray, List.length_cons, constC, lenV, List.getElem?_cons_zero, List.getElem?_cons_succ, Bool.or_false, Bool.false_or, Bool.or_true, beq_self_eq_true, Bool.not_true, Bool.not_false, Bool.and_false, Bool.and_true, Bool.true_and, Bool.false_and, and_true, true_and, and_self, or_false, false_or, true_or, or_true, Nat.reduceLT, Nat.lt_irrefl, Nat.zero_lt_one, readV, D.toC, List.drop_zero, fillE, fillC, V.cells, toDs, C.toD, appendV, tailD, appOK, List.replicate, List.length_nil, Nat.zero_add, cfg_arr, cfg_esc, Option.bind_some, Option.bind_none, List.drop_succ_cons, List.take_succ_cons, List.take_zero, Bool.true_or, Bool.false_or, Bool.not_true, bb_tt, bb_ft, bb_tf, bb_ff, cond_true, cond_false, IntKind.bits, Int.reducePow, Nat.reducePow, List.set_cons_zero, List.set_cons_succ, List.getElem?_nil, List.map_cons, List.map_nil, kstrip_own, kstrip_ro, kstrip_nil, kstrip_exact, kstrip_strip, foldC, minC, maxC, Nat.lt_add_one, Nat.zero_lt_succ, Nat.reduceAdd, Nat.reduceMul, Nat.reduceLeDiff, Nat.reduceSub, Nat.one_mul, Nat.mul_one, finishR, resVs, resV, freezeVs, freezeV, freezeC, freezeCs, List.take_length, convV, target, consOf, doCall, argsG, List.all_cons, List.all_nil, V.le, C.le, C.leL, Ev.newObj, Ev.look, Ev.setF, Ev.setRange, List.getElem?_append, sliceV, boundV, asNat, pickV, List.cons_append, V.le1, Int.reduceNeg, Int.reduceLT, Int.reduceLE, Int.reduceToNat, Int.reduceEq, Int.reduceAdd, Nat.reduceGT, Int.toNat_natCast, Option.map_some, Option.map_none, Int.le_refl, Nat.le_refl, Nat.add_one_sub_one, Nat.add_sub_cancel, Nat.sub_self, cons_4, sealed_4, cons_5, sealed_5, cons_15, sealed_15, cons_7, sealed_7, cons_10, sealed_10, cons_16, sealed_16, cons_12, sealed_12, cons_9, sealed_9, cons_31, sealed_31, cons_27, sealed_27, cons_20, sealed_20, cons_46, sealed_46, cons_42, sealed_42, cons_52, sealed_52, sz_3, sz_4, sz_5, sz_9, sz_43, sz_49, sz_37, sz_39, sz_41, sz_42, sz_58, sz_78, sz_90, sz_95, sz_119, sz_132, sz_148, sz_149, agg_3, agg_4, agg_5, agg_9, agg_43, agg_49, agg_37, agg_39, agg_41, agg_42, agg_58, agg_78, agg_90, agg_95, agg_119, esz_22, esz_43, esz_26, esz_49, esz_36, esz_37, esz_38, esz_39, esz_42, esz_58, elemT_22, elemT_43, elemT_26, elemT_49, elemT_36, elemT_38, elemT_39, elemT_42, elemT_58, lay_41, lay_70, lay_61, lay_78, lay_92, layB_41, layB_70, layB_61, layB_78, layB_140, layB_132, layB_147, layB_148, layB_149, zero_3, zero_5, zero_9, zero_37, zero_39, zero_41, zero_42, zero_70, zero_61, zero_78, zero_118, zero_140, zero_132, zero_134, zero_147, zero_148, zero_149, eqk_4, eqf_41, eqk_90, eqk_95, conv_2_119, conv_3_5, conv_3_86, conv_3_119, conv_5_3, conv_5_21, conv_5_119, conv_9_43, conv_21_3, conv_21_5, conv_21_9, conv_43_9, conv_86_133, conv_90_112, conv_112_90, conv_119_2, conv_119_5, conv_119_133, conv_133_5, und_9, und_22, und_43, und_26, und_49, und_36, und_37, und_38, und_39, und_42, und_58, und_118, und_132, und_134, und_148, und_149, ifc_9, ifc_124, ifc_127, ifc_145, elemI_22, elemI_43, elemI_26, elemI_49, elemI_36, elemI_38, elemI_39, elemI_58, by_3, by_5, by_9, by_37, by_39, by_41, by_42, RV, RC] using this
  have X3 : Ext (dep + 1) ([] :: fs) γ β w γ3 β3 w3 := x.trans x3 (Shape.refl _ _)
  have dn3 : a3.defers = [] := by rw [d3, put_defers, dn]
  have hel : (encS o).length = o.length := by simp [encS]
  have q1 : (encS o).length + 1 < 8278675785607 := by omega
  have henc : ∀ (o : List (List UInt8)) x, encS o ++ [[D.str x]] = encS (o ++ [x]) := fun o x => by simp [encS]
  show Exit.then _ _ (.exit 0) a3 w3
  simp only [Exit.then, Exit.inBlock, if_true]
  have fin : ∀ {γ'' β'' a'' w''} {s1 : S} {k : Ev.K}, getT s1.m 2 = .c (.sl k 1 (encS (signsF [] s))) → s1.fs = [] :: fs → Inv 43 (dep + 1) γ'' β'' s1 a'' w'' → Ext (dep + 1) ([] :: fs) γ3 β3 w3 γ'' β'' w'' → a''.defers = a3.defers →
      bodyPost Tryz.prog Tryz.f28 (Ev.Ends dep fs γ β w (some (.c (.sl .ro 1 (encS (signsF [] s))))) fs (.tmp dep q)) .ret a'' w'' := fun {γ'' β'' a'' w'' s1 k} g1 g2 g3 g4 g5 => by
    have h1 := g3.tm 2
    rw [g1] at h1
    have g6 := g3.tmp 2 (.c (.sl .ro 1 (encS (signsF [] s)))) (by
      simp only [RV, RC] at h1 ⊢
      obtain ⟨ad, len, cap, e1, e2, _⟩ := h1
      exact ⟨ad, len, cap, e1, e2, trivial⟩) rfl
    obtain ⟨m1, fs1⟩ := s1
    simp only at g2
    subst g2
    refine finish_ok (c := cfg) (ex := .ret) (e := .ret) (r := some (.c (.sl .ro 1 (encS (signsF [] s))))) (fs' := fs) g6 trivial ?_ rfl hw.len (X3.trans g4 (Shape.refl _ _)) (Shape.refl _ _) (by rw [g5, dn3]) q
    rw [finishR_eq]
    show finishR cfg [.tmp 2] _ = _
    simp only [getT, if_true, finishR, resVs, resV, freezeVs, freezeV, freezeC]
  by_cases c2 : last = []
  · subst c2
    have t2 : (([] : List UInt8) == []) = true := rfl
    have hsig' : signsF [] s = o := by rw [hsig]; simp [signsF]
    refine wp_seq (fr (by kernel_rfl) (by simp only [evC_skip, evC_region, evC_seq, evC_cond, feedL, feedOf, runL, stepW, wantedV, Ev.step, opv, ev, getT, binV, strOp, put, constV, List.contains_nil, Nat.reduceEqDiff, if_true, if_false, give, V.hasSl, C.isSl, V.strip, C.strip, feeds, List.append_nil, Bool.false_eq_true, constC, beq_self_eq_true, Bool.not_true, Bool.not_true]; rfl) i3 fun γ4 β4 a4 w4 i4 x4 sh4 d4 => ?_)
    refine wp_seq (fr (by kernel_rfl) (by simp only [evC_region, feedL, feedOf, runL, stepW, wantedV, Ev.step, opv, ev, getT, put, List.contains_nil, Nat.reduceEqDiff, if_true, if_false, give, V.hasSl, C.isSl, V.strip, C.strip, feeds, List.append_nil, List.nil_append, List.contains_cons, Bool.or_false, beq_self_eq_true]; rfl) i4 fun γ5 β5 a5 w5 i5 x5 sh5 d5 => ?_)
    refine wp_ret (fin (k := if o.length = 0 then Ev.K.nil else Ev.K.own) ?_ rfl i5 (x4.trans x5 (Shape.refl _ _)) (by rw [d5, d4]))
    simp only [getT, Nat.reduceEqDiff, if_true, if_false, hsig']
  · have t2 : (last == []) = false := by rw [beq_eq_false_iff_ne]; exact c2
    have hsig' : signsF [] s = o ++ [last] := by rw [hsig]; simp [signsF, c2]
    by_cases hz : o.length = 0
    · have hk : (if o.length = 0 then Ev.K.nil else Ev.K.own) = Ev.K.nil := if_pos hz
      rw [hk] at i3
      refine wp_seq (fr (by kernel_rfl) (by simp only [evC_region, evC_seq, evC_cond, feedL, feedOf, runL, stepW, wantedV, Ev.step, opv, ev, getT, binV, strOp, put, constV, List.map, List.contains_nil, Bool.or_self, Nat.reduceEqDiff, if_true, if_false, reduceCtorEq, Nat.reduceBEq, give, V.hasSl, C.isSl, V.strip, C.strip, feeds, List.append_nil, List.nil_append, List.contains_cons, Bool.false_eq_true, List.length_cons, constC, Bool.or_false, beq_self_eq_true, Bool.not_false, and_self, or_false, fillE, V.cells, toDs, C.toD, appendV, tailD, appOK, List.replicate, List.length_nil, Nat.zero_add, cfg_arr, List.set_cons_zero, kstrip_own, kstrip_nil, Nat.lt_add_one, Nat.reduceLeDiff, Nat.mul_one, Ev.newObj, esz_58, elemT_58, zero_9, und_58, elemI_58, t2, q1]; rfl) i3 fun γ4 β4 a4 w4 i4 x4 sh4 d4 => ?_)
      refine wp_seq (fr (by kernel_rfl) (by simp only [evC_region, feedL, feedOf, runL, stepW, wantedV, Ev.step, opv, ev, getT, put, List.contains_nil, Nat.reduceEqDiff, if_true, if_false, give, V.hasSl, C.isSl, V.strip, C.strip, feeds, List.append_nil, List.nil_append, List.contains_cons, Bool.or_false, beq_self_eq_true, kstrip_own]; rfl) i4 fun γ5 β5 a5 w5 i5 x5 sh5 d5 => ?_)
      refine wp_ret (fin (k := Ev.K.own) ?_ rfl i5 (x4.trans x5 (Shape.refl _ _)) (by rw [d5, d4]))
      simp only [getT, Nat.reduceEqDiff, if_true, if_false, hsig', ← henc]
    · have hk : (if o.length = 0 then Ev.K.nil else Ev.K.own) = Ev.K.own := if_neg hz
      rw [hk] at i3
      refine wp_seq (fr (by kernel_rfl) (by simp only [evC_region, evC_seq, evC_cond, feedL, feedOf, runL, stepW, wantedV, Ev.step, opv, ev, getT, binV, strOp, put, constV, List.map, List.contains_nil, Bool.or_self, Nat.reduceEqDiff, if_true, if_false, reduceCtorEq, Nat.reduceBEq, give, V.hasSl, C.isSl, V.strip, C.strip, feeds, List.append_nil, List.nil_append, List.contains_cons, Bool.false_eq_true, List.length_cons, constC, Bool.or_false, beq_self_eq_true, Bool.not_false, and_self, or_false, fillE, V.cells, toDs, C.toD, appendV, tailD, appOK, List.replicate, List.length_nil, Nat.zero_add, cfg_arr, List.set_cons_zero, kstrip_own, Nat.lt_add_one, Nat.reduceLeDiff, Nat.mul_one, Ev.newObj, esz_58, elemT_58, zero_9, und_58, elemI_58, t2, q1]; rfl) i3 fun γ4 β4 a4 w4 i4 x4 sh4 d4 => ?_)
      refine wp_seq (fr (by kernel_rfl) (by simp only [evC_region, feedL, feedOf, runL, stepW, wantedV, Ev.step, opv, ev, getT, put, List.contains_nil, Nat.reduceEqDiff, if_true, if_false, give, V.hasSl, C.isSl, V.strip, C.strip, feeds, List.append_nil, List.nil_append, List.contains_cons, Bool.or_false, beq_self_eq_true, kstrip_own]; rfl) i4 fun γ5 β5 a5 w5 i5 x5 sh5 d5 => ?_)
      refine wp_ret (fin (k := Ev.K.own) ?_ rfl i5 (x4.trans x5 (Shape.refl _ _)) (by rw [d5, d4]))
      simp only [getT, Nat.reduceEqDiff, if_true, if_false, hsig', ← henc]

theorem signs_calls (s : List UInt8) (hs : s.all (· < 128) = true) (hlen : s.length ≤ 1000000000) {fs : Frames} {dep q : Nat} {γ : Gh} {β : Bl} {w : World} (hd : 1 ≤ dep) (hw : WInv dep γ β fs w) :
    Calls Tryz.prog 28 #[.string ⟨s.toArray⟩] w (Ev.Ends dep fs γ β w (some (.c (.sl .ro 1 (encS (signsF [] s))))) fs (.tmp dep q)) := by
  have mixed : cfg.P.follows .mixedOrders = true := by kernel_rfl
  have hi := Inv.enter (n := 43) (args := [.c (.str s)]) (vals := [.string ⟨s.toArray⟩]) hw ⟨by simp only [RV, RC], trivial⟩ (fun x hx => by simp at hx; subst hx; rfl) (by simp)
  refine calls_of_wp (fn := Tryz.f28) (by kernel_rfl) rfl ?_
  have fr := fun {code : Code} {next : Act → World → Prop} {Q : Exit → Act → World → Prop} {st s1 : S} {γ : Gh} {β : Bl} {a : Act} {w : World} => frag_ok (c := cfg) (call := callS) (it := itE) (f := 28) (res := [2]) (N := 43) (dep := dep + 1) (code := code) (next := next) (Q := Q) (s := st) (s1 := s1) (γ := γ) (β := β) (a := a) (w := w) callS_ok.1 callS_ok.2 itS_ok (by omega) mixed
  refine wp_seq (fr (by kernel_rfl) (by simp only [evC_region, runL, stepW, wantedV, Ev.step, opv, ev, put, params, constV, give, esz_58]; rfl) hi fun γ1 β1 a1 w1 i1 x1 sh1 d1 => ?_)
  refine wp_seq (fr (by kernel_rfl) (by simp only [evC_region, runL, stepW, wantedV, Ev.step, opv, ev, put, constV, give, esz_58]; rfl) i1 fun γ2 β2 a2 w2 i2 x2 sh2 d2 => ?_)
  refine wp_seq (fr (by kernel_rfl) (by simp only [evC_region, runL, stepW, wantedV, Ev.step, opv, ev, put, constV, give, constC]; rfl) i2 fun γ3 β3 a3 w3 i3 x3 sh3 d3 => ?_)
  refine wp_seq (wp_seq (wp_region_list ?_))
  refine wpList_plain rfl fun K hK => ?_
  refine step_ok (c := cfg) (f := 28) (r := 3) (fd := []) (strict := false) (ex := .normal) callS_ok.1 (by omega) (fun d hd => by cases hd; decide) i3 (by simp only [Ev.step, opv, ev, getT, put, List.contains_nil, if_true, if_false, reduceCtorEq, give, V.hasSl, C.isSl, V.strip, C.strip, feeds, Bool.false_eq_true]; rfl) ?_
  intro γ4 β4 a4 w4 i4 x4 sh4 d4
  refine hK _ _ ?_
  refine wpList_plain rfl fun K2 hK2 => ?_
  have he : a4.eval (.tmp 7) = .string ⟨s.toArray⟩ := by
    have := (i4.ev cfg.P 0 (.tmp 7)).1
    simpa only [resTmpsR, List.filterMap, evC_skip, evC_label, evC_exit, evC_ret, evC_region, evC_draw, evC_seq, evC_cond, evC_loop, evC_bseq, evC_bcond, evC_bregion, evC_bblock, evC_bskip, blockEx, feedL, feedOf, runL, stepW, wantedV, Ev.step, opv, ev, getT, isLit, binV, intOp, shiftOp, strOp, unV, litKind, eqV, put, params, constV, keep, List.map, List.contains_nil, Bool.or_self, Nat.reduceEqDiff, reduceIte, if_true, if_false, decide_true, decide_false, reduceCtorEq, Nat.reduceBEq, give, gives, V.hasSl, C.isSl, V.strip, C.strip, feeds, List.append_nil, List.nil_append, List.contains_cons, Bool.false_eq_true, List.getElem?_toArray, List.length_cons, constC, lenV, List.getElem?_cons_zero, List.getElem?_cons_succ, Bool.or_false, Bool.false_or, Bool.or_true, beq_self_eq_true, Bool.not_true, Bool.not_false, Bool.and_false, Bool.and_true, Bool.true_and, Bool.false_and, and_true, true_and, and_self, or_false, false_or, true_or, or_true, Nat.reduceLT, Nat.lt_irrefl, Nat.zero_lt_one, readV, D.toC, List.drop_zero, fillE, fillC, V.cells, toDs, C.toD, appendV, tailD, appOK, List.replicate, List.length_nil, Nat.zero_add, cfg_arr, cfg_esc, Option.bind_some, Option.bind_none, List.drop_succ_cons, List.take_succ_cons, List.take_zero, Bool.true_or, Bool.false_or, Bool.not_true, bb_tt, bb_ft, bb_tf, bb_ff, cond_true, cond_false, IntKind.bits, Int.reducePow, Nat.reducePow, List.set_cons_zero, List.set_cons_succ, List.getElem?_nil, List.map_cons, List.map_nil, kstrip_own, kstrip_ro, kstrip_nil, kstrip_exact, kstrip_strip, foldC, minC, maxC, Nat.lt_add_one, Nat.zero_lt_succ, Nat.reduceAdd, Nat.reduceMul, Nat.reduceLeDiff, Nat.reduceSub, Nat.one_mul, Nat.mul_one, finishR, resVs, resV, freezeVs, freezeV, freezeC, freezeCs, List.take_length, convV, target, consOf, doCall, argsG, List.all_cons, List.all_nil, V.le, C.le, C.leL, Ev.newObj, Ev.look, Ev.setF, Ev.setRange, List.getElem?_append, sliceV, boundV, asNat, pickV, List.cons_append, V.le1, Int.reduceNeg, Int.reduceLT, Int.reduceLE, Int.reduceToNat, Int.reduceEq, Int.reduceAdd, Nat.reduceGT, Int.toNat_natCast, Option.map_some, Option.map_none, Int.le_refl, Nat.le_refl, Nat.add_one_sub_one, Nat.add_sub_cancel, Nat.sub_self, cons_4, sealed_4, cons_5, sealed_5, cons_15, sealed_15, cons_7, sealed_7, cons_10, sealed_10, cons_16, sealed_16, cons_12, sealed_12, cons_9, sealed_9, cons_31, sealed_31, cons_27, sealed_27, cons_20, sealed_20, cons_46, sealed_46, cons_42, sealed_42, cons_52, sealed_52, sz_3, sz_4, sz_5, sz_9, sz_43, sz_49, sz_37, sz_39, sz_41, sz_42, sz_58, sz_78, sz_90, sz_95, sz_119, sz_132, sz_148, sz_149, agg_3, agg_4, agg_5, agg_9, agg_43, agg_49, agg_37, agg_39, agg_41, agg_42, agg_58, agg_78, agg_90, agg_95, agg_119, esz_22, esz_43, esz_26, esz_49, esz_36, esz_37, esz_38, esz_39, esz_42, esz_58, elemT_22, elemT_43, elemT_26, elemT_49, elemT_36, elemT_38, elemT_39, elemT_42, elemT_58, lay_41, lay_70, lay_61, lay_78, lay_92, layB_41, layB_70, layB_61, layB_78, layB_140, layB_132, layB_147, layB_148, layB_149, zero_3, zero_5, zero_9, zero_37, zero_39, zero_41, zero_42, zero_70, zero_61, zero_78, zero_118, zero_140, zero_132, zero_134, zero_147, zero_148, zero_149, eqk_4, eqf_41, eqk_90, eqk_95, conv_2_119, conv_3_5, conv_3_86, conv_3_119, conv_5_3, conv_5_21, conv_5_119, conv_9_43, conv_21_3, conv_21_5, conv_21_9, conv_43_9, conv_86_133, conv_90_112, conv_112_90, conv_119_2, conv_119_5, conv_119_133, conv_133_5, und_9, und_22, und_43, und_26, und_49, und_36, und_37, und_38, und_39, und_42, und_58, und_118, und_132, und_134, und_148, und_149, ifc_9, ifc_124, ifc_127, ifc_145, elemI_22, elemI_43, elemI_26, elemI_49, elemI_36, elemI_38, elemI_39, elemI_58, by_3, by_5, by_9, by_37, by_39, by_41, by_42, RV, RC] using this
  refine range_wp rfl he (by kernel_rfl) (hK2 _ _ (wpList_nil ?_))
  have hsz : w.heap.size ≤ w4.heap.size := Nat.le_trans (Nat.le_trans (Nat.le_trans x1.size x2.size) x3.size) x4.size
  have X4 : Ext (dep + 1) ([] :: fs) γ β w γ4 β4 w4 := (((x1.trans x2 sh1).trans x3 (sh1.trans sh2)).trans x4 ((sh1.trans sh2).trans sh3))
  have X5 : Ext (dep + 1) ([] :: fs) γ β w γ4 β4 (w4.iter ⟨s.toArray⟩ 0) := X4.trans (Ext.below (fs := [] :: fs) i4.gh (iter_below w4 _ 0)) (((sh1.trans sh2).trans sh3).trans sh4)
  have it5 : Iter γ4 (w4.iter ⟨s.toArray⟩ 0) w w4.heap.size ⟨s.toArray⟩ 0 := ⟨World.iter_heap _ _ _, fun o => i4.gh.fresh (Nat.le_refl _) o, hsz⟩
  have i5 := (((i4.clr (some 8)).landed (dst := some 8) (.raw (.pointer (some ⟨w4.heap.size, 0, none⟩))) (.pointer (some ⟨w4.heap.size, 0, none⟩)) (fun d hd => by cases hd; decide) (fun d hd => by simp only [RV]) rfl).below (iter_below w4 ⟨s.toArray⟩ 0)).keep [3, 4, 8]
  have head0 : Head fs dep γ β w s 0 [] [] (a4.put (some 8) (.pointer (some ⟨w4.heap.size, 0, none⟩))) (w4.iter ⟨s.toArray⟩ 0) :=
    ⟨γ4, β4, w4.heap.size, i5, X5, it5, by rw [put_defers, d4, d3, d2, d1]⟩
  clear i1 x1 sh1 d1 i2 x2 sh2 d2 i3 x3 sh3 d3 i4 x4 sh4 d4 hK hK2 he i5 X5 it5 X4
  refine wp_block (wp_loop_rounds (s.length + 1) ?_)
  exact rounds_signs (signs_more s hs hlen hd hw) (signs_end s hlen hd hw) s 0 [] [] _ _ rfl (by simp) (by simp) (by omega) rfl head0

theorem signs_ok : PrimOK Tryz.prog 28 primSigns := by
  refine ⟨fun args fs v fs' h => ?_, callFunc_enter (fn := Tryz.f28) (by kernel_rfl) rfl (by kernel_rfl), fun args fs r fs' h dep γ β w vals q hd hw ha hl => ?_⟩
  · unfold primSigns at h
    split at h
    · split at h
      · cases h; rfl
      · cases h
    · cases h
  · unfold primSigns at h
    split at h
    · rename_i s
      split at h
      · rename_i hs
        cases h
        match vals, ha with
        | [v], ha =>
          simp only [RArgs, RV, RC, and_true] at ha
          subst ha
          exact signs_calls s hs.1 hs.2 hd hw
        | [], ha => simp only [RArgs] at ha
        | _ :: _ :: _, ha => simp only [RArgs, and_false] at ha
      · cases h
    · cases h

end Go.Proofs.YtbfllngekcckeaaGreatDoor
