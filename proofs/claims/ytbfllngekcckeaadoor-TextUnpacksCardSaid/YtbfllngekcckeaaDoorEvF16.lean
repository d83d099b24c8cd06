/- TextUnpacks, of whatever bytes. -/
import Derived.Test.YtbfllngekcckeaaDoorEvF15
import Derived.Test.YtbfllngekcckeaaDoorEvF13
namespace Go.Proofs.YtbfllngekcckeaaDoor
open Go.Ev
set_option linter.unusedSimpArgs false
set_option linter.unusedVariables false
set_option maxHeartbeats 400000
set_option maxRecDepth 4000

/-! ### The two readers read the same -/

/-- Both are spoiled, or both have read the same. -/
def Alike {α : Type} (x y : α × St) : Prop := x.2.2 = y.2.2 ∧ (x.2.2 = false → x = y)

theorem numB_eats {s : St} (h : (numB s).2.2 = false) : s.2 = false ∧ (numB s).2.1.length + 4 = s.1.length := by
  obtain ⟨r, bad⟩ := s
  unfold numB at h ⊢
  split at h
  · cases h
  · rename_i heq
    cases heq
    simp
  · cases h

theorem numB_bad {s : St} (h : s.2 = true) : (numB s).2.2 = true := by
  obtain ⟨r, bad⟩ := s
  cases h
  rfl

theorem loopB_sticks {α : Type} {one : St → α × St} (h1 : ∀ s, s.2 = true → (one s).2.2 = true) : ∀ (m : Nat) (s : St), s.2 = true → (loopB one m s).2.2 = true
  | m, s, h => by rw [loopB_bad m s h]; exact h

/-- Things that eat: so many at the most. -/
theorem loopB_short {α : Type} {one : St → α × St} (h1 : ∀ s, (one s).2.2 = false → (one s).2.1.length + 4 ≤ s.1.length) : ∀ (m : Nat) (s : St), (loopB one m s).2.2 = false → (loopB one m s).2.1.length + 4 * m ≤ s.1.length
  | 0, s, h => by simp [loopB]
  | m + 1, s, h => by
    simp only [loopB] at h ⊢
    split at h
    · rename_i hs
      rw [h] at hs
      cases hs
    · rename_i hs
      rw [if_neg hs]
      have h2 := loopB_short h1 m (one s).2 h
      simp only
      by_cases h3 : (one s).2.2 = true
      · rw [loopB_bad m _ h3] at h
        simp only at h
        rw [h] at h3
        cases h3
      · have := h1 s (by simpa using h3)
        omega

theorem loopB_alike {α : Type} {one two : St → α × St} (h : ∀ s, Alike (one s) (two s)) : ∀ (m : Nat) (s : St), Alike (loopB one m s) (loopB two m s)
  | 0, s => ⟨rfl, fun _ => rfl⟩
  | m + 1, s => by
    simp only [loopB]
    split
    · exact ⟨rfl, fun _ => rfl⟩
    · obtain ⟨h1, h2⟩ := h s
      by_cases h3 : (one s).2.2 = true
      · have h4 : (two s).2.2 = true := by rw [← h1]; exact h3
        rw [loopB_bad m _ h3, loopB_bad m _ h4]
        exact ⟨h1, fun h => by simp only at h; rw [h] at h3; cases h3⟩
      · have h4 := h2 (by simpa using h3)
        rw [h4]
        obtain ⟨h5, h6⟩ := loopB_alike h m (two s).2
        exact ⟨h5, fun h => by rw [h6 h]⟩

theorem many_alike {α : Type} {one two : St → α × St} (h : ∀ s, Alike (one s) (two s)) (h1 : ∀ s, (two s).2.2 = false → (two s).2.1.length + 4 ≤ s.1.length) (few : Nat) (s : St) : Alike (manyR one few s) (manyB two few s) := by
  unfold manyR manyB afterR afterN
  by_cases c : (numB s).1 < few
  · rw [if_pos c, if_pos (.inl c)]
    rw [loopB_bad _ _ rfl, loopB_bad _ _ rfl]
    exact ⟨rfl, fun h => by cases h⟩
  · rw [if_neg c]
    by_cases c2 : (numB s).1 > ((numB s).2.1.length : Int).tdiv 4
    · rw [if_pos (.inr c2), loopB_bad (one := two) _ _ rfl]
      rw [Int.tdiv_eq_ediv_of_nonneg (by omega)] at c2
      have hb : (loopB one (numB s).1.toNat (numB s).2).2.2 = true := by
        rw [(loopB_alike h (numB s).1.toNat (numB s).2).1]
        cases hx : (loopB two (numB s).1.toNat (numB s).2).2.2
        · have := loopB_short h1 _ _ hx
          omega
        · rfl
      exact ⟨by rw [hb], fun h => by rw [hb] at h; cases h⟩
    · rw [if_neg (fun h => h.elim c c2)]
      exact loopB_alike h _ _

theorem many_eats {α : Type} {one : St → α × St} (h1 : ∀ s, (one s).2.2 = false → (one s).2.1.length + 4 ≤ s.1.length) (few : Int) (s : St) (h : (manyB one few s).2.2 = false) : (manyB one few s).2.1.length + 4 ≤ s.1.length := by
  unfold manyB at h ⊢
  have h2 := loopB_short h1 _ _ h
  have h3 : (afterN few s).2 = false := by
    cases hb : (afterN few s).2
    · rfl
    · rw [loopB_bad _ _ hb] at h
      simp only at h
      rw [hb] at h
      cases h
  have h4 : afterN few s = (numB s).2 := by
    unfold afterN at h3 ⊢
    split at h3
    · cases h3
    · rename_i c
      rw [if_neg c]
  rw [h4] at h3 h2 ⊢
  have := (numB_eats h3).2
  omega

theorem point_eats (s : St) (h : (pointB s).2.2 = false) : (pointB s).2.1.length + 4 ≤ s.1.length := by
  obtain ⟨h1, h2⟩ := numB_eats (s := (numB s).2) h
  have := (numB_eats h1).2
  show (numB (numB s).2).2.1.length + 4 ≤ s.1.length
  omega

theorem ring_alike (s : St) : Alike (ringR s) (ringB s) := many_alike (fun s => ⟨rfl, fun _ => rfl⟩) point_eats 3 s
theorem ring_eats (s : St) (h : (ringB s).2.2 = false) : (ringB s).2.1.length + 4 ≤ s.1.length := many_eats point_eats 3 s h
theorem poly_alike (s : St) : Alike (polyR s) (polyB s) := many_alike ring_alike ring_eats 1 s
theorem poly_eats (s : St) (h : (polyB s).2.2 = false) : (polyB s).2.1.length + 4 ≤ s.1.length := many_eats ring_eats 1 s h
theorem polys_alike (s : St) : Alike (polysR s) (polysB s) := many_alike poly_alike poly_eats 0 s

/-! ### What is read is packed as it was -/

theorem u8of_back (b : UInt8) (n : Int) (h : n % 256 = b.toNat) : u8of n = b := by
  apply UInt8.toNat_inj.1
  rw [u8of_nat, h]
  simp

theorem b4_back (a b c d : UInt8) : b4 (dec4 a b c d) = [a, b, c, d] := by
  have ha := a.toNat_lt
  have hb := b.toNat_lt
  have hc := c.toNat_lt
  have hd := d.toNat_lt
  unfold b4
  rw [u8of_back a _ (by unfold dec4; split <;> omega), u8of_back b _ (by unfold dec4; split <;> omega), u8of_back c _ (by unfold dec4; split <;> omega), u8of_back d _ (by unfold dec4; split <;> omega)]

theorem numB_back {s : St} (h : (numB s).2.2 = false) : s.1 = b4 (numB s).1 ++ (numB s).2.1 := by
  obtain ⟨r, bad⟩ := s
  unfold numB at h ⊢
  split at h
  · cases h
  · rename_i heq
    cases heq
    simp only [b4_back]
    rfl
  · cases h

theorem loopB_back {α : Type} {one : St → α × St} {enc : α → List UInt8} (h1 : ∀ s, (one s).2.2 = false → s.1 = enc (one s).1 ++ (one s).2.1) : ∀ (m : Nat) (s : St), (loopB one m s).2.2 = false → s.1 = (loopB one m s).1.flatMap enc ++ (loopB one m s).2.1 ∧ (loopB one m s).1.length = m
  | 0, s, h => ⟨by simp [loopB], rfl⟩
  | m + 1, s, h => by
    simp only [loopB] at h ⊢
    split at h
    · rename_i hs
      rw [h] at hs
      cases hs
    · rename_i hs
      rw [if_neg hs]
      obtain ⟨h2, h3⟩ := loopB_back h1 m (one s).2 h
      by_cases h4 : (one s).2.2 = true
      · rw [loopB_bad m _ h4] at h
        simp only at h
        rw [h] at h4
        cases h4
      · have h5 := h1 s (by simpa using h4)
        simp only [List.flatMap_cons, List.append_assoc, List.length_cons, h3, and_true]
        rw [← h2]
        exact h5

theorem many_back {α : Type} {one : St → α × St} {enc : α → List UInt8} (h1 : ∀ s, (one s).2.2 = false → s.1 = enc (one s).1 ++ (one s).2.1) (few : Nat) (s : St) (h : (manyB one few s).2.2 = false) :
    s.1 = b4 (manyB one few s).1.length ++ (manyB one few s).1.flatMap enc ++ (manyB one few s).2.1 := by
  unfold manyB at h ⊢
  obtain ⟨h2, h3⟩ := loopB_back h1 _ _ h
  have h4 : (afterN few s).2 = false := by
    cases hb : (afterN few s).2
    · rfl
    · rw [loopB_bad _ _ hb] at h
      simp only at h
      rw [hb] at h
      cases h
  have h5 : afterN few s = (numB s).2 ∧ ¬((numB s).1 < few) := by
    unfold afterN at h4 ⊢
    split at h4
    · cases h4
    · rename_i c
      rw [if_neg c]
      exact ⟨rfl, fun h => c (.inl h)⟩
  rw [h3, List.append_assoc, ← h2, h5.1]
  rw [h5.1] at h4
  have h6 := numB_back h4
  rw [show (((numB s).1.toNat : Nat) : Int) = (numB s).1 by omega]
  exact h6

theorem point_back (s : St) (h : (pointB s).2.2 = false) : s.1 = bP (pointB s).1 ++ (pointB s).2.1 := by
  have h1 := numB_back (s := (numB s).2) h
  have h2 := numB_back (numB_eats (s := (numB s).2) h).1
  show s.1 = (b4 (numB s).1 ++ b4 (numB (numB s).2).1) ++ (numB (numB s).2).2.1
  rw [List.append_assoc, ← h1]
  exact h2

theorem ring_back (s : St) (h : (ringB s).2.2 = false) : s.1 = bR (ringB s).1 ++ (ringB s).2.1 := many_back point_back 3 s h
theorem poly_back (s : St) (h : (polyB s).2.2 = false) : s.1 = bG (polyB s).1 ++ (polyB s).2.1 := many_back ring_back 1 s h
theorem polys_back (s : St) (h : (polysB s).2.2 = false) : s.1 = bL (polysB s).1 ++ (polysB s).2.1 := many_back poly_back 0 s h

end Go.Proofs.YtbfllngekcckeaaDoor
namespace Go.Proofs.YtbfllngekcckeaaDoor
open Go.Ev
set_option linter.unusedSimpArgs false
set_option linter.unusedVariables false
set_option maxHeartbeats 400000
set_option maxRecDepth 4000

theorem manyR_all {α : Type} {one : St → α × St} {P : α → Prop} (h : ∀ s, s.1.length ≤ 1000000 → P (one s).1) (hl : ∀ s, (one s).2.1.length ≤ s.1.length) (few : Int) (s : St) (hs : s.1.length ≤ 1000000) : (manyR one few s).1.length < 2147483648 ∧ (∀ x ∈ (manyR one few s).1, P x) ∧ (manyR one few s).2.1.length ≤ s.1.length := by
  have h0 : (afterR few s).1.length ≤ s.1.length := by
    unfold afterR
    split <;> exact numB_len s
  obtain ⟨h1, h2⟩ := loopB_all (P := P) h hl (numB s).1.toNat (afterR few s) (by omega)
  have := numB_lt s
  refine ⟨?_, h2, Nat.le_trans (loopB_len hl _ _) h0⟩
  show (loopB one (numB s).1.toNat (afterR few s)).1.length < 2147483648
  omega

theorem manyR_len {α : Type} {one : St → α × St} (hl : ∀ s, (one s).2.1.length ≤ s.1.length) (few : Int) (s : St) : (manyR one few s).2.1.length ≤ s.1.length := by
  have h0 : (afterR few s).1.length ≤ s.1.length := by
    unfold afterR
    split <;> exact numB_len s
  exact Nat.le_trans (loopB_len hl _ _) h0

theorem polysR_small (s : St) (hs : s.1.length ≤ 1000000) : Small (polysR s).1 := by
  have l1 : ∀ s, (ringR s).2.1.length ≤ s.1.length := manyR_len pointB_len 3
  have l2 : ∀ s, (polyR s).2.1.length ≤ s.1.length := manyR_len l1 1
  obtain ⟨h1, h2, _⟩ := manyR_all (P := fun g : Pg => g.length < 1152921504606846976 ∧ ∀ r ∈ g, r.length < 1152921504606846976) (one := polyR) (fun s hs => by
    obtain ⟨h3, h4, _⟩ := manyR_all (P := fun r : Rg => r.length < 1152921504606846976) (one := ringR) (fun s hs => by
      obtain ⟨h5, _⟩ := manyR_all (P := fun _ : Int × Int => True) (one := pointB) (fun _ _ => trivial) pointB_len 3 s hs
      exact Nat.lt_trans h5 (by omega)) l1 1 s hs
    exact ⟨Nat.lt_trans h3 (by omega), h4⟩) l2 0 s hs
  exact ⟨Nat.lt_trans h1 (by omega), h2⟩

theorem textUnpacks_ev (bs : List UInt8) : callE cfg 4 [.c (.sl .ro 1 (bytesOf bs))] [[], []] = some (some (.c (.bool true)), [[], []]) := by
  refine callE_code (fn := Tryd.f4) (rs := [.tmp 2]) (by kernel_rfl) (by kernel_rfl) (by kernel_rfl) rfl rfl rfl (by show 1 ≤ 45; decide) ?_
  have ha := alive_ev
  by_cases hlen : bs.length > 1500
  · have h1 : ((bs.length : Int) > 1500) := by omega
    simp only [resTmpsR, List.filterMap, evC_skip, evC_label, evC_exit, evC_ret, evC_region, evC_draw, evC_seq, evC_cond, evC_loop, evC_bseq, evC_bcond, evC_bregion, evC_bblock, evC_bskip, blockEx, feedL, feedOf, runL, stepW, wantedV, Ev.step, opv, ev, getT, isLit, binV, intOp, shiftOp, strOp, unV, litKind, eqV, put, params, constV, keep, List.map, List.contains_nil, Bool.or_self, Nat.reduceEqDiff, reduceIte, if_true, if_false, decide_true, decide_false, reduceCtorEq, Nat.reduceBEq, give, gives, V.hasSl, C.isSl, V.strip, C.strip, feeds, List.append_nil, List.nil_append, List.contains_cons, Bool.false_eq_true, List.getElem?_toArray, List.length_cons, constC, lenV, List.getElem?_cons_zero, List.getElem?_cons_succ, Bool.or_false, Bool.false_or, Bool.or_true, beq_self_eq_true, Bool.not_true, Bool.not_false, Bool.and_false, Bool.and_true, Bool.true_and, Bool.false_and, and_true, true_and, and_self, or_false, false_or, true_or, or_true, Nat.reduceLT, Nat.lt_irrefl, Nat.zero_lt_one, readV, D.toC, List.drop_zero, fillE, fillC, V.cells, toDs, C.toD, appendV, tailD, appOK, List.replicate, List.length_nil, Nat.zero_add, cfg_arr, cfg_esc, Option.bind_some, Option.bind_none, List.drop_succ_cons, List.take_succ_cons, List.take_zero, Bool.true_or, Bool.false_or, Bool.not_true, bb_tt, bb_ft, bb_tf, bb_ff, cond_true, cond_false, IntKind.bits, Int.reducePow, Nat.reducePow, List.set_cons_zero, List.set_cons_succ, List.getElem?_nil, List.map_cons, List.map_nil, kstrip_own, kstrip_ro, kstrip_nil, kstrip_exact, kstrip_strip, foldC, minC, maxC, Nat.lt_add_one, Nat.zero_lt_succ, Nat.reduceAdd, Nat.reduceMul, Nat.reduceLeDiff, Nat.reduceSub, Nat.one_mul, Nat.mul_one, finishR, resVs, resV, freezeVs, freezeV, freezeC, freezeCs, List.take_length, convV, target, consOf, doCall, argsG, List.all_cons, List.all_nil, V.le, C.le, C.leL, Ev.newObj, Ev.look, Ev.setF, Ev.setRange, List.getElem?_append, sliceV, boundV, asNat, pickV, List.cons_append, V.le1, Int.reduceNeg, Int.reduceLT, Int.reduceLE, Int.reduceToNat, Int.reduceEq, Int.reduceAdd, Nat.reduceGT, Int.toNat_natCast, Option.map_some, Option.map_none, Int.le_refl, Nat.le_refl, Nat.add_one_sub_one, Nat.add_sub_cancel, Nat.sub_self, cons_3, sealed_3, cons_4, sealed_4, cons_5, sealed_5, cons_8, sealed_8, cons_9, sealed_9, cons_13, sealed_13, cons_14, sealed_14, cons_15, sealed_15, cons_16, sealed_16, cons_22, sealed_22, cons_25, sealed_25, cons_27, sealed_27, cons_30, sealed_30, cons_31, sealed_31, cons_35, sealed_35, strict_4_5, sz_3, sz_4, sz_5, sz_9, sz_25, sz_38, sz_44, sz_46, sz_48, sz_49, sz_65, sz_88, sz_104, sz_109, sz_134, sz_146, sz_156, sz_157, agg_3, agg_4, agg_5, agg_9, agg_25, agg_38, agg_44, agg_46, agg_48, agg_49, agg_65, agg_88, agg_104, agg_109, agg_134, esz_22, esz_25, esz_27, esz_38, esz_43, esz_44, esz_45, esz_46, esz_49, esz_65, elemT_22, elemT_25, elemT_27, elemT_38, elemT_43, elemT_44, elemT_45, elemT_46, elemT_49, elemT_65, lay_48, lay_55, lay_68, lay_88, lay_106, layB_48, layB_55, layB_68, layB_88, layB_143, layB_146, layB_154, layB_156, layB_157, zero_3, zero_5, zero_9, zero_44, zero_46, zero_48, zero_49, zero_55, zero_68, zero_88, zero_133, zero_143, zero_146, zero_148, zero_154, zero_156, zero_157, eqk_4, eqf_48, eqk_104, eqk_109, conv_2_134, conv_3_5, conv_3_81, conv_3_134, conv_5_3, conv_5_21, conv_5_134, conv_9_25, conv_21_3, conv_21_5, conv_21_9, conv_25_9, conv_81_147, conv_104_121, conv_121_104, conv_134_2, conv_134_5, conv_134_147, conv_147_5, und_9, und_22, und_25, und_27, und_38, und_43, und_44, und_45, und_46, und_49, und_65, und_133, und_146, und_148, und_156, und_157, ifc_9, ifc_126, ifc_129, ifc_152, elemI_22, elemI_25, elemI_27, elemI_38, elemI_43, elemI_44, elemI_45, elemI_46, elemI_65, by_3, by_5, by_9, by_44, by_46, by_48, by_49, bytesOf_len, h1, ha]
  · have h1 : ¬((bs.length : Int) > 1500) := by omega
    have hb : bs.length ≤ 1000000 := by omega
    obtain ⟨k1, h2⟩ := unpack_ev bs [] [[], []] hb
    obtain ⟨k2, h3⟩ := refunpack_ev .ro bs [] [[], []] hb (polysR_small _ hb)
    have hlo : leftB (polysR (bs, false)).2 = leftB (polysB (bs, false)).2 ∧ (leftB (polysB (bs, false)).2 = false → (polysR (bs, false)).1 = (polysB (bs, false)).1 ∧ bs = bL (polysB (bs, false)).1) := by
      obtain ⟨g1, g2⟩ := polys_alike (bs, false)
      have g3 := polys_back (bs, false)
      generalize polysR (bs, false) = A at g1 g2
      generalize polysB (bs, false) = R at g1 g2 g3
      obtain ⟨l, r, bad⟩ := R
      simp only at g1 g3
      cases bad
      · rw [g2 g1]
        refine ⟨rfl, fun h => ⟨rfl, ?_⟩⟩
        simp only [leftB, Bool.false_or, decide_eq_false_iff_not] at h
        have hr : r = [] := List.length_eq_zero_iff.1 (by omega)
        have := g3 rfl
        rw [hr, List.append_nil] at this
        exact this
      · have h4 : leftB A.2 = true := by simp [leftB, g1]
        have h5 : leftB (r, true) = true := by simp [leftB]
        exact ⟨by rw [h4, h5], fun h => by rw [h5] at h; cases h⟩
    have hsm := polysB_small (bs, false) hb
    generalize (polysR (bs, false)).1 = lA at h3 hlo
    generalize leftB (polysR (bs, false)).2 = bA at h3 hlo
    generalize (polysB (bs, false)).1 = l at h2 hlo hsm
    generalize leftB (polysB (bs, false)).2 = bR' at h2 hlo
    obtain ⟨rfl, hlo⟩ := hlo
    have hs0 : Small [] := ⟨by simp, fun g hg => by simp at hg⟩
    have h9 : callE cfg 15 [.c (.sl .nil 1 [])] [[], [], []] = some (some (.c (.sl .nil 1 [])), [[], [], []]) := old_ev .nil [] _ (fun e he => by simp at he) (by simp)
    have h10 : callE cfg 14 [.c (.sl .nil 1 []), .c (.sl .nil 1 [])] [[], [], []] = some (some (.c (.bool true)), [[], [], []]) := same_ev .nil .nil [] [] [] [[], []] hs0 hs0
    cases bA
    · obtain ⟨rfl, hback⟩ := hlo rfl
      cases hm : mayL 0 lA
      · simp only [toldV, hm] at h2 h3
        have z1 : ((201 : Int) == 201) = true := rfl
        have z2 : ((201 : Int) != 0) = true := rfl
        simp only [resTmpsR, List.filterMap, evC_skip, evC_label, evC_exit, evC_ret, evC_region, evC_draw, evC_seq, evC_cond, evC_loop, evC_bseq, evC_bcond, evC_bregion, evC_bblock, evC_bskip, blockEx, feedL, feedOf, runL, stepW, wantedV, Ev.step, opv, ev, getT, isLit, binV, intOp, shiftOp, strOp, unV, litKind, eqV, put, params, constV, keep, List.map, List.contains_nil, Bool.or_self, Nat.reduceEqDiff, reduceIte, if_true, if_false, decide_true, decide_false, reduceCtorEq, Nat.reduceBEq, give, gives, V.hasSl, C.isSl, V.strip, C.strip, feeds, List.append_nil, List.nil_append, List.contains_cons, Bool.false_eq_true, List.getElem?_toArray, List.length_cons, constC, lenV, List.getElem?_cons_zero, List.getElem?_cons_succ, Bool.or_false, Bool.false_or, Bool.or_true, beq_self_eq_true, Bool.not_true, Bool.not_false, Bool.and_false, Bool.and_true, Bool.true_and, Bool.false_and, and_true, true_and, and_self, or_false, false_or, true_or, or_true, Nat.reduceLT, Nat.lt_irrefl, Nat.zero_lt_one, readV, D.toC, List.drop_zero, fillE, fillC, V.cells, toDs, C.toD, appendV, tailD, appOK, List.replicate, List.length_nil, Nat.zero_add, cfg_arr, cfg_esc, Option.bind_some, Option.bind_none, List.drop_succ_cons, List.take_succ_cons, List.take_zero, Bool.true_or, Bool.false_or, Bool.not_true, bb_tt, bb_ft, bb_tf, bb_ff, cond_true, cond_false, IntKind.bits, Int.reducePow, Nat.reducePow, List.set_cons_zero, List.set_cons_succ, List.getElem?_nil, List.map_cons, List.map_nil, kstrip_own, kstrip_ro, kstrip_nil, kstrip_exact, kstrip_strip, foldC, minC, maxC, Nat.lt_add_one, Nat.zero_lt_succ, Nat.reduceAdd, Nat.reduceMul, Nat.reduceLeDiff, Nat.reduceSub, Nat.one_mul, Nat.mul_one, finishR, resVs, resV, freezeVs, freezeV, freezeC, freezeCs, List.take_length, convV, target, consOf, doCall, argsG, List.all_cons, List.all_nil, V.le, C.le, C.leL, Ev.newObj, Ev.look, Ev.setF, Ev.setRange, List.getElem?_append, sliceV, boundV, asNat, pickV, List.cons_append, V.le1, Int.reduceNeg, Int.reduceLT, Int.reduceLE, Int.reduceToNat, Int.reduceEq, Int.reduceAdd, Nat.reduceGT, Int.toNat_natCast, Option.map_some, Option.map_none, Int.le_refl, Nat.le_refl, Nat.add_one_sub_one, Nat.add_sub_cancel, Nat.sub_self, cons_3, sealed_3, cons_4, sealed_4, cons_5, sealed_5, cons_8, sealed_8, cons_9, sealed_9, cons_13, sealed_13, cons_14, sealed_14, cons_15, sealed_15, cons_16, sealed_16, cons_22, sealed_22, cons_25, sealed_25, cons_27, sealed_27, cons_30, sealed_30, cons_31, sealed_31, cons_35, sealed_35, strict_4_5, sz_3, sz_4, sz_5, sz_9, sz_25, sz_38, sz_44, sz_46, sz_48, sz_49, sz_65, sz_88, sz_104, sz_109, sz_134, sz_146, sz_156, sz_157, agg_3, agg_4, agg_5, agg_9, agg_25, agg_38, agg_44, agg_46, agg_48, agg_49, agg_65, agg_88, agg_104, agg_109, agg_134, esz_22, esz_25, esz_27, esz_38, esz_43, esz_44, esz_45, esz_46, esz_49, esz_65, elemT_22, elemT_25, elemT_27, elemT_38, elemT_43, elemT_44, elemT_45, elemT_46, elemT_49, elemT_65, lay_48, lay_55, lay_68, lay_88, lay_106, layB_48, layB_55, layB_68, layB_88, layB_143, layB_146, layB_154, layB_156, layB_157, zero_3, zero_5, zero_9, zero_44, zero_46, zero_48, zero_49, zero_55, zero_68, zero_88, zero_133, zero_143, zero_146, zero_148, zero_154, zero_156, zero_157, eqk_4, eqf_48, eqk_104, eqk_109, conv_2_134, conv_3_5, conv_3_81, conv_3_134, conv_5_3, conv_5_21, conv_5_134, conv_9_25, conv_21_3, conv_21_5, conv_21_9, conv_25_9, conv_81_147, conv_104_121, conv_121_104, conv_134_2, conv_134_5, conv_134_147, conv_147_5, und_9, und_22, und_25, und_27, und_38, und_43, und_44, und_45, und_46, und_49, und_65, und_133, und_146, und_148, und_156, und_157, ifc_9, ifc_126, ifc_129, ifc_152, elemI_22, elemI_25, elemI_27, elemI_38, elemI_43, elemI_44, elemI_45, elemI_46, elemI_65, by_3, by_5, by_9, by_44, by_46, by_48, by_49, bytesOf_len, h1, ha, h2, h3, h9, h10, z1, z2]
      · simp only [toldV, hm] at h2 h3
        have hg := mayL_good 0 lA (by omega) hm
        have h11 := old_ev k1.strip (encL lA) [[], [], []] (fun e he => by
          obtain ⟨g, _, rfl⟩ := List.mem_map.1 he
          exact ⟨_, rfl⟩) (by rw [encL_len]; omega)
        rw [encL_len] at h11
        generalize (if lA.length = 0 then K.nil else K.own) = k4 at h11
        have h12 := same_ev k4.strip k2.strip lA lA [] [[], []] hsm hsm
        rw [show decide (lA = lA) = true by simp] at h12
        have h13 := pack_yes k1.strip lA [] [[], []] hm
        have h14 : strOf (pL lA) = some bs := by rw [pL_eq, strOf_bytesOf, ← hback]
        have h15 := strOf_bytesOf bs
        have z1 : ((0 : Int) == 0) = true := rfl
        have z2 : ((0 : Int) != 0) = false := rfl
        simp only [resTmpsR, List.filterMap, evC_skip, evC_label, evC_exit, evC_ret, evC_region, evC_draw, evC_seq, evC_cond, evC_loop, evC_bseq, evC_bcond, evC_bregion, evC_bblock, evC_bskip, blockEx, feedL, feedOf, runL, stepW, wantedV, Ev.step, opv, ev, getT, isLit, binV, intOp, shiftOp, strOp, unV, litKind, eqV, put, params, constV, keep, List.map, List.contains_nil, Bool.or_self, Nat.reduceEqDiff, reduceIte, if_true, if_false, decide_true, decide_false, reduceCtorEq, Nat.reduceBEq, give, gives, V.hasSl, C.isSl, V.strip, C.strip, feeds, List.append_nil, List.nil_append, List.contains_cons, Bool.false_eq_true, List.getElem?_toArray, List.length_cons, constC, lenV, List.getElem?_cons_zero, List.getElem?_cons_succ, Bool.or_false, Bool.false_or, Bool.or_true, beq_self_eq_true, Bool.not_true, Bool.not_false, Bool.and_false, Bool.and_true, Bool.true_and, Bool.false_and, and_true, true_and, and_self, or_false, false_or, true_or, or_true, Nat.reduceLT, Nat.lt_irrefl, Nat.zero_lt_one, readV, D.toC, List.drop_zero, fillE, fillC, V.cells, toDs, C.toD, appendV, tailD, appOK, List.replicate, List.length_nil, Nat.zero_add, cfg_arr, cfg_esc, Option.bind_some, Option.bind_none, List.drop_succ_cons, List.take_succ_cons, List.take_zero, Bool.true_or, Bool.false_or, Bool.not_true, bb_tt, bb_ft, bb_tf, bb_ff, cond_true, cond_false, IntKind.bits, Int.reducePow, Nat.reducePow, List.set_cons_zero, List.set_cons_succ, List.getElem?_nil, List.map_cons, List.map_nil, kstrip_own, kstrip_ro, kstrip_nil, kstrip_exact, kstrip_strip, foldC, minC, maxC, Nat.lt_add_one, Nat.zero_lt_succ, Nat.reduceAdd, Nat.reduceMul, Nat.reduceLeDiff, Nat.reduceSub, Nat.one_mul, Nat.mul_one, finishR, resVs, resV, freezeVs, freezeV, freezeC, freezeCs, List.take_length, convV, target, consOf, doCall, argsG, List.all_cons, List.all_nil, V.le, C.le, C.leL, Ev.newObj, Ev.look, Ev.setF, Ev.setRange, List.getElem?_append, sliceV, boundV, asNat, pickV, List.cons_append, V.le1, Int.reduceNeg, Int.reduceLT, Int.reduceLE, Int.reduceToNat, Int.reduceEq, Int.reduceAdd, Nat.reduceGT, Int.toNat_natCast, Option.map_some, Option.map_none, Int.le_refl, Nat.le_refl, Nat.add_one_sub_one, Nat.add_sub_cancel, Nat.sub_self, cons_3, sealed_3, cons_4, sealed_4, cons_5, sealed_5, cons_8, sealed_8, cons_9, sealed_9, cons_13, sealed_13, cons_14, sealed_14, cons_15, sealed_15, cons_16, sealed_16, cons_22, sealed_22, cons_25, sealed_25, cons_27, sealed_27, cons_30, sealed_30, cons_31, sealed_31, cons_35, sealed_35, strict_4_5, sz_3, sz_4, sz_5, sz_9, sz_25, sz_38, sz_44, sz_46, sz_48, sz_49, sz_65, sz_88, sz_104, sz_109, sz_134, sz_146, sz_156, sz_157, agg_3, agg_4, agg_5, agg_9, agg_25, agg_38, agg_44, agg_46, agg_48, agg_49, agg_65, agg_88, agg_104, agg_109, agg_134, esz_22, esz_25, esz_27, esz_38, esz_43, esz_44, esz_45, esz_46, esz_49, esz_65, elemT_22, elemT_25, elemT_27, elemT_38, elemT_43, elemT_44, elemT_45, elemT_46, elemT_49, elemT_65, lay_48, lay_55, lay_68, lay_88, lay_106, layB_48, layB_55, layB_68, layB_88, layB_143, layB_146, layB_154, layB_156, layB_157, zero_3, zero_5, zero_9, zero_44, zero_46, zero_48, zero_49, zero_55, zero_68, zero_88, zero_133, zero_143, zero_146, zero_148, zero_154, zero_156, zero_157, eqk_4, eqf_48, eqk_104, eqk_109, conv_2_134, conv_3_5, conv_3_81, conv_3_134, conv_5_3, conv_5_21, conv_5_134, conv_9_25, conv_21_3, conv_21_5, conv_21_9, conv_25_9, conv_81_147, conv_104_121, conv_121_104, conv_134_2, conv_134_5, conv_134_147, conv_147_5, und_9, und_22, und_25, und_27, und_38, und_43, und_44, und_45, und_46, und_49, und_65, und_133, und_146, und_148, und_156, und_157, ifc_9, ifc_126, ifc_129, ifc_152, elemI_22, elemI_25, elemI_27, elemI_38, elemI_43, elemI_44, elemI_45, elemI_46, elemI_65, by_3, by_5, by_9, by_44, by_46, by_48, by_49, bytesOf_len, h1, ha, h2, h3, h11, h12, h13, h14, h15, z1, z2]
    · simp only [toldV] at h2 h3
      have z1 : ((200 : Int) == 200) = true := rfl
      have z2 : ((200 : Int) != 0) = true := rfl
      simp only [resTmpsR, List.filterMap, evC_skip, evC_label, evC_exit, evC_ret, evC_region, evC_draw, evC_seq, evC_cond, evC_loop, evC_bseq, evC_bcond, evC_bregion, evC_bblock, evC_bskip, blockEx, feedL, feedOf, runL, stepW, wantedV, Ev.step, opv, ev, getT, isLit, binV, intOp, shiftOp, strOp, unV, litKind, eqV, put, params, constV, keep, List.map, List.contains_nil, Bool.or_self, Nat.reduceEqDiff, reduceIte, if_true, if_false, decide_true, decide_false, reduceCtorEq, Nat.reduceBEq, give, gives, V.hasSl, C.isSl, V.strip, C.strip, feeds, List.append_nil, List.nil_append, List.contains_cons, Bool.false_eq_true, List.getElem?_toArray, List.length_cons, constC, lenV, List.getElem?_cons_zero, List.getElem?_cons_succ, Bool.or_false, Bool.false_or, Bool.or_true, beq_self_eq_true, Bool.not_true, Bool.not_false, Bool.and_false, Bool.and_true, Bool.true_and, Bool.false_and, and_true, true_and, and_self, or_false, false_or, true_or, or_true, Nat.reduceLT, Nat.lt_irrefl, Nat.zero_lt_one, readV, D.toC, List.drop_zero, fillE, fillC, V.cells, toDs, C.toD, appendV, tailD, appOK, List.replicate, List.length_nil, Nat.zero_add, cfg_arr, cfg_esc, Option.bind_some, Option.bind_none, List.drop_succ_cons, List.take_succ_cons, List.take_zero, Bool.true_or, Bool.false_or, Bool.not_true, bb_tt, bb_ft, bb_tf, bb_ff, cond_true, cond_false, IntKind.bits, Int.reducePow, Nat.reducePow, List.set_cons_zero, List.set_cons_succ, List.getElem?_nil, List.map_cons, List.map_nil, kstrip_own, kstrip_ro, kstrip_nil, kstrip_exact, kstrip_strip, foldC, minC, maxC, Nat.lt_add_one, Nat.zero_lt_succ, Nat.reduceAdd, Nat.reduceMul, Nat.reduceLeDiff, Nat.reduceSub, Nat.one_mul, Nat.mul_one, finishR, resVs, resV, freezeVs, freezeV, freezeC, freezeCs, List.take_length, convV, target, consOf, doCall, argsG, List.all_cons, List.all_nil, V.le, C.le, C.leL, Ev.newObj, Ev.look, Ev.setF, Ev.setRange, List.getElem?_append, sliceV, boundV, asNat, pickV, List.cons_append, V.le1, Int.reduceNeg, Int.reduceLT, Int.reduceLE, Int.reduceToNat, Int.reduceEq, Int.reduceAdd, Nat.reduceGT, Int.toNat_natCast, Option.map_some, Option.map_none, Int.le_refl, Nat.le_refl, Nat.add_one_sub_one, Nat.add_sub_cancel, Nat.sub_self, cons_3, sealed_3, cons_4, sealed_4, cons_5, sealed_5, cons_8, sealed_8, cons_9, sealed_9, cons_13, sealed_13, cons_14, sealed_14, cons_15, sealed_15, cons_16, sealed_16, cons_22, sealed_22, cons_25, sealed_25, cons_27, sealed_27, cons_30, sealed_30, cons_31, sealed_31, cons_35, sealed_35, strict_4_5, sz_3, sz_4, sz_5, sz_9, sz_25, sz_38, sz_44, sz_46, sz_48, sz_49, sz_65, sz_88, sz_104, sz_109, sz_134, sz_146, sz_156, sz_157, agg_3, agg_4, agg_5, agg_9, agg_25, agg_38, agg_44, agg_46, agg_48, agg_49, agg_65, agg_88, agg_104, agg_109, agg_134, esz_22, esz_25, esz_27, esz_38, esz_43, esz_44, esz_45, esz_46, esz_49, esz_65, elemT_22, elemT_25, elemT_27, elemT_38, elemT_43, elemT_44, elemT_45, elemT_46, elemT_49, elemT_65, lay_48, lay_55, lay_68, lay_88, lay_106, layB_48, layB_55, layB_68, layB_88, layB_143, layB_146, layB_154, layB_156, layB_157, zero_3, zero_5, zero_9, zero_44, zero_46, zero_48, zero_49, zero_55, zero_68, zero_88, zero_133, zero_143, zero_146, zero_148, zero_154, zero_156, zero_157, eqk_4, eqf_48, eqk_104, eqk_109, conv_2_134, conv_3_5, conv_3_81, conv_3_134, conv_5_3, conv_5_21, conv_5_134, conv_9_25, conv_21_3, conv_21_5, conv_21_9, conv_25_9, conv_81_147, conv_104_121, conv_121_104, conv_134_2, conv_134_5, conv_134_147, conv_147_5, und_9, und_22, und_25, und_27, und_38, und_43, und_44, und_45, und_46, und_49, und_65, und_133, und_146, und_148, und_156, und_157, ifc_9, ifc_126, ifc_129, ifc_152, elemI_22, elemI_25, elemI_27, elemI_38, elemI_43, elemI_44, elemI_45, elemI_46, elemI_65, by_3, by_5, by_9, by_44, by_46, by_48, by_49, bytesOf_len, h1, ha, h2, h3, h9, h10, z1, z2]

end Go.Proofs.YtbfllngekcckeaaDoor
