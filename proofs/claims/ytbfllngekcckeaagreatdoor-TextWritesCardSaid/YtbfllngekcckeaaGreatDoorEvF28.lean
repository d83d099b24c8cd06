/- A number's text as the document has it: limbs of four decimals. The document's numbers, and texts, at the machine. The document's texts of numbers, at the machine. The document's rows of numbers, and its text of polygons, at the machine. -/
import Derived.Test.YtbfllngekcckeaaGreatDoorEvF20
namespace Go.Proofs.YtbfllngekcckeaaGreatDoor
open Go.Ev
set_option linter.unusedSimpArgs false
set_option linter.unusedVariables false
set_option maxHeartbeats 400000
set_option maxRecDepth 4000

def encN (ds : List Int) : List (List D) := ds.map fun d => [.int .i64 d]
theorem encN_len (ds : List Int) : (encN ds).length = ds.length := by simp [encN]
theorem encN_get {ds : List Int} {i : Nat} {d : Int} (h : ds[i]? = some d) : (encN ds)[i]? = some [.int .i64 d] := by simp [encN, h]
theorem encN_snoc (ds : List Int) (d : Int) : encN ds ++ [[.int .i64 d]] = encN (ds ++ [d]) := by simp [encN]

/-! ### Plain -/

def limbs : Nat → Nat → List Int
  | 0, _ => []
  | k + 1, u => if u = 0 then [] else ((u % 10000 : Nat) : Int) :: limbs k (u / 10000)

/-- Up to four decimals of a limb, put ahead of what there is. -/
def inner4 : Nat → Bool → Int → List UInt8 → List UInt8
  | 0, _, _, out => out
  | f + 1, more, d, out => if more = true ∨ d > 0 then inner4 f more (d / 10) (UInt8.ofNat (48 + d % 10).toNat :: out) else out
def textB : List Int → List UInt8 → List UInt8
  | [], out => out
  | d :: r, out => textB r (inner4 4 (decide (r.length > 0)) d out)

theorem limbs_len : ∀ (k u : Nat), (limbs k u).length ≤ k
  | 0, _ => Nat.le_refl _
  | k + 1, u => by
    have := limbs_len k (u / 10000)
    simp only [limbs]
    split
    · exact Nat.zero_le _
    · simp only [List.length_cons]; omega
theorem limbs_rng : ∀ (k u : Nat), ∀ d ∈ limbs k u, 0 ≤ d ∧ d < 10000
  | 0, _, d, h => by cases h
  | k + 1, u, d, h => by
    simp only [limbs] at h
    split at h
    · cases h
    · rcases List.mem_cons.1 h with rfl | h
      · omega
      · exact limbs_rng k _ d h
theorem limbs_none {k u : Nat} (h : u < 10000 ^ k) : (limbs k u).length > 0 ↔ u > 0 := by
  cases k with
  | zero => simp at h; simp [limbs, h]
  | succ k =>
    simp only [limbs]
    split
    · rename_i h0; simp [h0]
    · rename_i h0; simp only [List.length_cons]; omega

theorem byte_eq {a b : Nat} (h : a = b) : UInt8.ofNat a = UInt8.ofNat b := by rw [h]

theorem inner4_more (d : Int) (hd : 0 ≤ d) (out : List UInt8) : inner4 4 true d out = [UInt8.ofNat (48 + d.toNat / 1000 % 10), UInt8.ofNat (48 + d.toNat / 100 % 10), UInt8.ofNat (48 + d.toNat / 10 % 10), UInt8.ofNat (48 + d.toNat % 10)] ++ out := by
  simp only [inner4, true_or, if_true, List.cons_append, List.nil_append]
  rw [byte_eq (show (48 + d % 10).toNat = 48 + d.toNat % 10 by omega), byte_eq (show (48 + d / 10 % 10).toNat = 48 + d.toNat / 10 % 10 by omega), byte_eq (show (48 + d / 10 / 10 % 10).toNat = 48 + d.toNat / 100 % 10 by omega), byte_eq (show (48 + d / 10 / 10 / 10 % 10).toNat = 48 + d.toNat / 1000 % 10 by omega)]

theorem digs_four (k u : Nat) (h : 10000 ≤ u) : digs (k + 4) u = digs k (u / 10000) ++ [UInt8.ofNat (48 + u / 1000 % 10), UInt8.ofNat (48 + u / 100 % 10), UInt8.ofNat (48 + u / 10 % 10), UInt8.ofNat (48 + u % 10)] := by
  simp only [digs]
  rw [if_neg (by omega), if_neg (by omega), if_neg (by omega), if_neg (by omega)]
  simp only [List.append_assoc, List.cons_append, List.nil_append]
  rw [byte_eq (show 48 + u / 10 / 10 / 10 % 10 = 48 + u / 1000 % 10 by omega), byte_eq (show 48 + u / 10 / 10 % 10 = 48 + u / 100 % 10 by omega), show u / 10 / 10 / 10 / 10 = u / 10000 by omega]

theorem inner4_last (k : Nat) (d : Int) (h1 : 0 < d) (h2 : d < 10000) (out : List UInt8) : inner4 4 false d out = digs (k + 3) d.toNat ++ out := by
  obtain ⟨u, rfl⟩ := Int.eq_ofNat_of_zero_le (Int.le_of_lt h1)
  simp only [Int.toNat_natCast]
  have e : ∀ v : Nat, (48 + (v : Int) % 10).toNat = 48 + v % 10 := fun v => by omega
  have q : ∀ v : Nat, (v : Int) / 10 = ((v / 10 : Nat) : Int) := fun v => by omega
  simp only [inner4, digs, Bool.false_eq_true, false_or, e, q]
  by_cases c1 : u < 10
  · rw [if_pos h1, if_neg (by omega), if_pos c1, show u % 10 = u by omega]; rfl
  · by_cases c2 : u < 100
    · rw [if_pos h1, if_pos (by omega), if_neg (by omega), if_neg c1, if_pos (by omega), show u / 10 % 10 = u / 10 by omega]; rfl
    · by_cases c3 : u < 1000
      · rw [if_pos h1, if_pos (by omega), if_pos (by omega), if_neg (by omega), if_neg c1, if_neg (by omega), if_pos (by omega), show u / 10 / 10 % 10 = u / 10 / 10 by omega]; rfl
      · rw [if_pos h1, if_pos (by omega), if_pos (by omega), if_pos (by omega), if_neg c1, if_neg (by omega), if_neg (by omega)]
        have hk : ∀ k, digs k (u / 10 / 10 / 10) = [UInt8.ofNat (48 + u / 10 / 10 / 10 % 10)] := fun k => by
          cases k with
          | zero => rfl
          | succ k => simp only [digs]; rw [if_pos (by omega), show u / 10 / 10 / 10 % 10 = u / 10 / 10 / 10 by omega]
        rw [hk]; rfl

theorem textB_digs : ∀ (k u : Nat) (out : List UInt8), 0 < u → u < 10000 ^ (k + 1) → textB (limbs (k + 1) u) out = digs (4 * k + 4) u ++ out
  | 0, u, out, h0, h => by
    have hm : u % 10000 = u := by simp at h; omega
    simp only [limbs, if_neg (Nat.ne_of_gt h0), textB, hm, List.length_nil, Nat.lt_irrefl, gt_iff_lt, decide_false]
    rw [inner4_last 1 u (by omega) (by simp at h; omega)]
    simp
  | k + 1, u, out, h0, h => by
    have e1 : limbs (k + 1 + 1) u = ((u % 10000 : Nat) : Int) :: limbs (k + 1) (u / 10000) := by
      conv => lhs; unfold limbs
      rw [if_neg (Nat.ne_of_gt h0)]
    have hq : u / 10000 < 10000 ^ (k + 1) := by
      rw [Nat.pow_succ] at h
      exact Nat.div_lt_of_lt_mul (by rw [Nat.mul_comm]; exact h)
    have hl := limbs_none hq
    rw [e1]
    simp only [textB]
    by_cases c : u < 10000
    · have h3 : u / 10000 = 0 := by omega
      have h4 : limbs (k + 1) (u / 10000) = [] := by rw [h3]; simp [limbs]
      rw [h4]
      simp only [List.length_nil, gt_iff_lt, Nat.lt_irrefl, decide_false, textB]
      rw [show u % 10000 = u by omega, inner4_last (4 * (k + 1) + 1) u (by omega) (by omega)]
      simp
    · have h3 : decide ((limbs (k + 1) (u / 10000)).length > 0) = true := decide_eq_true (hl.2 (by omega))
      rw [h3, inner4_more _ (by omega), textB_digs k (u / 10000) _ (by omega) hq, show 4 * (k + 1) + 4 = (4 * k + 4) + 4 by omega, digs_four (4 * k + 4) u (by omega)]
      simp only [List.append_assoc, Int.toNat_natCast]
      rw [show u % 10000 / 1000 % 10 = u / 1000 % 10 by omega, show u % 10000 / 100 % 10 = u / 100 % 10 by omega, show u % 10000 / 10 % 10 = u / 10 % 10 by omega, show u % 10000 % 10 = u % 10 by omega]

/-- A number as the document has it. -/
def numF (n : Int) : Bool × List Int := (decide (n < 0), limbs 5 n.natAbs)
def textF (a : Bool × List Int) : List UInt8 := if a.2.length = 0 then [48] else if a.1 = true then 45 :: textB a.2 [] else textB a.2 []
theorem textF_eq (n : Int) (h1 : -9223372036854775808 ≤ n) (h2 : n ≤ 9223372036854775807) : textF (numF n) = itoaF n := by
  have hn := limbs_none (k := 5) (u := n.natAbs) (by omega)
  unfold textF numF itoaF
  simp only
  by_cases c : n = 0
  · subst c; rfl
  · rw [if_neg (by omega)]
    have ht := textB_digs 4 n.natAbs [] (by omega) (by omega)
    rw [ht]
    simp only [List.append_nil, decide_eq_true_eq]
    split
    · rfl
    · rw [show n.natAbs = n.toNat by omega]

end Go.Proofs.YtbfllngekcckeaaGreatDoor
namespace Go.Proofs.YtbfllngekcckeaaGreatDoor
open Go.Ev
set_option linter.unusedSimpArgs false
set_option linter.unusedVariables false
set_option maxHeartbeats 400000
set_option maxRecDepth 4000

theorem limbs_succ (m : Nat) (n : Int) (h : n ≠ 0) : limbs (m + 1) n.natAbs = ((n.tmod 10000).natAbs : Int) :: limbs m (n.tdiv 10000).natAbs := by
  have e1 : n.natAbs % 10000 = (n.tmod 10000).natAbs := (Int.natAbs_tmod n 10000).symm
  have e2 : n.natAbs / 10000 = (n.tdiv 10000).natAbs := (Int.natAbs_tdiv n 10000).symm
  conv => lhs; unfold limbs
  rw [if_neg (by omega), e1, e2]

theorem of_ev (n : Int) (fr : Fr) (fs : Frames) (h1 : -9223372036854775808 ≤ n) (h2 : n ≤ 9223372036854775807) :
    ∃ kk z, (z = 1 ∨ (numF n).2 = []) ∧ callE cfg 40 [.c (.int .i64 n)] (fr :: fs) = some (some (.agg [.bool (numF n).1, .sl kk z (encN (numF n).2)]), fr :: fs) := by
  refine ⟨(if (numF n).2.length = 0 then K.nil else K.own).strip, if (numF n).2.length = 0 then 0 else 1, ?_, ?_⟩
  · split
    · exact .inr (List.length_eq_zero_iff.1 (by assumption))
    · exact .inl rfl
  refine callE_code (fn := Tryz.f40) (rs := [.cell 2 78]) (by kernel_rfl) (by kernel_rfl) (by kernel_rfl) rfl rfl rfl (by show 1 ≤ 25; decide) ?_
  simp only [resTmpsR, List.filterMap, evC_ret, evC_region, evC_seq, evC_loop, blockEx, feedL, feedOf, runL, stepW, wantedV, Ev.step, opv, ev, getT, binV, intOp, put, params, constV, keep, List.map, List.contains_nil, Nat.reduceEqDiff, if_true, if_false, reduceCtorEq, give, V.hasSl, C.isSl, V.strip, C.strip, feeds, List.append_nil, List.nil_append, Bool.false_eq_true, List.length_cons, constC, List.getElem?_cons_zero, List.getElem?_cons_succ, Bool.and_true, Bool.false_and, and_self, readV, List.drop_zero, fillC, V.cells, List.length_nil, Nat.zero_add, cfg_esc, List.drop_succ_cons, List.take_zero, List.set_cons_zero, List.set_cons_succ, List.map_cons, Nat.lt_add_one, Nat.reduceAdd, Nat.reduceLeDiff, finishR, resVs, resV, C.le, C.leL, Ev.newObj, Ev.look, Ev.setF, Ev.setRange, List.cons_append, Nat.le_refl, live_40_0, sz_78, agg_78, layB_78, zero_78]
  let σ : List Int × Int × Nat → S := fun (o, x, _) => { m := [(0, .c (.int .i64 x)), (2, .c (.ptr (fs.length + 1) 0 0)), (3, .c (.ptr (fs.length + 1) 1 0))], fs := [[.bool false, .sl .nil 0 []], [.bool (decide (n < 0)), .sl (if o.length = 0 then .nil else .own) (if o.length = 0 then 0 else 1) (encN o)]] :: fr :: fs }
  generalize hL : loopE cfg (callE cfg) itE 40 [] _ _ _ = out
  have hout : ∃ ex st, out = some (ex, st) ∧ ex = .exit 0 ∧ st = σ ((numF n).2, 0, 0) := by
    rw [← hL]
    refine loopE_inv σ (fun (o, x, m) => m) (fun (o, x, m) => o ++ limbs m x.natAbs = (numF n).2 ∧ x.natAbs < 10000 ^ m ∧ o.length + m = 5 ∧ -9223372036854775808 ≤ x ∧ x ≤ 9223372036854775807) (fun ex st => ex = .exit 0 ∧ st = σ ((numF n).2, 0, 0)) (fun (o, x, m) ⟨p1, p2, p3, p4, p5⟩ => ?_) ([], n, 5) ⟨rfl, by omega, rfl, h1, h2⟩
    by_cases hx : x = 0
    · subst hx
      have d1 : ((0 : Int) != 0) = false := rfl
      have e : limbs m (0 : Int).natAbs = [] := by cases m <;> simp [limbs]
      rw [e, List.append_nil] at p1
      subst p1
      simp only [σ, evC_exit, evC_region, evC_seq, evC_cond, feedL, feedOf, runL, stepW, wantedV, Ev.step, opv, ev, getT, binV, intOp, put, constV, List.contains_nil, Nat.reduceEqDiff, if_true, if_false, reduceCtorEq, give, V.hasSl, C.isSl, V.strip, C.strip, feeds, List.append_nil, Bool.false_eq_true, constC, Int.reduceNeg, d1]
      refine ⟨_, rfl, ?_⟩
      exact Round.out ⟨rfl, rfl⟩
    · have d1 : (x != 0) = true := by simp [hx]
      obtain ⟨m, rfl⟩ : ∃ m', m = m' + 1 := by
        cases m with
        | zero => simp at p2; exact absurd p2 hx
        | succ m => exact ⟨m, rfl⟩
      rw [limbs_succ m x hx] at p1
      have hd : (x.tdiv 10000).natAbs = x.natAbs / 10000 := Int.natAbs_tdiv x 10000
      have hm : (x.tmod 10000).natAbs = x.natAbs % 10000 := Int.natAbs_tmod x 10000
      have hq : (x.tdiv 10000).natAbs < 10000 ^ m := by
        rw [Nat.pow_succ] at p2
        rw [hd]
        exact Nat.div_lt_of_lt_mul (by rw [Nat.mul_comm]; exact p2)
      have w1 : IntKind.i64.wrap (x.tdiv 10000) = x.tdiv 10000 := by rw [wrap64] <;> omega
      have h8 : (encN o).length + 1 < 15637498706147 := by rw [encN_len]; omega
      have hk : ∃ kk z, (if o.length = 0 then K.nil else K.own) = kk ∧ (if o.length = 0 then 0 else 1) = z ∧ (kk = .nil ∧ z = 0 ∨ kk = .own ∧ z = 1) := by
        by_cases h0 : o.length = 0
        · exact ⟨_, _, if_pos h0, if_pos h0, .inl ⟨rfl, rfl⟩⟩
        · exact ⟨_, _, if_neg h0, if_neg h0, .inr ⟨rfl, rfl⟩⟩
      obtain ⟨kk, z, hk, hz', hkk⟩ := hk
      have h9 : ¬((o ++ [((x.tmod 10000).natAbs : Int)]).length = 0) := by simp
      have hz : (x != 0) = true := d1
      by_cases hn : x.tmod 10000 < 0
      · have d2 : decide (x.tmod 10000 < 0) = true := decide_eq_true hn
        have w2 : IntKind.i64.wrap (0 - x.tmod 10000) = ((x.tmod 10000).natAbs : Int) := by rw [wrap64] <;> omega
        rcases hkk with ⟨rfl, rfl⟩ | ⟨rfl, rfl⟩
        · simp only [σ, evC_skip, evC_region, evC_seq, evC_cond, evC_bseq, blockEx, feedL, feedOf, runL, stepW, wantedV, Ev.step, opv, ev, getT, binV, intOp, put, constV, List.map, List.contains_nil, Bool.or_self, Nat.reduceEqDiff, if_true, if_false, decide_true, reduceCtorEq, Nat.reduceBEq, give, V.hasSl, C.isSl, V.strip, C.strip, feeds, List.append_nil, List.nil_append, List.contains_cons, Bool.false_eq_true, List.length_cons, constC, List.getElem?_cons_zero, List.getElem?_cons_succ, Bool.or_false, beq_self_eq_true, Bool.not_true, Bool.and_false, Bool.and_true, and_self, or_false, readV, List.drop_zero, fillE, V.cells, toDs, C.toD, appendV, tailD, appOK, List.replicate, List.length_nil, Nat.zero_add, cfg_arr, List.drop_succ_cons, List.take_succ_cons, List.take_zero, Bool.not_true, List.set_cons_zero, List.set_cons_succ, kstrip_own, kstrip_nil, Nat.lt_add_one, Nat.reduceAdd, Nat.reduceLeDiff, Nat.mul_one, C.le, C.leL, Ev.newObj, Ev.look, Ev.setF, Ev.setRange, List.cons_append, Int.reduceNeg, Int.reduceEq, Nat.le_refl, Nat.add_one_sub_one, sz_49, agg_49, esz_49, elemT_49, lay_78, zero_3, und_49, elemI_49, d1, hk, hz', hn, w1, w2, h8, encN_snoc]
          refine ⟨_, rfl, ?_⟩
          exact Round.again (o ++ [((x.tmod 10000).natAbs : Int)], x.tdiv 10000, m) (by simp only [h9, if_false]; rfl) ⟨by simpa using p1, hq, by simp only [List.length_append, List.length_cons, List.length_nil]; omega, by simp only; omega, by simp only; omega⟩ (by simp only; omega)
        · simp only [σ, evC_skip, evC_region, evC_seq, evC_cond, evC_bseq, blockEx, feedL, feedOf, runL, stepW, wantedV, Ev.step, opv, ev, getT, binV, intOp, put, constV, List.map, List.contains_nil, Bool.or_self, Nat.reduceEqDiff, if_true, if_false, decide_true, reduceCtorEq, Nat.reduceBEq, give, V.hasSl, C.isSl, V.strip, C.strip, feeds, List.append_nil, List.nil_append, List.contains_cons, Bool.false_eq_true, List.length_cons, constC, List.getElem?_cons_zero, List.getElem?_cons_succ, Bool.or_false, beq_self_eq_true, Bool.not_true, Bool.and_false, Bool.and_true, and_self, or_false, readV, List.drop_zero, fillE, V.cells, toDs, C.toD, appendV, tailD, appOK, List.replicate, List.length_nil, Nat.zero_add, cfg_arr, List.drop_succ_cons, List.take_succ_cons, List.take_zero, Bool.not_true, List.set_cons_zero, List.set_cons_succ, kstrip_own, Nat.lt_add_one, Nat.reduceAdd, Nat.reduceLeDiff, Nat.mul_one, C.le, C.leL, Ev.newObj, Ev.look, Ev.setF, Ev.setRange, List.cons_append, Int.reduceNeg, Int.reduceEq, Nat.le_refl, Nat.add_one_sub_one, sz_49, agg_49, esz_49, elemT_49, lay_78, zero_3, und_49, elemI_49, d1, hk, hz', hn, w1, w2, h8, encN_snoc]
          refine ⟨_, rfl, ?_⟩
          exact Round.again (o ++ [((x.tmod 10000).natAbs : Int)], x.tdiv 10000, m) (by simp only [h9, if_false]; rfl) ⟨by simpa using p1, hq, by simp only [List.length_append, List.length_cons, List.length_nil]; omega, by simp only; omega, by simp only; omega⟩ (by simp only; omega)
      · obtain ⟨u, hu⟩ := Int.eq_ofNat_of_zero_le (show 0 ≤ x.tmod 10000 by omega)
        rw [hu] at p1
        simp only [Int.natAbs_natCast] at p1
        have d2 : decide ((u : Int) < 0) = false := by simp
        have h9' : ¬((o ++ [(u : Int)]).length = 0) := by simp
        rcases hkk with ⟨rfl, rfl⟩ | ⟨rfl, rfl⟩
        · simp only [σ, evC_skip, evC_region, evC_seq, evC_cond, evC_bseq, blockEx, feedL, feedOf, runL, stepW, wantedV, Ev.step, opv, ev, getT, binV, intOp, put, constV, List.map, List.contains_nil, Bool.or_self, Nat.reduceEqDiff, if_true, if_false, reduceCtorEq, Nat.reduceBEq, give, V.hasSl, C.isSl, V.strip, C.strip, feeds, List.append_nil, List.nil_append, List.contains_cons, Bool.false_eq_true, List.length_cons, constC, List.getElem?_cons_zero, List.getElem?_cons_succ, Bool.or_false, beq_self_eq_true, Bool.not_true, Bool.and_false, Bool.and_true, and_self, or_false, readV, List.drop_zero, fillE, V.cells, toDs, C.toD, appendV, tailD, appOK, List.replicate, List.length_nil, Nat.zero_add, cfg_arr, List.drop_succ_cons, List.take_succ_cons, List.take_zero, Bool.not_true, List.set_cons_zero, List.set_cons_succ, kstrip_own, kstrip_nil, Nat.lt_add_one, Nat.reduceAdd, Nat.reduceLeDiff, Nat.mul_one, C.le, C.leL, Ev.newObj, Ev.look, Ev.setF, Ev.setRange, List.cons_append, Int.reduceNeg, Int.reduceEq, Nat.le_refl, Nat.add_one_sub_one, sz_49, agg_49, esz_49, elemT_49, lay_78, zero_3, und_49, elemI_49, d1, hk, hz', w1, hu, d2, h8, encN_snoc]
          refine ⟨_, rfl, ?_⟩
          exact Round.again (o ++ [(u : Int)], x.tdiv 10000, m) (by simp only [h9', if_false]; rfl) ⟨by simpa using p1, hq, by simp only [List.length_append, List.length_cons, List.length_nil]; omega, by simp only; omega, by simp only; omega⟩ (by simp only; omega)
        · simp only [σ, evC_skip, evC_region, evC_seq, evC_cond, evC_bseq, blockEx, feedL, feedOf, runL, stepW, wantedV, Ev.step, opv, ev, getT, binV, intOp, put, constV, List.map, List.contains_nil, Bool.or_self, Nat.reduceEqDiff, if_true, if_false, reduceCtorEq, Nat.reduceBEq, give, V.hasSl, C.isSl, V.strip, C.strip, feeds, List.append_nil, List.nil_append, List.contains_cons, Bool.false_eq_true, List.length_cons, constC, List.getElem?_cons_zero, List.getElem?_cons_succ, Bool.or_false, beq_self_eq_true, Bool.not_true, Bool.and_false, Bool.and_true, and_self, or_false, readV, List.drop_zero, fillE, V.cells, toDs, C.toD, appendV, tailD, appOK, List.replicate, List.length_nil, Nat.zero_add, cfg_arr, List.drop_succ_cons, List.take_succ_cons, List.take_zero, Bool.not_true, List.set_cons_zero, List.set_cons_succ, kstrip_own, Nat.lt_add_one, Nat.reduceAdd, Nat.reduceLeDiff, Nat.mul_one, C.le, C.leL, Ev.newObj, Ev.look, Ev.setF, Ev.setRange, List.cons_append, Int.reduceNeg, Int.reduceEq, Nat.le_refl, Nat.add_one_sub_one, sz_49, agg_49, esz_49, elemT_49, lay_78, zero_3, und_49, elemI_49, d1, hk, hz', w1, hu, d2, h8, encN_snoc]
          refine ⟨_, rfl, ?_⟩
          exact Round.again (o ++ [(u : Int)], x.tdiv 10000, m) (by simp only [h9', if_false]; rfl) ⟨by simpa using p1, hq, by simp only [List.length_append, List.length_cons, List.length_nil]; omega, by simp only; omega, by simp only; omega⟩ (by simp only; omega)
  obtain ⟨ex, st, q1, rfl, rfl⟩ := hout
  simp only [q1, σ, getT, List.map, Nat.reduceEqDiff, if_true, if_false, reduceCtorEq, C.strip, List.append_nil, List.nil_append, Bool.false_eq_true, List.length_cons, List.getElem?_cons_zero, List.getElem?_cons_succ, Bool.and_true, and_self, List.drop_zero, List.length_nil, Nat.zero_add, List.drop_succ_cons, List.take_succ_cons, List.take_zero, List.set_cons_zero, List.map_cons, kstrip_strip, Nat.reduceAdd, freezeVs, freezeV, freezeC, freezeCs, C.le, C.leL, Ev.look, Ev.setF, Nat.le_refl, Nat.add_one_sub_one]
  rfl

end Go.Proofs.YtbfllngekcckeaaGreatDoor
namespace Go.Proofs.YtbfllngekcckeaaGreatDoor
open Go.Ev
set_option linter.unusedSimpArgs false
set_option linter.unusedVariables false
set_option maxHeartbeats 400000
set_option maxRecDepth 4000

theorem inner4_stop (f : Nat) (out : List UInt8) : inner4 f false 0 out = out := by cases f <;> simp [inner4]
theorem inner4_go (f : Nat) (more : Bool) (u : Nat) (out : List UInt8) (h : more = true ∨ 0 < u) : inner4 (f + 1) more u out = inner4 f more ((u / 10 : Nat) : Int) (UInt8.ofNat (48 + u % 10) :: out) := by
  have e1 : (48 + (u : Int) % 10).toNat = 48 + u % 10 := by omega
  have e2 : (u : Int) / 10 = ((u / 10 : Nat) : Int) := by omega
  simp only [inner4]
  rw [if_pos (by rcases h with h | h; exact .inl h; exact .inr (by omega)), e1, e2]
theorem inner4_len : ∀ (f : Nat) (more : Bool) (d : Int) (out : List UInt8), (inner4 f more d out).length ≤ out.length + f
  | 0, _, _, out => Nat.le_refl _
  | f + 1, more, d, out => by
    simp only [inner4]
    split
    · have := inner4_len f more (d / 10) (UInt8.ofNat (48 + d % 10).toNat :: out)
      simp only [List.length_cons] at this
      omega
    · omega
theorem textB_len : ∀ (ds : List Int) (out : List UInt8), (textB ds out).length ≤ out.length + 4 * ds.length
  | [], out => Nat.le_refl _
  | d :: r, out => by
    have h1 := textB_len r (inner4 4 (decide (r.length > 0)) d out)
    have h2 := inner4_len 4 (decide (r.length > 0)) d out
    simp only [textB, List.length_cons]
    omega
theorem strOf_one (n : Nat) : strOf [[.int .u8 (n : Int)]] = some [UInt8.ofNat n] := by
  simp only [strOf, Int.toNat_natCast]

theorem text_ev (kk : K) (z : Nat) (neg : Bool) (ds : List Int) (fr : Fr) (fs : Frames) (hz : z = 1 ∨ ds = []) (hl : ds.length ≤ 1000) (hr : ∀ d ∈ ds, 0 ≤ d ∧ d < 10000) :
    callE cfg 39 [.agg [.bool neg, .sl kk z (encN ds)]] (fr :: fs) = some (some (.c (.str (textF (neg, ds)))), fr :: fs) := by
  refine callE_code (fn := Tryz.f39) (rs := [.tmp 2]) (by kernel_rfl) (by kernel_rfl) (by kernel_rfl) rfl rfl rfl (by show 1 ≤ 54; decide) ?_
  by_cases h0 : ds = []
  · subst h0
    have e0 : encN [] = [] := rfl
    have z0 : (((0 : Nat) : Int) == 0) = true := rfl
    simp only [resTmpsR, List.filterMap, evC_ret, evC_region, evC_seq, evC_cond, feedL, feedOf, runL, stepW, wantedV, Ev.step, opv, ev, getT, binV, intOp, put, params, constV, List.contains_nil, Nat.reduceEqDiff, if_true, if_false, reduceCtorEq, give, V.hasSl, V.strip, C.strip, feeds, List.append_nil, List.nil_append, Bool.false_eq_true, List.getElem?_toArray, List.length_cons, constC, lenV, List.getElem?_cons_zero, List.getElem?_cons_succ, beq_self_eq_true, Bool.not_true, Bool.and_false, Bool.and_true, readV, List.drop_zero, V.cells, List.length_nil, Nat.zero_add, cfg_esc, List.drop_succ_cons, List.take_succ_cons, List.take_zero, Bool.not_true, List.set_cons_zero, Nat.reduceAdd, finishR, resVs, resV, freezeVs, freezeV, freezeC, C.le, C.leL, Ev.newObj, Ev.look, Ev.setF, Ev.setRange, List.cons_append, Nat.add_one_sub_one, agg_49, lay_78, und_49, e0, z0, textF]
  · have hz1 : z = 1 := hz.resolve_right h0
    subst hz1
    have hpos : 0 < ds.length := List.length_pos_iff.2 h0
    have z0 : ((ds.length : Int) == 0) = false := by rw [beq_eq_false_iff_ne]; omega
    have hF : textF (neg, ds) = if neg = true then 45 :: textB ds [] else textB ds [] := by
      unfold textF
      rw [if_neg (by simp only; omega)]
    rw [hF]
    have hlen := textB_len ds []
    simp only [List.length_nil, Nat.zero_add] at hlen
    simp only [resTmpsR, List.filterMap, evC_skip, evC_ret, evC_region, evC_seq, evC_cond, evC_loop, blockEx, feedL, feedOf, runL, stepW, wantedV, Ev.step, opv, ev, getT, binV, intOp, strOp, put, params, constV, keep, List.map, List.contains_nil, Bool.or_self, Nat.reduceEqDiff, if_true, if_false, reduceCtorEq, Nat.reduceBEq, give, V.hasSl, C.isSl, V.strip, C.strip, feeds, List.append_nil, List.nil_append, List.contains_cons, Bool.false_eq_true, List.getElem?_toArray, List.length_cons, constC, lenV, List.getElem?_cons_zero, List.getElem?_cons_succ, Bool.or_false, beq_self_eq_true, Bool.not_true, Bool.and_false, Bool.and_true, Bool.false_and, readV, List.drop_zero, V.cells, List.length_nil, Nat.zero_add, cfg_esc, List.drop_succ_cons, List.take_succ_cons, List.take_zero, Bool.not_true, List.set_cons_zero, List.map_cons, Nat.reduceAdd, finishR, resVs, resV, freezeVs, freezeV, freezeC, C.le, C.leL, Ev.newObj, Ev.look, Ev.setF, Ev.setRange, List.cons_append, Nat.add_one_sub_one, live_39_0, agg_4, agg_49, lay_78, und_49, encN_len, z0]
    let σ : Nat × List UInt8 → S := fun (k, o) => { m := [(1, .c (.ptr (fs.length + 1) 0 0)), (3, .c (.str o)), (4, .c (.int .i64 k))], fs := [[.bool neg, .sl kk 1 (encN ds)]] :: fr :: fs }
    generalize hL : loopE cfg (callE cfg) itE 39 [2] _ _ _ = out
    have hout : ∃ ex st, out = some (ex, st) ∧ ex = .exit 0 ∧ st = σ (ds.length, textB ds []) := by
      rw [← hL]
      refine loopE_inv σ (fun (k, o) => ds.length - k) (fun (k, o) => k ≤ ds.length ∧ textB ds [] = textB (ds.drop k) o ∧ o.length ≤ 4 * k) (fun ex st => ex = .exit 0 ∧ st = σ (ds.length, textB ds [])) (fun (k, o) ⟨p1, p2, p3⟩ => ?_) (0, []) ⟨by omega, rfl, by simp⟩
      rcases Nat.lt_or_ge k ds.length with hk | hk
      · obtain ⟨d, g0, hd⟩ := drop_get hk
        obtain ⟨u, rfl⟩ := Int.eq_ofNat_of_zero_le (hr d (List.mem_of_getElem? g0)).1
        have hu := (hr _ (List.mem_of_getElem? g0)).2
        rw [hd] at p2
        simp only [textB] at p2
        have h1 : (k : Int) < ds.length := by omega
        have h2 : ((k : Int)).toNat = k := by omega
        have h3 : (0 : Int) ≤ k := by omega
        have he := encN_get g0
        have hw : IntKind.i64.wrap ((k : Int) + 1) = ((k + 1 : Nat) : Int) := by rw [wrap64] <;> omega
        generalize hmore : decide ((ds.drop (k + 1)).length > 0) = more at p2
        have hm : decide (((k + 1 : Nat) : Int) < (ds.length : Int)) = more := by
          rw [← hmore, List.length_drop]
          congr 1
          exact propext (by omega)
        simp only [σ, evC_skip, evC_region, evC_seq, evC_cond, evC_loop, evC_bseq, blockEx, feedL, feedOf, runL, stepW, wantedV, Ev.step, opv, ev, getT, binV, intOp, strOp, put, constV, keep, List.map, List.contains_nil, Bool.or_self, Nat.reduceEqDiff, if_true, if_false, decide_true, reduceCtorEq, Nat.reduceBEq, give, V.hasSl, C.isSl, V.strip, C.strip, feeds, List.append_nil, List.nil_append, List.contains_cons, Bool.false_eq_true, List.getElem?_toArray, List.length_cons, constC, lenV, List.getElem?_cons_zero, List.getElem?_cons_succ, beq_self_eq_true, Bool.not_true, Bool.and_false, and_self, readV, D.toC, List.drop_zero, List.length_nil, Nat.zero_add, List.drop_succ_cons, List.take_succ_cons, List.take_zero, Bool.not_true, List.set_cons_zero, List.map_cons, Nat.lt_add_one, Nat.reduceAdd, Ev.look, Ev.setF, Ev.setRange, List.cons_append, Nat.add_one_sub_one, live_39_2, agg_3, agg_49, esz_49, lay_78, und_49, encN_len, h1, h2, h3, he]
        let τ : Nat × Nat × List UInt8 → S := fun (i, u, o) => { m := [(1, .c (.ptr (fs.length + 1) 0 0)), (3, .c (.str o)), (4, .c (.int .i64 k)), (5, .c (.int .i64 u)), (6, .c (.int .i64 i))], fs := [[.bool neg, .sl kk 1 (encN ds)]] :: fr :: fs }
        generalize hL2 : loopE cfg (callE cfg) itE 39 [2] _ _ _ = out2
        have hout2 : ∃ ex st, out2 = some (ex, st) ∧ ∃ i v, ex = .exit 2 ∧ st = τ (i, v, inner4 4 more u o) := by
          rw [← hL2]
          refine loopE_inv τ (fun (i, v, o') => 4 - i) (fun (i, v, o') => i ≤ 4 ∧ inner4 4 more u o = inner4 (4 - i) more v o' ∧ v ≤ 9999 ∧ o'.length ≤ 4 * k + i) (fun ex st => ∃ i v, ex = .exit 2 ∧ st = τ (i, v, inner4 4 more u o)) (fun (i, v, o') ⟨q1, q2, q3, q4⟩ => ?_) (0, u, o) ⟨by omega, rfl, by omega, by omega⟩
          by_cases hi : i < 4
          · have k1 : ((i : Int) < 4) := by omega
            have kw : IntKind.i64.wrap ((i : Int) + 1) = ((i + 1 : Nat) : Int) := by rw [wrap64] <;> omega
            have t1 : (v : Int).tmod 10 = ((v % 10 : Nat) : Int) := rfl
            have t2 : IntKind.i64.wrap (48 + ((v % 10 : Nat) : Int)) = ((48 + v % 10 : Nat) : Int) := by rw [wrap64] <;> omega
            have t3 : IntKind.u8.wrap ((48 + v % 10 : Nat) : Int) = ((48 + v % 10 : Nat) : Int) := by
              simp [IntKind.wrap, IntKind.bits, IntKind.signed]
              omega
            have t4 : IntKind.i64.wrap ((v : Int).tdiv 10) = ((v / 10 : Nat) : Int) := by
              have : (v : Int).tdiv 10 = ((v / 10 : Nat) : Int) := rfl
              rw [this, wrap64] <;> omega
            have t5 : 1 + o'.length ≤ 9223372036854775807 := by omega
            obtain ⟨f, hf⟩ : ∃ f, 4 - i = f + 1 := ⟨3 - i, by omega⟩
            have hf' : 4 - (i + 1) = f := by omega
            rw [hf] at q2
            cases more
            · by_cases hv : 0 < v
              · have d1 : decide ((v : Int) > 0) = true := decide_eq_true (by omega)
                rw [inner4_go f false v o' (.inr hv)] at q2
                simp only [τ, evC_skip, evC_region, evC_seq, evC_cond, evC_bseq, blockEx, feedL, feedOf, runL, stepW, wantedV, Ev.step, opv, ev, getT, binV, intOp, strOp, put, constV, List.map, List.contains_nil, Bool.or_self, Nat.reduceEqDiff, if_true, if_false, decide_true, reduceCtorEq, Nat.reduceBEq, give, V.hasSl, C.isSl, V.strip, C.strip, feeds, List.append_nil, List.nil_append, List.contains_cons, Bool.false_eq_true, List.getElem?_toArray, List.length_cons, constC, lenV, List.getElem?_cons_zero, List.getElem?_cons_succ, beq_self_eq_true, Bool.not_true, Bool.and_false, and_self, readV, List.drop_zero, fillE, V.cells, toDs, C.toD, List.replicate, List.length_nil, Nat.zero_add, cfg_arr, Option.bind_some, List.drop_succ_cons, List.take_succ_cons, List.take_zero, Bool.not_true, cond_true, cond_false, List.set_cons_zero, Nat.lt_add_one, Nat.reduceAdd, Nat.reduceLeDiff, Nat.mul_one, convV, Ev.newObj, Ev.look, Ev.setF, Ev.setRange, List.cons_append, Int.reduceEq, Nat.add_one_sub_one, agg_49, esz_43, elemT_43, lay_78, zero_5, conv_3_5, conv_43_9, und_49, encN_len, hw, hm, k1, d1, t1, t2, t3, t4, t5, strOf_one, kw]
                refine ⟨_, rfl, ?_⟩
                exact Round.again (i + 1, v / 10, UInt8.ofNat (48 + v % 10) :: o') rfl ⟨by omega, by rw [hf']; exact q2, by simp only; omega, by simp only [List.length_cons]; omega⟩ (by simp only; omega)
              · obtain rfl : v = 0 := by omega
                have d1 : decide (((0 : Nat) : Int) > 0) = false := rfl
                have e0 : ((0 : Nat) : Int) = 0 := rfl
                rw [e0, inner4_stop] at q2
                simp only [τ, evC_exit, evC_region, evC_seq, evC_cond, feedL, feedOf, runL, stepW, wantedV, Ev.step, opv, ev, getT, binV, intOp, put, constV, List.contains_nil, Nat.reduceEqDiff, if_true, if_false, decide_true, reduceCtorEq, give, V.hasSl, C.isSl, V.strip, C.strip, feeds, List.append_nil, List.nil_append, Bool.false_eq_true, List.getElem?_toArray, List.length_cons, constC, lenV, List.getElem?_cons_zero, List.getElem?_cons_succ, beq_self_eq_true, Bool.not_true, Bool.and_false, readV, List.drop_zero, List.length_nil, Nat.zero_add, Option.bind_some, List.drop_succ_cons, List.take_succ_cons, List.take_zero, Bool.not_true, cond_true, cond_false, List.set_cons_zero, Nat.reduceAdd, Ev.look, Ev.setF, Ev.setRange, List.cons_append, Nat.add_one_sub_one, agg_49, lay_78, und_49, encN_len, hw, hm, k1, d1]
                refine ⟨_, rfl, ?_⟩
                exact Round.out ⟨i, 0, rfl, by rw [q2]; rfl⟩
            · rw [inner4_go f true v o' (.inl rfl)] at q2
              simp only [τ, evC_skip, evC_region, evC_seq, evC_cond, evC_bseq, blockEx, feedL, feedOf, runL, stepW, wantedV, Ev.step, opv, ev, getT, binV, intOp, strOp, put, constV, List.map, List.contains_nil, Bool.or_self, Nat.reduceEqDiff, if_true, if_false, decide_true, reduceCtorEq, Nat.reduceBEq, give, V.hasSl, C.isSl, V.strip, C.strip, feeds, List.append_nil, List.nil_append, List.contains_cons, Bool.false_eq_true, List.getElem?_toArray, List.length_cons, constC, lenV, List.getElem?_cons_zero, List.getElem?_cons_succ, beq_self_eq_true, Bool.not_true, Bool.and_false, and_self, readV, List.drop_zero, fillE, V.cells, toDs, C.toD, List.replicate, List.length_nil, Nat.zero_add, cfg_arr, Option.bind_some, List.drop_succ_cons, List.take_succ_cons, List.take_zero, Bool.not_true, bb_tf, cond_true, List.set_cons_zero, Nat.lt_add_one, Nat.reduceAdd, Nat.reduceLeDiff, Nat.mul_one, convV, Ev.newObj, Ev.look, Ev.setF, Ev.setRange, pickV, List.cons_append, Int.reduceEq, Nat.add_one_sub_one, agg_49, esz_43, elemT_43, lay_78, zero_5, conv_3_5, conv_43_9, und_49, encN_len, hw, hm, k1, t1, t2, t3, t4, t5, strOf_one, kw]
              refine ⟨_, rfl, ?_⟩
              exact Round.again (i + 1, v / 10, UInt8.ofNat (48 + v % 10) :: o') rfl ⟨by omega, by rw [hf']; exact q2, by simp only; omega, by simp only [List.length_cons]; omega⟩ (by simp only; omega)
          · have k1 : ¬((i : Int) < 4) := by omega
            have e4 : 4 - i = 0 := by omega
            have e0 : inner4 0 more v o' = o' := rfl
            rw [e4, e0] at q2
            simp only [τ, evC_exit, evC_region, evC_seq, evC_cond, feedL, feedOf, runL, stepW, wantedV, Ev.step, opv, ev, getT, binV, intOp, put, constV, List.contains_nil, Nat.reduceEqDiff, if_true, if_false, decide_false, give, V.hasSl, C.isSl, V.strip, C.strip, feeds, List.append_nil, Bool.false_eq_true, List.getElem?_toArray, constC, List.getElem?_cons_zero, List.getElem?_cons_succ, Option.bind_some, bb_ft, pickV, k1]
            refine ⟨_, rfl, ?_⟩
            exact Round.out ⟨i, v, rfl, by rw [q2]; rfl⟩
        obtain ⟨ex, st, q1, i, v, rfl, rfl⟩ := hout2
        simp only [q1, τ, getT, Nat.reduceEqDiff, if_true, if_false, Bool.false_eq_true, hw]
        refine ⟨_, rfl, ?_⟩
        have := inner4_len 4 more u o
        exact Round.again (k + 1, inner4 4 more u o) rfl ⟨by omega, p2, by simp only; omega⟩ (by simp only; omega)
      · have h1 : ¬((k : Int) < ds.length) := by omega
        rw [List.drop_eq_nil_of_le hk] at p2
        simp only [textB] at p2
        obtain rfl : k = ds.length := by omega
        simp only [σ, evC_exit, evC_region, evC_seq, evC_cond, feedL, feedOf, runL, stepW, wantedV, Ev.step, opv, ev, getT, binV, intOp, put, List.contains_nil, Nat.reduceEqDiff, if_true, if_false, decide_false, reduceCtorEq, give, V.hasSl, C.isSl, V.strip, C.strip, feeds, List.append_nil, List.nil_append, Bool.false_eq_true, List.getElem?_toArray, List.length_cons, lenV, List.getElem?_cons_zero, List.getElem?_cons_succ, beq_self_eq_true, Bool.not_true, Bool.and_false, readV, List.drop_zero, List.length_nil, Nat.zero_add, List.drop_succ_cons, List.take_succ_cons, List.take_zero, Bool.not_true, List.set_cons_zero, Nat.reduceAdd, Ev.look, Ev.setF, Ev.setRange, List.cons_append, Nat.add_one_sub_one, Nat.sub_self, agg_49, lay_78, und_49, encN_len, h1]
        refine ⟨_, rfl, ?_⟩
        exact Round.out ⟨rfl, by rw [p2]; rfl⟩
    obtain ⟨ex, st, q1, rfl, rfl⟩ := hout
    have h5 : 1 + (textB ds []).length ≤ 9223372036854775807 := by omega
    cases neg
    · simp only [q1, σ, getT, Nat.reduceEqDiff, if_true, if_false, Bool.false_eq_true, List.length_cons, List.getElem?_cons_zero, List.drop_zero, Nat.zero_add, C.le, Ev.look]
    · simp only [q1, σ, getT, Nat.reduceEqDiff, if_true, if_false, List.nil_append, Bool.false_eq_true, List.length_cons, List.getElem?_cons_zero, List.drop_zero, List.length_nil, Nat.zero_add, C.le, Ev.look, List.cons_append, h5]

theorem textOf_ev (n : Int) (fr : Fr) (fs : Frames) (h1 : -9223372036854775808 ≤ n) (h2 : n ≤ 9223372036854775807) :
    ∃ kk z, callE cfg 40 [.c (.int .i64 n)] (fr :: fs) = some (some (.agg [.bool (numF n).1, .sl kk z (encN (numF n).2)]), fr :: fs) ∧
      ∀ k', callE cfg 39 [.agg [.bool (numF n).1, .sl k' z (encN (numF n).2)]] (fr :: fs) = some (some (.c (.str (itoaF n))), fr :: fs) := by
  obtain ⟨kk, z, hz, h⟩ := of_ev n fr fs h1 h2
  refine ⟨kk, z, h, fun k' => ?_⟩
  have := text_ev k' z (numF n).1 (numF n).2 fr fs hz (by have := limbs_len 5 n.natAbs; unfold numF; simp only; omega) (fun d hd => limbs_rng 5 n.natAbs d hd)
  rw [this, ← textF_eq n h1 h2]

/-- Numbers, with blanks between. -/
def putF (l : List Int) : List UInt8 := joinF [32] (l.map itoaF)

theorem joinF_snoc (sep : List UInt8) (x : List UInt8) : ∀ ss : List (List UInt8), joinF sep (ss ++ [x]) = (if ss.length = 0 then [] else joinF sep ss ++ sep) ++ x
  | [] => by simp [joinF]
  | [y] => by simp [joinF]
  | y :: w :: r => by
    have := joinF_snoc sep x (w :: r)
    rw [if_neg (by simp)] at this
    rw [if_neg (by simp)]
    simp only [List.cons_append, joinF] at this ⊢
    rw [this]
    simp

end Go.Proofs.YtbfllngekcckeaaGreatDoor
namespace Go.Proofs.YtbfllngekcckeaaGreatDoor
open Go.Ev
set_option linter.unusedSimpArgs false
set_option linter.unusedVariables false
set_option maxHeartbeats 400000
set_option maxRecDepth 4000

theorem joinF_take (sep : List UInt8) (ss : List (List UInt8)) {i : Nat} {x : List UInt8} (h : ss[i]? = some x) : joinF sep (ss.take (i + 1)) = (if i = 0 then [] else joinF sep (ss.take i) ++ sep) ++ x := by
  have hi := (List.getElem?_eq_some_iff.1 h).1
  rw [List.take_add_one, h]
  show joinF sep (ss.take i ++ [x]) = _
  rw [joinF_snoc]
  have : (ss.take i).length = i := by simp; omega
  rw [this]

theorem joinF_le (sep : List UInt8) (B : Nat) : ∀ ss : List (List UInt8), (∀ s ∈ ss, s.length ≤ B) → (joinF sep ss).length ≤ ss.length * (B + sep.length)
  | [], _ => by simp [joinF]
  | [x], h => by
    have := h x (by simp)
    simp only [joinF, List.length_cons, List.length_nil]
    omega
  | x :: y :: r, h => by
    have h1 := h x (by simp)
    have h2 := joinF_le sep B (y :: r) fun s hs => h s (by simp [hs])
    simp only [joinF, List.length_append, List.length_cons] at h2 ⊢
    rw [Nat.add_mul] at h2 ⊢
    rw [Nat.add_mul]
    omega

theorem putF_len (l : List Int) : (putF l).length ≤ l.length * 23 := by
  have := joinF_le [32] 22 (l.map itoaF) (fun s hs => by
    obtain ⟨n, _, rfl⟩ := List.mem_map.1 hs
    exact itoaF_len n)
  simpa [putF] using this

theorem refput14_ev (k : K) (l : List Int) (fr : Fr) (fs : Frames) (hl : l.length ≤ 1000000000) (hr : ∀ n ∈ l, -9223372036854775808 ≤ n ∧ n ≤ 9223372036854775807) :
    callE cfg 19 [.c (.sl k 1 (encN l))] (fr :: fs) = some (some (.c (.str (putF l))), fr :: fs) := by
  refine callE_code (fn := Tryz.f19) (rs := [.tmp 2]) (by kernel_rfl) (by kernel_rfl) (by kernel_rfl) rfl rfl rfl (by show 1 ≤ 24; decide) ?_
  simp only [resTmpsR, List.filterMap, evC_ret, evC_region, evC_seq, evC_loop, blockEx, feedL, feedOf, runL, stepW, wantedV, Ev.step, opv, ev, getT, put, params, constV, keep, List.map, List.contains_nil, Nat.reduceEqDiff, if_true, if_false, reduceCtorEq, give, V.hasSl, C.isSl, V.strip, C.strip, feeds, List.append_nil, List.nil_append, List.contains_cons, constC, Bool.or_false, beq_self_eq_true, List.map_cons, finishR, resVs, resV, freezeVs, freezeV, freezeC, live_19_0]
  let σ : Nat → S := fun i => { m := [(0, .c (.sl k 1 (encN l))), (3, .c (.str (putF (l.take i)))), (4, .c (.int .i64 i))], fs := [] :: fr :: fs }
  generalize hL : loopE cfg (callE cfg) itE 19 [2] _ _ _ = out
  have hout : ∃ ex st, out = some (ex, st) ∧ ex = .exit 0 ∧ st = σ l.length := by
    rw [← hL]
    refine loopE_inv σ (fun i => l.length - i) (fun i => i ≤ l.length) (fun ex st => ex = .exit 0 ∧ st = σ l.length) (fun i hi => ?_) 0 (Nat.zero_le _)
    rcases Nat.lt_or_ge i l.length with hi' | hi'
    · obtain ⟨n, g0, hd⟩ := drop_get hi'
      have h1 : (i : Int) < l.length := by omega
      have h2 : ((i : Int)).toNat = i := by omega
      have h3 : (0 : Int) ≤ i := by omega
      have he := encN_get g0
      have hn := hr n (List.mem_of_getElem? g0)
      have hw : IntKind.i64.wrap ((i : Int) + 1) = ((i + 1 : Nat) : Int) := by rw [wrap64] <;> omega
      obtain ⟨kk, z, e1, e2⟩ := textOf_ev n [] (fr :: fs) hn.1 hn.2
      have e3 := e2 kk
      have hlen := itoaF_len n
      have hput := putF_len (l.take i)
      rw [List.length_take] at hput
      have hnext : putF (l.take (i + 1)) = (if i = 0 then [] else putF (l.take i) ++ [32]) ++ itoaF n := by
        have := joinF_take [32] (l.map itoaF) (i := i) (x := itoaF n) (by simp [g0])
        unfold putF
        rw [List.map_take, List.map_take, this]
      by_cases h0 : i = 0
      · subst h0
        have d1 : decide (((0 : Nat) : Int) > 0) = false := rfl
        have e0 : putF [] = [] := rfl
        have t1 : (itoaF n).length ≤ 9223372036854775807 := by omega
        rw [if_pos rfl, List.nil_append] at hnext
        simp only [σ, evC_skip, evC_region, evC_seq, evC_cond, evC_bseq, blockEx, feedL, feedOf, runL, stepW, wantedV, Ev.step, opv, ev, getT, binV, intOp, strOp, put, constV, List.map, List.contains_nil, Bool.or_self, Nat.reduceEqDiff, if_true, if_false, decide_true, reduceCtorEq, Nat.reduceBEq, give, gives, V.hasSl, C.isSl, V.strip, C.strip, feeds, List.append_nil, List.nil_append, List.contains_cons, Bool.false_eq_true, List.getElem?_toArray, List.length_cons, constC, lenV, List.getElem?_cons_zero, Bool.and_true, and_self, readV, D.toC, List.drop_zero, List.length_nil, Nat.zero_add, List.take_zero, List.map_cons, Nat.lt_add_one, List.take_length, target, consOf, doCall, argsG, List.all_cons, List.all_nil, V.le, C.le, C.leL, Nat.add_one_sub_one, cons_39, sealed_39, cons_40, sealed_40, agg_3, esz_49, und_49, encN_len, h1, h2, h3, he, d1, e0, e1, e3, t1, hw]
        refine ⟨_, rfl, ?_⟩
        exact Round.again 1 (by simp only [hnext]; rfl) (by omega) (by omega)
      · have d1 : decide ((i : Int) > 0) = true := decide_eq_true (by omega)
        rw [if_neg h0] at hnext
        have t1 : (putF (l.take i)).length + (0 + 1) ≤ 9223372036854775807 := by omega
        have t1' : (putF (l.take i)).length + 1 ≤ 9223372036854775807 := by omega
        have t2 : (putF (l.take i) ++ [32]).length + (itoaF n).length ≤ 9223372036854775807 := by simp only [List.length_append, List.length_cons, List.length_nil]; omega
        simp only [σ, evC_skip, evC_region, evC_seq, evC_cond, evC_bseq, blockEx, feedL, feedOf, runL, stepW, wantedV, Ev.step, opv, ev, getT, binV, intOp, strOp, put, constV, List.map, List.contains_nil, Bool.or_self, Nat.reduceEqDiff, if_true, if_false, decide_true, reduceCtorEq, Nat.reduceBEq, give, gives, V.hasSl, C.isSl, V.strip, C.strip, feeds, List.append_nil, List.nil_append, List.contains_cons, Bool.false_eq_true, List.getElem?_toArray, List.length_cons, constC, lenV, List.getElem?_cons_zero, Bool.and_true, and_self, readV, D.toC, List.drop_zero, List.length_nil, Nat.zero_add, List.map_cons, Nat.lt_add_one, List.take_length, target, consOf, doCall, argsG, List.all_cons, List.all_nil, V.le, C.le, C.leL, Nat.add_one_sub_one, cons_39, sealed_39, cons_40, sealed_40, agg_3, esz_49, und_49, encN_len, h1, h2, h3, he, d1, e1, e3, t1, t2, hw]
        refine ⟨_, rfl, ?_⟩
        exact Round.again (i + 1) (by simp only [hnext]; rfl) (by omega) (by omega)
    · have h1 : ¬((i : Int) < l.length) := by omega
      obtain rfl : i = l.length := by omega
      simp only [σ, evC_exit, evC_region, evC_seq, evC_cond, feedL, feedOf, runL, stepW, wantedV, Ev.step, opv, ev, getT, binV, intOp, put, List.contains_nil, Nat.reduceEqDiff, if_true, if_false, decide_false, reduceCtorEq, give, V.hasSl, C.isSl, V.strip, C.strip, feeds, List.append_nil, Bool.false_eq_true, List.getElem?_toArray, lenV, List.getElem?_cons_zero, List.take_length, Nat.sub_self, und_49, encN_len, h1]
      refine ⟨_, rfl, ?_⟩
      exact Round.out ⟨rfl, rfl⟩
  obtain ⟨ex, st, q1, rfl, rfl⟩ := hout
  simp only [q1, σ, getT, Nat.reduceEqDiff, if_true, if_false, reduceCtorEq, Bool.false_eq_true, List.length_cons, List.take_length, C.le, List.take_length]

theorem put2_ev (p : Int × Int) (fr : Fr) (fs : Frames) (h : badP p = false) (k : K) : callE cfg 19 [.c (.sl k 1 [[.int .i64 p.1], [.int .i64 p.2]])] (fr :: fs) = some (some (.c (.str (ptW p))), fr :: fs) := by
  obtain ⟨a1, a2, a3, a4⟩ := badP_nums h
  have := refput14_ev k [p.1, p.2] fr fs (by simp) (fun n hn => by
    simp only [List.mem_cons, List.not_mem_nil, or_false] at hn
    rcases hn with rfl | rfl <;> omega)
  have e : putF [p.1, p.2] = ptW p := by simp [putF, joinF, ptW]
  rw [e] at this
  exact this

end Go.Proofs.YtbfllngekcckeaaGreatDoor
