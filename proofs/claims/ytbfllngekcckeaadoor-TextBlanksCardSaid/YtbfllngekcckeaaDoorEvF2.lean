/- May, step by step. -/
import Derived.Test.YtbfllngekcckeaaDoorEvF1
namespace Go.Proofs.YtbfllngekcckeaaDoor
open Go.Ev
set_option linter.unusedSimpArgs false
set_option linter.unusedVariables false
set_option maxHeartbeats 400000
set_option maxRecDepth 4000

def encP (p : Int × Int) : List D := [.int .i64 p.1, .int .i64 p.2]
def encR (r : List (Int × Int)) : List (List D) := r.map encP
def encG (g : List (List (Int × Int))) : List (List D) := g.map fun r => [.sl 2 (encR r)]
def encL (l : List (List (List (Int × Int)))) : List (List D) := l.map fun g => [.sl 1 (encG g)]
def badP (p : Int × Int) : Bool := !nearB p.1 || !nearB p.2

theorem encR_len (r : List (Int × Int)) : (encR r).length = r.length := by simp [encR]
theorem encG_len (g : List (List (Int × Int))) : (encG g).length = g.length := by simp [encG]
theorem encL_len (l : List (List (List (Int × Int)))) : (encL l).length = l.length := by simp [encL]
theorem encR_get {r : List (Int × Int)} {i : Nat} {p : Int × Int} (h : r[i]? = some p) : (encR r)[i]? = some [.int .i64 p.1, .int .i64 p.2] := by simp [encR, h, encP]
theorem encG_get {g : List (List (Int × Int))} {i : Nat} {r : List (Int × Int)} (h : g[i]? = some r) : (encG g)[i]? = some [.sl 2 (encR r)] := by simp [encG, h]
theorem encL_get {l : List (List (List (Int × Int)))} {i : Nat} {g : List (List (Int × Int))} (h : l[i]? = some g) : (encL l)[i]? = some [.sl 1 (encG g)] := by simp [encL, h]

/-- From the index on. -/
def idxB : Nat → List (Int × Int) → Int
  | _, [] => -1
  | i, p :: r => if badP p then i else idxB (i + 1) r

theorem idxB_any : ∀ (i : Nat) (r : List (Int × Int)), decide (idxB i r ≥ 0) = r.any badP
  | _, [] => rfl
  | i, p :: r => by
    simp only [idxB, List.any_cons]
    by_cases h : badP p = true
    · simp [h]
    · simpa [h] using idxB_any (i + 1) r

theorem drop_get {α : Type} {l : List α} {i : Nat} (h : i < l.length) : ∃ x, l[i]? = some x ∧ l.drop i = x :: l.drop (i + 1) := ⟨l[i], by simp [h], by rw [List.drop_eq_getElem_cons h]⟩

theorem index_ev (k : K) (r : List (Int × Int)) (fr : Fr) (fs : Frames) (hn : r.length < 9223372036854775807) :
    callE cfg 56 [.c (.sl k 2 (encR r)), .c (.fn (.func 42) [] [])] (fr :: fs) = some (some (.c (.int .i64 (idxB 0 r))), fr :: fs) := by
  refine callE_code (fn := Tryd.f56) (rs := [.tmp 4]) (by kernel_rfl) (by kernel_rfl) (by kernel_rfl) rfl rfl rfl (by show 2 ≤ 19; decide) ?_
  simp only [resTmpsR, List.filterMap, evC_ret, evC_region, evC_seq, evC_loop, blockEx, feedL, feedOf, runL, stepW, wantedV, Ev.step, opv, ev, getT, put, params, constV, keep, List.map, List.contains_nil, Nat.reduceEqDiff, if_true, if_false, reduceCtorEq, give, V.hasSl, C.isSl, V.strip, C.strip, feeds, List.append_nil, Bool.false_eq_true, List.getElem?_toArray, constC, lenV, List.getElem?_cons_zero, Nat.zero_add, List.map_cons, finishR, resVs, resV, freezeVs, freezeV, freezeC, Int.reduceNeg, live_56_0, und_46, encR_len]
  let σ : Nat → S := fun i => { m := [(0, .c (.sl k 2 (encR r))), (1, .c (.fn (.func 42) [] [])), (4, .c (.int .i64 0)), (7, .c (.int .i64 r.length)), (8, .c (.int .i64 i))], fs := [] :: fr :: fs }
  generalize hL : loopE cfg (callE cfg) itE 56 [4] _ _ _ = out
  have hout : ∃ ex s, out = some (ex, s) ∧ s.fs = [] :: fr :: fs ∧ ((ex = .exit 0 ∧ idxB 0 r = -1) ∨ (ex = .ret ∧ getT s.m 4 = .c (.int .i64 (idxB 0 r)))) := by
    rw [← hL]
    refine loopE_inv σ (fun i => r.length - i) (fun i => i ≤ r.length ∧ idxB 0 r = idxB i (r.drop i)) (fun ex s => s.fs = [] :: fr :: fs ∧ ((ex = .exit 0 ∧ idxB 0 r = -1) ∨ (ex = .ret ∧ getT s.m 4 = .c (.int .i64 (idxB 0 r))))) (fun i ⟨hi, hr⟩ => ?_) 0 ⟨by omega, rfl⟩
    rcases Nat.lt_or_ge i r.length with hi' | hi'
    · obtain ⟨p, h0, hd⟩ := drop_get hi'
      rw [hd] at hr
      have h1 : (i : Int) < r.length := by omega
      have h2 : ((i : Int)).toNat = i := by omega
      have h3 : (0 : Int) ≤ i := by omega
      have he := encR_get h0
      have h6 : IntKind.i64.wrap ((i : Int) + 1) = ((i + 1 : Nat) : Int) := by rw [wrap64] <;> omega
      have hm := mayin_ev p.1 p.2 [] (fr :: fs)
      have hm' : callE cfg 42 [.agg [.int .i64 p.1, .int .i64 p.2]] ([] :: fr :: fs) = some (some (.c (.bool (badP p))), [] :: fr :: fs) := hm
      simp only [idxB] at hr
      cases hb : badP p
      · rw [hb] at hr hm'
        simp only [σ, evC_skip, evC_region, evC_seq, evC_cond, evC_bseq, blockEx, feedL, feedOf, runL, stepW, wantedV, Ev.step, opv, ev, getT, binV, intOp, put, constV, List.map, List.contains_nil, Bool.or_self, Nat.reduceEqDiff, if_true, if_false, decide_true, reduceCtorEq, Nat.reduceBEq, give, gives, V.hasSl, C.isSl, V.strip, C.strip, feeds, List.append_nil, List.nil_append, List.contains_cons, Bool.false_eq_true, List.length_cons, constC, Bool.and_true, and_self, readV, D.toC, List.drop_zero, List.length_nil, Nat.zero_add, List.take_succ_cons, List.take_zero, List.map_cons, Nat.zero_lt_succ, Nat.reduceAdd, Nat.reduceLeDiff, target, consOf, doCall, argsG, List.all_cons, List.all_nil, V.le, C.le, C.leL, Int.reduceNeg, sz_48, agg_48, esz_46, encR_len, sealed_42, h1, h2, h3, he, h6, hm']
        exact ⟨_, rfl, Round.again (i + 1) rfl ⟨by omega, hr⟩ (by omega)⟩
      · rw [hb] at hr hm'
        simp only [σ, evC_skip, evC_ret, evC_region, evC_seq, evC_cond, evC_bseq, blockEx, feedL, feedOf, runL, stepW, wantedV, Ev.step, opv, ev, getT, binV, intOp, put, List.map, List.contains_nil, Bool.or_self, Nat.reduceEqDiff, if_true, if_false, decide_true, reduceCtorEq, Nat.reduceBEq, give, gives, V.hasSl, C.isSl, V.strip, C.strip, feeds, List.append_nil, List.nil_append, List.contains_cons, Bool.false_eq_true, List.length_cons, Bool.or_false, beq_self_eq_true, Bool.and_true, and_self, readV, D.toC, List.drop_zero, List.length_nil, Nat.zero_add, List.take_succ_cons, List.take_zero, List.map_cons, Nat.zero_lt_succ, Nat.reduceAdd, Nat.reduceLeDiff, target, consOf, doCall, argsG, List.all_cons, List.all_nil, V.le, C.le, C.leL, Int.reduceNeg, sz_48, agg_48, esz_46, encR_len, sealed_42, h1, h2, h3, he, hm']
        exact ⟨_, rfl, Round.ret ⟨rfl, .inr ⟨rfl, by rw [hr]; rfl⟩⟩⟩
    · have h1 : ¬((i : Int) < r.length) := by omega
      rw [List.drop_eq_nil_of_le hi'] at hr
      simp only [σ, evC_exit, evC_region, evC_seq, evC_cond, runL, stepW, wantedV, Ev.step, opv, ev, getT, binV, intOp, put, Nat.reduceEqDiff, if_true, if_false, decide_false, reduceCtorEq, Int.reduceNeg, h1]
      exact ⟨_, rfl, Round.out ⟨rfl, .inl ⟨rfl, hr⟩⟩⟩
  obtain ⟨ex, ⟨m, fs'⟩, h1, h2, h3 | h3⟩ := hout
  · obtain ⟨rfl, h4⟩ := h3
    simp only at h2
    subst h2
    rw [h1, h4]
    simp only [getT, if_true, List.length_cons, C.le, Int.reduceNeg]
  · obtain ⟨rfl, h4⟩ := h3
    simp only at h2 h4
    subst h2
    rw [h1]
    simp only [if_true, List.length_cons, C.le, h4]

theorem contains_ev (k : K) (r : List (Int × Int)) (fr : Fr) (fs : Frames) (hn : r.length < 9223372036854775807) :
    callE cfg 41 [.c (.sl k 2 (encR r)), .c (.fn (.func 42) [] [])] (fr :: fs) = some (some (.c (.bool (r.any badP))), fr :: fs) := by
  refine callE_code (fn := Tryd.f41) (rs := [.tmp 4]) (by kernel_rfl) (by kernel_rfl) (by kernel_rfl) rfl rfl rfl (by show 2 ≤ 9; decide) ?_
  have h := index_ev k.strip r [] (fr :: fs) hn
  simp only [resTmpsR, List.filterMap, evC_ret, evC_region, evC_seq, feedL, feedOf, runL, stepW, wantedV, Ev.step, opv, ev, getT, binV, intOp, put, params, constV, List.map, List.contains_nil, Bool.or_self, Nat.reduceEqDiff, if_true, if_false, reduceCtorEq, Nat.reduceBEq, give, gives, V.hasSl, C.isSl, V.strip, C.strip, feeds, List.append_nil, List.nil_append, List.contains_cons, Bool.false_eq_true, List.length_cons, constC, Bool.or_false, beq_self_eq_true, Bool.and_true, Nat.zero_add, kstrip_strip, finishR, resVs, resV, freezeVs, freezeV, freezeC, target, consOf, doCall, argsG, List.all_cons, List.all_nil, V.le, C.le, C.leL, cons_56, sealed_56, h, idxB_any]

end Go.Proofs.YtbfllngekcckeaaDoor
