/- The reference's take, told. -/
import Derived.Test.YtbfllngekcckeaaDoorEvF12
namespace Go.Proofs.YtbfllngekcckeaaDoor
open Go.Ev
set_option linter.unusedSimpArgs false
set_option linter.unusedVariables false
set_option maxHeartbeats 400000
set_option maxRecDepth 4000

/-- The place of what is left; below 0: spoiled. -/
def atZ (bs : List UInt8) (s : St) : Int := if s.2 = true then -1 else ((bs.length - s.1.length : Nat) : Int)
def Suf (bs : List UInt8) (s : St) : Prop := s.2 = false → ∃ pre, bs = pre ++ s.1

theorem bytesOf_get {bs : List UInt8} {i : Nat} {b : UInt8} (h : bs[i]? = some b) : (bytesOf bs)[i]? = some [.int .u8 b.toNat] := by simp [bytesOf, h]

theorem Suf.num {bs : List UInt8} {s : St} (h : Suf bs s) : Suf bs (numB s).2 := by
  obtain ⟨r, bad⟩ := s
  intro hb
  unfold numB at hb ⊢
  split at hb
  · cases hb
  · rename_i a b c d r' heq
    cases heq
    obtain ⟨pre, rfl⟩ := h rfl
    exact ⟨pre ++ [a, b, c, d], by simp⟩
  · cases hb

theorem take_bad (k : K) (bs r : List UInt8) (fr : Fr) (fs : Frames) :
    callE cfg 27 [.c (.sl k 1 (bytesOf bs)), .c (.int .i64 (-1))] (fr :: fs) = some (some (.tup [.c (.int .i64 0), .c (.int .i64 (-1))]), fr :: fs) := by
  refine callE_code (fn := Tryd.f27) (rs := [.tmp 4, .tmp 5]) (by kernel_rfl) (by kernel_rfl) (by kernel_rfl) rfl rfl rfl (by show 2 ≤ 52; decide) ?_
  simp only [resTmpsR, List.filterMap, evC_ret, evC_region, evC_seq, evC_cond, feedL, feedOf, runL, stepW, wantedV, Ev.step, opv, ev, getT, binV, intOp, put, params, constV, List.map, List.contains_nil, Nat.reduceEqDiff, if_true, if_false, decide_true, reduceCtorEq, give, V.hasSl, C.isSl, V.strip, C.strip, feeds, List.append_nil, Bool.false_eq_true, List.getElem?_toArray, List.length_cons, constC, List.getElem?_cons_zero, List.getElem?_cons_succ, Nat.zero_add, Option.bind_some, bb_tf, finishR, resVs, resV, freezeVs, freezeV, freezeC, C.le, pickV, Int.reduceNeg, Int.reduceLT]

theorem take_short (k : K) (bs : List UInt8) (n : Nat) (fr : Fr) (fs : Frames) (hb : bs.length ≤ 1000000) (hn : n ≤ bs.length) (h : bs.length < n + 4) :
    callE cfg 27 [.c (.sl k 1 (bytesOf bs)), .c (.int .i64 n)] (fr :: fs) = some (some (.tup [.c (.int .i64 0), .c (.int .i64 (-1))]), fr :: fs) := by
  refine callE_code (fn := Tryd.f27) (rs := [.tmp 4, .tmp 5]) (by kernel_rfl) (by kernel_rfl) (by kernel_rfl) rfl rfl rfl (by show 2 ≤ 52; decide) ?_
  have h1 : ¬((n : Int) < 0) := by omega
  have h2 : IntKind.i64.wrap ((n : Int) + 4) = ((n + 4 : Nat) : Int) := by rw [wrap64] <;> omega
  have h3 : (((n + 4 : Nat) : Int) > (bs.length : Int)) := by omega
  simp only [resTmpsR, List.filterMap, evC_ret, evC_region, evC_seq, evC_cond, feedL, feedOf, runL, stepW, wantedV, Ev.step, opv, ev, getT, binV, intOp, put, params, constV, List.map, List.contains_nil, Nat.reduceEqDiff, if_true, if_false, decide_true, decide_false, reduceCtorEq, give, V.hasSl, C.isSl, V.strip, C.strip, feeds, List.append_nil, Bool.false_eq_true, List.getElem?_toArray, List.length_cons, constC, lenV, List.getElem?_cons_zero, List.getElem?_cons_succ, beq_self_eq_true, Nat.zero_add, Option.bind_some, cond_false, finishR, resVs, resV, freezeVs, freezeV, freezeC, C.le, Int.reduceNeg, und_25, bytesOf_len, h1, h2, h3]

theorem dec4_lo {a b c e : UInt8} (h : (a.toNat : Int) * 16777216 + (b.toNat : Int) * 65536 + (c.toNat : Int) * 256 + (e.toNat : Int) < 2147483648) : dec4 a b c e = (a.toNat : Int) * 16777216 + (b.toNat : Int) * 65536 + (c.toNat : Int) * 256 + (e.toNat : Int) := by
  unfold dec4
  split <;> omega
theorem dec4_hi {a b c e : UInt8} (h : ¬((a.toNat : Int) * 16777216 + (b.toNat : Int) * 65536 + (c.toNat : Int) * 256 + (e.toNat : Int) < 2147483648)) : dec4 a b c e = (a.toNat : Int) * 16777216 + (b.toNat : Int) * 65536 + (c.toNat : Int) * 256 + (e.toNat : Int) - 4294967296 := by
  unfold dec4
  split <;> omega

theorem decR_eq {nA nB nC nE : Int} (ha : 0 ≤ nA ∧ nA < 256) (hb : 0 ≤ nB ∧ nB < 256) (hc : 0 ≤ nC ∧ nC < 256) (he : 0 ≤ nE ∧ nE < 256) : IntKind.i64.wrap (IntKind.i64.wrap (IntKind.i64.wrap (IntKind.i64.wrap (IntKind.i64.wrap nA * 16777216) + IntKind.i64.wrap (IntKind.i64.wrap nB * 65536)) + IntKind.i64.wrap (IntKind.i64.wrap nC * 256)) + IntKind.i64.wrap nE) = nA * 16777216 + nB * 65536 + nC * 256 + nE := by
  rw [wrap64 (n := nA) (by omega) (by omega), wrap64 (n := nB) (by omega) (by omega), wrap64 (n := nC) (by omega) (by omega), wrap64 (n := nE) (by omega) (by omega), wrap64 (n := nA * 16777216) (by omega) (by omega), wrap64 (n := nB * 65536) (by omega) (by omega), wrap64 (n := nC * 256) (by omega) (by omega),
    wrap64 (n := nA * 16777216 + nB * 65536) (by omega) (by omega), wrap64 (n := nA * 16777216 + nB * 65536 + nC * 256) (by omega) (by omega), wrap64 (n := nA * 16777216 + nB * 65536 + nC * 256 + nE) (by omega) (by omega)]

theorem take_full (k : K) (bs : List UInt8) (n : Nat) (a b c e : UInt8) (fr : Fr) (fs : Frames) (hb : bs.length ≤ 1000000) (hn : n + 4 ≤ bs.length) (g0 : bs[n]? = some a) (g1 : bs[n + 1]? = some b) (g2 : bs[n + 2]? = some c) (g3 : bs[n + 3]? = some e) :
    callE cfg 27 [.c (.sl k 1 (bytesOf bs)), .c (.int .i64 n)] (fr :: fs) = some (some (.tup [.c (.int .i64 (dec4 a b c e)), .c (.int .i64 (n + 4 : Nat))]), fr :: fs) := by
  have ha : (0 : Int) ≤ a.toNat ∧ (a.toNat : Int) < 256 := by have := a.toNat_lt; omega
  have hb' : (0 : Int) ≤ b.toNat ∧ (b.toNat : Int) < 256 := by have := b.toNat_lt; omega
  have hc : (0 : Int) ≤ c.toNat ∧ (c.toNat : Int) < 256 := by have := c.toNat_lt; omega
  have he : (0 : Int) ≤ e.toNat ∧ (e.toNat : Int) < 256 := by have := e.toNat_lt; omega
  have lo := @dec4_lo a b c e
  have hi := @dec4_hi a b c e
  have e0 := bytesOf_get g0
  have e1 := bytesOf_get g1
  have e2 := bytesOf_get g2
  have e3 := bytesOf_get g3
  generalize dec4 a b c e = dd at lo hi ⊢
  generalize (a.toNat : Int) = nA at ha lo hi e0
  generalize (b.toNat : Int) = nB at hb' lo hi e1
  generalize (c.toNat : Int) = nC at hc lo hi e2
  generalize (e.toNat : Int) = nE at he lo hi e3
  clear g0 g1 g2 g3
  refine callE_code (fn := Tryd.f27) (rs := [.tmp 4, .tmp 5]) (by kernel_rfl) (by kernel_rfl) (by kernel_rfl) rfl rfl rfl (by show 2 ≤ 52; decide) ?_
  have h1 : ¬((n : Int) < 0) := by omega
  have h0 : (0 : Int) ≤ n := by omega
  have h2 : IntKind.i64.wrap ((n : Int) + 4) = ((n + 4 : Nat) : Int) := by rw [wrap64] <;> omega
  have h2a : IntKind.i64.wrap ((n : Int) + 1) = ((n + 1 : Nat) : Int) := by rw [wrap64] <;> omega
  have h2b : IntKind.i64.wrap ((n : Int) + 2) = ((n + 2 : Nat) : Int) := by rw [wrap64] <;> omega
  have h2c : IntKind.i64.wrap ((n : Int) + 3) = ((n + 3 : Nat) : Int) := by rw [wrap64] <;> omega
  have h3 : ¬(((n + 4 : Nat) : Int) > (bs.length : Int)) := by omega
  have i0 : (n : Int) < bs.length := by omega
  have i1 : ((n + 1 : Nat) : Int) < bs.length := by omega
  have i2 : ((n + 2 : Nat) : Int) < bs.length := by omega
  have i3 : ((n + 3 : Nat) : Int) < bs.length := by omega
  have j1 : (0 : Int) ≤ ((n + 1 : Nat) : Int) := by omega
  have j2 : (0 : Int) ≤ ((n + 2 : Nat) : Int) := by omega
  have j3 : (0 : Int) ≤ ((n + 3 : Nat) : Int) := by omega
  have hF := decR_eq ha hb' hc he
  by_cases hd : nA * 16777216 + nB * 65536 + nC * 256 + nE < 2147483648
  · rw [lo hd]
    rw [← hF] at hd ⊢
    have z : ¬(IntKind.i64.wrap (IntKind.i64.wrap (IntKind.i64.wrap (IntKind.i64.wrap (IntKind.i64.wrap nA * 16777216) + IntKind.i64.wrap (IntKind.i64.wrap nB * 65536)) + IntKind.i64.wrap (IntKind.i64.wrap nC * 256)) + IntKind.i64.wrap nE) ≥ 2147483648) := by omega
    clear lo hi hF
    simp only [resTmpsR, List.filterMap, evC_skip, evC_ret, evC_region, evC_draw, evC_seq, evC_cond, feedL, feedOf, runL, stepW, wantedV, Ev.step, opv, ev, getT, binV, intOp, strOp, put, params, constV, List.map, List.contains_nil, Bool.or_self, Nat.reduceEqDiff, if_true, if_false, decide_false, reduceCtorEq, Nat.reduceBEq, give, V.hasSl, C.isSl, V.strip, C.strip, feeds, List.append_nil, List.nil_append, List.contains_cons, Bool.false_eq_true, List.getElem?_toArray, List.length_cons, constC, lenV, List.getElem?_cons_zero, List.getElem?_cons_succ, Bool.or_false, Bool.or_true, beq_self_eq_true, Bool.false_and, and_self, readV, D.toC, List.drop_zero, List.length_nil, Nat.zero_add, Option.bind_some, cond_false, List.map_cons, Nat.lt_add_one, Nat.reduceAdd, finishR, resVs, resV, freezeVs, freezeV, freezeC, convV, Ev.setRange, List.cons_append, Int.reduceNeg, Int.toNat_natCast, strict_27_3, agg_5, esz_25, conv_5_3, und_25, bytesOf_len, h0, h1, h2, h2a, h3, i0, i1, j1, e0, e1]
    simp only [getT, List.map, Nat.reduceEqDiff, if_true, if_false, decide_false, reduceCtorEq, V.strip, C.strip, Bool.false_eq_true, List.length_cons, and_self, D.toC, List.drop_zero, List.map_cons, Nat.lt_add_one, C.le, Int.toNat_natCast, bytesOf_len, h2, h2b, h2c, i2, i3, j2, j3, e2, e3, z]
  · rw [hi hd]
    have z2 : IntKind.i64.wrap (IntKind.i64.wrap (IntKind.i64.wrap (IntKind.i64.wrap (IntKind.i64.wrap (IntKind.i64.wrap nA * 16777216) + IntKind.i64.wrap (IntKind.i64.wrap nB * 65536)) + IntKind.i64.wrap (IntKind.i64.wrap nC * 256)) + IntKind.i64.wrap nE) - 4294967296) = IntKind.i64.wrap (IntKind.i64.wrap (IntKind.i64.wrap (IntKind.i64.wrap (IntKind.i64.wrap nA * 16777216) + IntKind.i64.wrap (IntKind.i64.wrap nB * 65536)) + IntKind.i64.wrap (IntKind.i64.wrap nC * 256)) + IntKind.i64.wrap nE) - 4294967296 := by
      rw [hF, wrap64] <;> omega
    rw [← hF] at hd ⊢
    have z : IntKind.i64.wrap (IntKind.i64.wrap (IntKind.i64.wrap (IntKind.i64.wrap (IntKind.i64.wrap nA * 16777216) + IntKind.i64.wrap (IntKind.i64.wrap nB * 65536)) + IntKind.i64.wrap (IntKind.i64.wrap nC * 256)) + IntKind.i64.wrap nE) ≥ 2147483648 := by omega
    clear lo hi hF
    simp only [resTmpsR, List.filterMap, evC_skip, evC_ret, evC_region, evC_draw, evC_seq, evC_cond, feedL, feedOf, runL, stepW, wantedV, Ev.step, opv, ev, getT, binV, intOp, strOp, put, params, constV, List.map, List.contains_nil, Bool.or_self, Nat.reduceEqDiff, if_true, if_false, decide_false, reduceCtorEq, Nat.reduceBEq, give, V.hasSl, C.isSl, V.strip, C.strip, feeds, List.append_nil, List.nil_append, List.contains_cons, Bool.false_eq_true, List.getElem?_toArray, List.length_cons, constC, lenV, List.getElem?_cons_zero, List.getElem?_cons_succ, Bool.or_false, Bool.or_true, beq_self_eq_true, Bool.false_and, and_self, readV, D.toC, List.drop_zero, List.length_nil, Nat.zero_add, Option.bind_some, cond_false, List.map_cons, Nat.lt_add_one, Nat.reduceAdd, finishR, resVs, resV, freezeVs, freezeV, freezeC, convV, Ev.setRange, List.cons_append, Int.reduceNeg, Int.toNat_natCast, strict_27_3, agg_5, esz_25, conv_5_3, und_25, bytesOf_len, h0, h1, h2, h2a, h3, i0, i1, j1, e0, e1]
    simp only [getT, List.map, Nat.reduceEqDiff, if_true, if_false, decide_true, reduceCtorEq, V.strip, C.strip, Bool.false_eq_true, List.length_cons, and_self, D.toC, List.drop_zero, List.map_cons, Nat.lt_add_one, C.le, Int.toNat_natCast, bytesOf_len, h2, h2b, h2c, i2, i3, j2, j3, e2, e3, z, z2]

theorem take_ev (k : K) (bs : List UInt8) (s : St) (fr : Fr) (fs : Frames) (hb : bs.length ≤ 1000000) (hs : Suf bs s) :
    callE cfg 27 [.c (.sl k 1 (bytesOf bs)), .c (.int .i64 (atZ bs s))] (fr :: fs) = some (some (.tup [.c (.int .i64 (numB s).1), .c (.int .i64 (atZ bs (numB s).2))]), fr :: fs) := by
  obtain ⟨r, bad⟩ := s
  cases bad
  · obtain ⟨pre, rfl⟩ := hs rfl
    have hat : atZ (pre ++ r) (r, false) = ((pre.length : Nat) : Int) := by simp [atZ]
    rw [hat]
    have short : r.length < 4 → numB (r, false) = (0, (r, true)) := fun h => by
      match r, h with
      | [], _ => rfl
      | [_], _ => rfl
      | [_, _], _ => rfl
      | [_, _, _], _ => rfl
      | _ :: _ :: _ :: _ :: r, h => simp only [List.length_cons] at h; omega
    by_cases h4 : r.length < 4
    · rw [short h4, take_short k (pre ++ r) pre.length fr fs hb (by simp) (by simp; omega)]
      rfl
    · match r, h4 with
      | a :: b :: c :: e :: r', _ =>
        rw [take_full k (pre ++ a :: b :: c :: e :: r') pre.length a b c e fr fs hb (by simp) (by simp) (by simp) (by simp) (by simp)]
        have : atZ (pre ++ a :: b :: c :: e :: r') (r', false) = ((pre.length + 4 : Nat) : Int) := by simp [atZ]; omega
        simp only [numB, this]
      | [], h => simp at h
      | [_], h => simp at h
      | [_, _], h => simp at h
      | [_, _, _], h => simp at h
  · exact take_bad k bs r fr fs

theorem rtold_ev (k : K) (l : List Pg) (bad : Bool) (fr : Fr) (fs : Frames) (hs : Small l) :
    callE cfg 28 [.c (.sl k 1 (encL l)), .c (.bool bad)] (fr :: fs) = some (some (toldV k l bad), fr :: fs) := by
  refine callE_code (fn := Tryd.f28) (rs := [.tmp 4, .tmp 5]) (by kernel_rfl) (by kernel_rfl) (by kernel_rfl) rfl rfl rfl (by show 2 ≤ 11; decide) ?_
  have h1 := refmay_ev k.strip l [] (fr :: fs) hs.len hs.parts
  cases bad
  · cases hm : mayL 0 l
    · rw [hm] at h1
      simp only [resTmpsR, List.filterMap, evC_skip, evC_ret, evC_region, evC_seq, evC_cond, feedL, feedOf, runL, stepW, wantedV, Ev.step, opv, ev, getT, unV, put, params, constV, List.map, List.contains_nil, Nat.reduceEqDiff, if_true, if_false, reduceCtorEq, give, gives, V.hasSl, C.isSl, V.strip, C.strip, feeds, List.append_nil, List.nil_append, Bool.false_eq_true, List.length_cons, constC, Bool.not_false, Bool.and_true, Nat.zero_add, kstrip_nil, kstrip_strip, finishR, resVs, resV, freezeVs, freezeV, freezeC, target, consOf, doCall, argsG, List.all_cons, List.all_nil, V.le, C.le, Nat.add_one_sub_one, cons_12, sealed_12, esz_22, h1, toldV, hm]
    · rw [hm] at h1
      simp only [resTmpsR, List.filterMap, evC_skip, evC_ret, evC_region, evC_seq, evC_cond, feedL, feedOf, runL, stepW, wantedV, Ev.step, opv, ev, getT, unV, put, params, constV, List.map, List.contains_nil, Bool.or_self, Nat.reduceEqDiff, if_true, if_false, reduceCtorEq, Nat.reduceBEq, give, gives, V.hasSl, C.isSl, V.strip, C.strip, feeds, List.append_nil, List.nil_append, List.contains_cons, Bool.false_eq_true, List.length_cons, constC, Bool.or_false, beq_self_eq_true, Bool.not_true, Bool.and_true, Nat.zero_add, Bool.not_true, kstrip_strip, finishR, resVs, resV, freezeVs, freezeV, freezeC, target, consOf, doCall, argsG, List.all_cons, List.all_nil, V.le, C.le, Nat.add_one_sub_one, cons_12, sealed_12, esz_22, h1, toldV, hm]
  · simp only [resTmpsR, List.filterMap, evC_ret, evC_region, evC_seq, evC_cond, feedL, feedOf, runL, stepW, wantedV, Ev.step, opv, ev, getT, put, params, constV, List.map, List.contains_nil, Nat.reduceEqDiff, if_true, if_false, reduceCtorEq, give, V.hasSl, C.isSl, V.strip, C.strip, feeds, List.append_nil, Bool.false_eq_true, List.length_cons, constC, Nat.zero_add, kstrip_nil, finishR, resVs, resV, freezeVs, freezeV, freezeC, C.le, esz_22, toldV]

end Go.Proofs.YtbfllngekcckeaaDoor
