/- The reference's Pack. Numbers out of bytes. -/
import Derived.Test.YtbfllngekcckeaaGreatDoorEvF6
namespace Go.Proofs.YtbfllngekcckeaaGreatDoor
open Go.Ev
set_option linter.unusedSimpArgs false
set_option linter.unusedVariables false
set_option maxHeartbeats 400000
set_option maxRecDepth 4000

theorem nearB_le {n : Int} (h : nearB n = true) : -134217728 ≤ n ∧ n ≤ 134217728 := by
  simp only [nearB, Bool.and_eq_true, decide_eq_true_eq] at h
  omega

theorem badP_le {p : Int × Int} (h : badP p = false) : -2147483648 ≤ p.1 ∧ p.1 < 2147483648 ∧ -2147483648 ≤ p.2 ∧ p.2 < 2147483648 := by
  simp only [badP, Bool.or_eq_false_iff, Bool.not_eq_false'] at h
  have h1 := nearB_le h.1
  have h2 := nearB_le h.2
  omega

end Go.Proofs.YtbfllngekcckeaaGreatDoor
namespace Go.Proofs.YtbfllngekcckeaaGreatDoor
open Go.Ev
set_option linter.unusedSimpArgs false
set_option linter.unusedVariables false
set_option maxHeartbeats 400000
set_option maxRecDepth 4000

theorem bytesOf_nil : bytesOf [] = [] := rfl
theorem bytesOf_cons (a : UInt8) (r : List UInt8) : bytesOf (a :: r) = [.int .u8 a.toNat] :: bytesOf r := rfl
theorem bytesOf_len (r : List UInt8) : (bytesOf r).length = r.length := by simp [bytesOf]
theorem bytesOf_drop (n : Nat) (r : List UInt8) : (bytesOf r).drop n = bytesOf (r.drop n) := by simp [bytesOf, List.map_drop]

def dec4 (a b c d : UInt8) : Int :=
  if a.toNat * 16777216 + b.toNat * 65536 + c.toNat * 256 + d.toNat < 2147483648 then ((a.toNat * 16777216 + b.toNat * 65536 + c.toNat * 256 + d.toNat : Nat) : Int)
  else ((a.toNat * 16777216 + b.toNat * 65536 + c.toNat * 256 + d.toNat : Nat) : Int) - 4294967296

theorem dec4_le (a b c d : UInt8) : -2147483648 ≤ dec4 a b c d ∧ dec4 a b c d < 2147483648 := by
  have := a.toNat_lt
  have := b.toNat_lt
  have := c.toNat_lt
  have := d.toNat_lt
  unfold dec4
  split <;> omega

theorem or_nat (a b c d : Nat) (ha : a < 256) (hb : b < 256) (hc : c < 256) (hd : d < 256) : (((a * 16777216 ||| b * 65536) ||| c * 256) ||| d) = a * 16777216 + b * 65536 + c * 256 + d := by
  have h1 : a * 16777216 ||| b * 65536 = a * 16777216 + b * 65536 := by
    have := Nat.two_pow_add_eq_or_of_lt (i := 24) (b := b * 65536) (by omega) a
    rw [show 2 ^ 24 * a = a * 16777216 by omega] at this
    exact this.symm
  have h2 : (a * 16777216 + b * 65536) ||| c * 256 = a * 16777216 + b * 65536 + c * 256 := by
    have := Nat.two_pow_add_eq_or_of_lt (i := 16) (b := c * 256) (by omega) (a * 256 + b)
    rw [show 2 ^ 16 * (a * 256 + b) = a * 16777216 + b * 65536 by omega] at this
    exact this.symm
  have h3 : (a * 16777216 + b * 65536 + c * 256) ||| d = a * 16777216 + b * 65536 + c * 256 + d := by
    have := Nat.two_pow_add_eq_or_of_lt (i := 8) (b := d) (by omega) (a * 65536 + b * 256 + c)
    rw [show 2 ^ 8 * (a * 65536 + b * 256 + c) = a * 16777216 + b * 65536 + c * 256 by omega] at this
    exact this.symm
  rw [h1, h2, h3]

theorem i32_wrap (n : Int) : IntKind.i32.wrap n = (n + 2147483648) % 4294967296 - 2147483648 := by
  simp [IntKind.wrap, IntKind.bits, IntKind.signed]
  split <;> omega

theorem bv_wrap (n : Int) : BitVec.ofInt 32 (IntKind.i32.wrap n) = BitVec.ofInt 32 n := by
  apply BitVec.eq_of_toNat_eq
  rw [BitVec.toNat_ofInt, BitVec.toNat_ofInt, i32_wrap]
  congr 1
  show _ % ((2 ^ 32 : Nat) : Int) = n % ((2 ^ 32 : Nat) : Int)
  omega

theorem bv_nat (n : Nat) : BitVec.ofInt 32 (n : Int) = BitVec.ofNat 32 n := by
  apply BitVec.eq_of_toNat_eq
  rw [BitVec.toNat_ofInt, BitVec.toNat_ofNat]
  omega

def or32 (x y : Int) : Int := IntKind.i32.wrap (BitVec.ofInt 32 x ||| BitVec.ofInt 32 y).toNat
theorem intOp_or32 (x y : Int) : intOp .or .i32 x y = some (.int .i32 (or32 x y)) := rfl
theorem shl24 (x : Int) : shiftOp .shl .i32 x 24 = some (.int .i32 (IntKind.i32.wrap (x * 16777216))) := by
  simp only [shiftOp, Int.reduceLT, if_false]
  congr 3
theorem shl16 (x : Int) : shiftOp .shl .i32 x 16 = some (.int .i32 (IntKind.i32.wrap (x * 65536))) := by
  simp only [shiftOp, Int.reduceLT, if_false]
  congr 3
theorem shl8 (x : Int) : shiftOp .shl .i32 x 8 = some (.int .i32 (IntKind.i32.wrap (x * 256))) := by
  simp only [shiftOp, Int.reduceLT, if_false]
  congr 3
theorem intOp_lss (k : IntKind) (x y : Int) : intOp .lss k x y = some (.bool (decide (x < y))) := rfl

/-- The number as the program puts it together. -/
def decP (a b c d : UInt8) : Int :=
  let x := IntKind.i32.wrap (IntKind.i32.wrap a.toNat * 16777216)
  let y := IntKind.i32.wrap (IntKind.i32.wrap b.toNat * 65536)
  let z := IntKind.i32.wrap (IntKind.i32.wrap c.toNat * 256)
  or32 (or32 (or32 x y) z) (IntKind.i32.wrap d.toNat)

theorem bv_or (x y : BitVec 32) : BitVec.ofNat 32 (x ||| y).toNat = x ||| y := by simp

theorem decP_eq (a b c d : UInt8) : decP a b c d = dec4 a b c d := by
  have ha := a.toNat_lt
  have hb := b.toNat_lt
  have hc := c.toNat_lt
  have hd := d.toNat_lt
  have w8 : ∀ x : UInt8, IntKind.i32.wrap x.toNat = x.toNat := fun x => by
    have := x.toNat_lt
    rw [i32_wrap]; omega
  have e1 : (a.toNat : Int) * 16777216 = ((a.toNat * 16777216 : Nat) : Int) := by omega
  have e2 : (b.toNat : Int) * 65536 = ((b.toNat * 65536 : Nat) : Int) := by omega
  have e3 : (c.toNat : Int) * 256 = ((c.toNat * 256 : Nat) : Int) := by omega
  unfold decP or32
  simp only [w8, bv_wrap, bv_nat, e1, e2, e3, bv_or]
  rw [i32_wrap, BitVec.toNat_or, BitVec.toNat_or, BitVec.toNat_or]
  simp only [BitVec.toNat_ofNat]
  rw [Nat.mod_eq_of_lt (by omega), Nat.mod_eq_of_lt (by omega), Nat.mod_eq_of_lt (by omega), Nat.mod_eq_of_lt (by omega), or_nat _ _ _ _ ha hb hc hd]
  unfold dec4
  split <;> omega

abbrev St := List UInt8 × Bool
def cellsB (s : St) : List C := [.sl .ro 1 (bytesOf s.1), .bool s.2]
def numB : St → Int × St
  | (r, true) => (0, (r, true))
  | (a :: b :: c :: d :: r, false) => (dec4 a b c d, (r, false))
  | (r, false) => (0, (r, true))

theorem look_lt : ∀ {F : Frames} {d k : Nat} {cs : List C}, Ev.look F d k = some cs → d < F.length
  | f :: F, d, k, cs, h => by
    simp only [Ev.look] at h
    split at h
    · simp; omega
    · have := look_lt h
      simp; omega

theorem setF_len : ∀ (F : Frames) (d k : Nat) (o : List C), (Ev.setF F d k o).length = F.length
  | [], _, _, _ => rfl
  | f :: F, d, k, o => by
    simp only [Ev.setF]
    split
    · rfl
    · simp [setF_len F d k o]

theorem look_setF : ∀ {F : Frames} {d k : Nat} {cs : List C} (o : List C), Ev.look F d k = some cs → Ev.look (Ev.setF F d k o) d k = some o
  | f :: F, d, k, cs, o, h => by
    simp only [Ev.look] at h
    simp only [Ev.setF]
    split at h
    · rename_i hd
      rw [if_pos hd]
      obtain ⟨hk, _⟩ := List.getElem?_eq_some_iff.1 h
      simp [Ev.look, hd, hk]
    · rename_i hd
      rw [if_neg hd]
      simp only [Ev.look, setF_len, hd, if_false]
      exact look_setF o h

theorem setF_setF : ∀ (F : Frames) (d k : Nat) (o o' : List C), Ev.setF (Ev.setF F d k o) d k o' = Ev.setF F d k o'
  | [], _, _, _, _ => rfl
  | f :: F, d, k, o, o' => by
    simp only [Ev.setF]
    split
    · rename_i hd
      simp [Ev.setF, hd]
    · rename_i hd
      simp only [Ev.setF, setF_len, hd, if_false, setF_setF F d k o o']

theorem setF_same : ∀ {F : Frames} {d k : Nat} {cs : List C}, Ev.look F d k = some cs → Ev.setF F d k cs = F
  | f :: F, d, k, cs, h => by
    simp only [Ev.look] at h
    simp only [Ev.setF]
    split at h
    · rename_i hd
      rw [if_pos hd]
      obtain ⟨hk, he⟩ := List.getElem?_eq_some_iff.1 h
      rw [← he]
      simp
    · rename_i hd
      rw [if_neg hd, setF_same h]

theorem num_bad (F : Frames) (n d k : Nat) (bs : List UInt8) (hF : F.length = n + 1) (hl : Ev.look F d k = some (cellsB (bs, true))) :
    callE cfg 46 [.c (.ptr d k 0)] F = some (some (.c (.int .i64 (numB (bs, true)).1)), Ev.setF F d k (cellsB (numB (bs, true)).2)) := by
  refine callE_code (fn := Tryz.f46) (rs := [.tmp 2]) (by kernel_rfl) (by kernel_rfl) (by kernel_rfl) rfl rfl rfl (by show 1 ≤ 63; decide) ?_
  have hlt := look_lt hl
  rw [hF] at hlt
  have hne : ¬(d = n + 1) := by omega
  have hss := setF_setF F d k
  have hls := fun o => look_setF (o := o) hl
  have hlen : ∀ o, (Ev.setF F d k o).length = n + 1 := fun o => by rw [setF_len, hF]
  simp only [cellsB] at hl
  simp only [resTmpsR, List.filterMap, evC_ret, evC_region, evC_seq, evC_cond, feedL, feedOf, runL, stepW, wantedV, Ev.step, opv, ev, getT, put, params, constV, List.contains_nil, Nat.reduceEqDiff, if_true, if_false, reduceCtorEq, give, V.hasSl, C.isSl, V.strip, C.strip, feeds, List.append_nil, List.nil_append, Bool.false_eq_true, List.getElem?_toArray, List.length_cons, constC, List.getElem?_cons_zero, List.getElem?_cons_succ, Bool.and_true, Bool.false_and, and_self, readV, List.drop_zero, V.cells, List.length_nil, Nat.zero_add, Option.bind_some, List.drop_succ_cons, List.take_succ_cons, List.take_zero, bb_tf, List.getElem?_nil, Nat.reduceAdd, finishR, resVs, resV, freezeVs, freezeV, freezeC, C.le, C.leL, Ev.look, Ev.setF, Ev.setRange, pickV, List.cons_append, Nat.le_refl, Nat.add_one_sub_one, sz_4, agg_4, lay_70, hl, hlen, hF, hne, numB, cellsB]

theorem num_short (F : Frames) (n d k : Nat) (bs : List UInt8) (hb : bs.length < 4) (hF : F.length = n + 1) (hl : Ev.look F d k = some (cellsB (bs, false))) :
    callE cfg 46 [.c (.ptr d k 0)] F = some (some (.c (.int .i64 (numB (bs, false)).1)), Ev.setF F d k (cellsB (numB (bs, false)).2)) := by
  refine callE_code (fn := Tryz.f46) (rs := [.tmp 2]) (by kernel_rfl) (by kernel_rfl) (by kernel_rfl) rfl rfl rfl (by show 1 ≤ 63; decide) ?_
  have hlt := look_lt hl
  rw [hF] at hlt
  have hne : ¬(d = n + 1) := by omega
  have hss := setF_setF F d k
  have hls := fun o => look_setF (o := o) hl
  have hlen : ∀ o, (Ev.setF F d k o).length = n + 1 := fun o => by rw [setF_len, hF]
  have f0 : ((bs.length : Nat) : Int) < 4 := by omega
  have hn : numB (bs, false) = (0, (bs, true)) := by
    match bs, hb with
    | [], _ => rfl
    | [_], _ => rfl
    | [_, _], _ => rfl
    | [_, _, _], _ => rfl
    | _ :: _ :: _ :: _ :: r, hb => simp only [List.length_cons] at hb; omega
  simp only [cellsB] at hl
  simp only [resTmpsR, List.filterMap, evC_ret, evC_region, evC_seq, evC_cond, feedL, feedOf, runL, stepW, wantedV, Ev.step, opv, ev, getT, binV, intOp, put, params, constV, List.contains_nil, Nat.reduceEqDiff, if_true, if_false, decide_true, reduceCtorEq, give, V.hasSl, C.isSl, V.strip, C.strip, feeds, List.append_nil, List.nil_append, Bool.false_eq_true, List.getElem?_toArray, List.length_cons, constC, lenV, List.getElem?_cons_zero, List.getElem?_cons_succ, beq_self_eq_true, Bool.and_true, Bool.false_and, and_self, readV, List.drop_zero, V.cells, List.length_nil, Nat.zero_add, Option.bind_some, List.drop_succ_cons, List.take_succ_cons, List.take_zero, cond_false, List.getElem?_nil, kstrip_ro, Nat.reduceAdd, finishR, resVs, resV, freezeVs, freezeV, freezeC, C.le, C.leL, Ev.look, Ev.setF, Ev.setRange, List.cons_append, Nat.le_refl, Nat.add_one_sub_one, sz_4, agg_4, agg_43, lay_70, und_43, hl, hlen, hF, hne, hn, cellsB, bytesOf_len, f0]

theorem num_full (F : Frames) (n d k : Nat) (a b c e : UInt8) (r : List UInt8) (hF : F.length = n + 1) (hl : Ev.look F d k = some (cellsB (a :: b :: c :: e :: r, false))) :
    callE cfg 46 [.c (.ptr d k 0)] F = some (some (.c (.int .i64 (numB (a :: b :: c :: e :: r, false)).1)), Ev.setF F d k (cellsB (numB (a :: b :: c :: e :: r, false)).2)) := by
  refine callE_code (fn := Tryz.f46) (rs := [.tmp 2]) (by kernel_rfl) (by kernel_rfl) (by kernel_rfl) rfl rfl rfl (by show 1 ≤ 63; decide) ?_
  have hlt := look_lt hl
  rw [hF] at hlt
  have hne : ¬(d = n + 1) := by omega
  have hss := setF_setF F d k
  have hls := fun o => look_setF (o := o) hl
  have hlen : ∀ o, (Ev.setF F d k o).length = n + 1 := fun o => by rw [setF_len, hF]
  have m1 : min 24 32 = 24 := rfl
  have m2 : min 16 32 = 16 := rfl
  have m3 : min 8 32 = 8 := rfl
  simp only [cellsB, bytesOf_cons] at hl
  have g0 : (0 : Int) < (((bytesOf r).length + 1 + 1 + 1 + 1 : Nat) : Int) := by omega
  have g1 : (1 : Int) < (((bytesOf r).length + 1 + 1 + 1 + 1 : Nat) : Int) := by omega
  have g2 : (2 : Int) < (((bytesOf r).length + 1 + 1 + 1 + 1 : Nat) : Int) := by omega
  have g3 : (3 : Int) < (((bytesOf r).length + 1 + 1 + 1 + 1 : Nat) : Int) := by omega
  have g4 : (4 : Int) ≤ (((bytesOf r).length + 1 + 1 + 1 + 1 : Nat) : Int) := by omega
  have g5 : ¬((((bytesOf r).length + 1 + 1 + 1 + 1 : Nat) : Int) < 4) := by omega
  have g6 : (0 : Int) ≤ (((bytesOf r).length + 1 + 1 + 1 + 1 : Nat) : Int) := by omega
  have hw : IntKind.i64.wrap (dec4 a b c e) = dec4 a b c e := by
    have := dec4_le a b c e
    rw [wrap64] <;> omega
  have hdec := decP_eq a b c e
  simp only [decP] at hdec
  simp only [resTmpsR, List.filterMap, evC_skip, evC_ret, evC_region, evC_draw, evC_seq, evC_cond, feedL, feedOf, runL, stepW, wantedV, Ev.step, opv, ev, getT, binV, strOp, put, params, constV, List.map, List.contains_nil, Bool.or_self, Nat.reduceEqDiff, if_true, if_false, decide_false, reduceCtorEq, Nat.reduceBEq, give, V.hasSl, C.isSl, V.strip, C.strip, feeds, List.append_nil, List.nil_append, List.contains_cons, Bool.false_eq_true, List.getElem?_toArray, List.length_cons, constC, lenV, List.getElem?_cons_zero, List.getElem?_cons_succ, Bool.or_false, beq_self_eq_true, Bool.false_and, and_true, true_and, and_self, readV, D.toC, List.drop_zero, V.cells, List.length_nil, Nat.zero_add, Option.bind_some, List.drop_succ_cons, List.take_succ_cons, List.take_zero, cond_false, List.getElem?_nil, List.map_cons, kstrip_ro, Nat.lt_add_one, Nat.reduceAdd, finishR, resVs, resV, freezeVs, freezeV, freezeC, convV, Ev.look, Ev.setF, Ev.setRange, sliceV, boundV, asNat, List.cons_append, Int.reduceLE, Int.reduceToNat, Int.toNat_natCast, Option.map_some, Option.map_none, Int.le_refl, Nat.add_one_sub_one, strict_46_4, sz_5, sz_43, agg_4, agg_5, agg_43, esz_43, lay_70, conv_5_21, conv_21_3, und_43, hl, hF, hne, numB, cellsB, g0, g1, g2, g5, intOp_or32, intOp_lss, shl24, shl16, shl8]
  simp only [getT, List.map, Nat.reduceEqDiff, if_true, if_false, reduceCtorEq, List.nil_append, Bool.false_eq_true, List.length_cons, List.getElem?_cons_zero, List.getElem?_cons_succ, Bool.and_true, and_self, D.toC, List.drop_zero, List.length_nil, Nat.zero_add, List.drop_succ_cons, List.take_zero, List.getElem?_nil, List.map_cons, kstrip_ro, Nat.reduceAdd, Nat.reduceLeDiff, C.le, C.leL, Ev.look, Ev.setF, List.cons_append, hl, hls, hss, hlen, hF, hne, g3, g4, g6, intOp_or32, hdec, hw]

theorem num_ev (F : Frames) (n d k : Nat) (s : St) (hF : F.length = n + 1) (hl : Ev.look F d k = some (cellsB s)) :
    callE cfg 46 [.c (.ptr d k 0)] F = some (some (.c (.int .i64 (numB s).1)), Ev.setF F d k (cellsB (numB s).2)) := by
  obtain ⟨bs, bad⟩ := s
  cases bad
  · match bs, hl with
    | [], hl => exact num_short F n d k _ (by simp) hF hl
    | [_], hl => exact num_short F n d k _ (by simp) hF hl
    | [_, _], hl => exact num_short F n d k _ (by simp) hF hl
    | [_, _, _], hl => exact num_short F n d k _ (by simp) hF hl
    | a :: b :: c :: e :: r, hl => exact num_full F n d k a b c e r hF hl
  · exact num_bad F n d k bs hF hl

end Go.Proofs.YtbfllngekcckeaaGreatDoor
