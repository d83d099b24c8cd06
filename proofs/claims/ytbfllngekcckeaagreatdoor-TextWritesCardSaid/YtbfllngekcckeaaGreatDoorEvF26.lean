/- Read. Blanks beside brackets and commas change nothing of a text's signs; a written text's bytes, and how many there are. -/
import Derived.Test.YtbfllngekcckeaaGreatDoorEvF24
import Derived.Test.YtbfllngekcckeaaGreatDoorEvF10
namespace Go.Proofs.YtbfllngekcckeaaGreatDoor
open Go.Ev
set_option linter.unusedSimpArgs false
set_option linter.unusedVariables false
set_option maxHeartbeats 400000
set_option maxRecDepth 4000

theorem signsF_len : ∀ (s last : List UInt8), (signsF last s).length ≤ s.length + (if last = [] then 0 else 1)
  | [], last => by
    simp only [signsF]
    split <;> simp
  | b :: r, last => by
    have h0 := signsF_len r []
    have h1 := signsF_len r (last ++ [b])
    simp only [if_true, Nat.add_zero] at h0
    rw [if_neg (by simp)] at h1
    simp only [signsF, List.length_cons]
    split
    · split
      · omega
      · simp only [List.length_cons]; omega
    · split
      · split
        · simp only [List.length_cons]; omega
        · simp only [List.length_cons]; omega
      · split <;> omega

theorem signsF_words : ∀ (s last : List UInt8), ∀ t ∈ signsF last s, t.length ≤ last.length + s.length
  | [], last, t, ht => by
    simp only [signsF] at ht
    split at ht
    · cases ht
    · simp only [List.mem_singleton] at ht
      subst ht
      omega
  | b :: r, last, t, ht => by
    have h0 := signsF_words r []
    have h1 := signsF_words r (last ++ [b])
    simp only [List.length_nil, Nat.zero_add, List.length_append, List.length_cons] at h0 h1
    simp only [signsF] at ht
    simp only [List.length_cons]
    split at ht
    · split at ht
      · have := h0 t ht; omega
      · rcases List.mem_cons.1 ht with rfl | ht
        · omega
        · have := h0 t ht; omega
    · split at ht
      · split at ht
        · rcases List.mem_cons.1 ht with rfl | ht
          · simp only [List.length_cons, List.length_nil]; omega
          · have := h0 t ht; omega
        · rcases List.mem_cons.1 ht with rfl | ht
          · omega
          · rcases List.mem_cons.1 ht with rfl | ht
            · simp only [List.length_cons, List.length_nil]; omega
            · have := h0 t ht; omega
      · have := h1 t ht; omega

theorem signsF_ok {s : List UInt8} (h : s.length ≤ 1000000000) : OkT (signsF [] s) := by
  refine ⟨?_, fun t ht => ?_⟩
  · have := signsF_len s []
    simp only [if_true] at this
    omega
  · have := signsF_words s [] t ht
    simp only [List.length_nil] at this
    omega

theorem rowsLoop_all {α : Type} {one : Rs → α × Rs} {P : α → Prop} (h : ∀ s, OkT s.1 → P (one s).1) (hs : ∀ s, (one s).2.1 <:+ s.1) : ∀ (n : Nat) (out : List α) (s : Rs), OkT s.1 → (∀ x ∈ out, P x) → ∀ x ∈ (rowsLoop one n out s).1, P x
  | 0, _, s, _, _ => fun x hx => by simp [rowsLoop] at hx
  | n + 1, out, s, ho, hp => by
    have h1 := ho.suf ((nextB_suf (one s).2).trans (hs s))
    have h2 : ∀ x ∈ out ++ [(one s).1], P x := fun x hx => by
      simp only [List.mem_append, List.mem_singleton] at hx
      rcases hx with hx | rfl
      · exact hp x hx
      · exact h s ho
    simp only [rowsLoop]
    split
    · exact fun x hx => by cases hx
    · split
      · exact h2
      · split
        · exact rowsLoop_all h hs n _ _ h1 h2
        · exact rowsLoop_all h hs n _ _ h1 h2

theorem rowsB_all {α : Type} {one : Rs → α × Rs} {P : α → Prop} (h : ∀ s, OkT s.1 → P (one s).1) (hs : ∀ s, (one s).2.1 <:+ s.1) (s : Rs) (ho : OkT s.1) : ∀ x ∈ (rowsB one s).1, P x :=
  rowsLoop_all h hs _ _ _ (ho.suf (isB_suf [40] s)) fun x hx => by cases hx

theorem lB_small (s : Rs) (ho : OkT s.1) : Small (lB s).1 := by
  have hr : ∀ s : Rs, OkT s.1 → (rgB s).1.length < 1152921504606846976 := fun s ho => by
    have := rowsB_many (one := ptB) s ho
    unfold rgB
    simp only
    split
    · simp
    · simp only [List.length_take]; omega
  have hg : ∀ s : Rs, OkT s.1 → (pgB s).1.length < 1152921504606846976 ∧ ∀ r ∈ (pgB s).1, r.length < 1152921504606846976 := fun s ho => by
    have := rowsB_many (one := rgB) s ho
    exact ⟨by unfold pgB; omega, rowsB_all hr rgB_suf s ho⟩
  have := rowsB_many (one := pgB) s ho
  exact ⟨by unfold lB; omega, rowsB_all hg pgB_suf s ho⟩

theorem signs_prim (s : List UInt8) (fs : Frames) (h1 : s.all (· < 128) = true) (h2 : s.length ≤ 1000000000) : callE cfg 28 [.c (.str s)] fs = some (some (.c (.sl .ro 1 (encW (signsF [] s)))), fs) :=
  callE_prim (p := primSigns) rfl (by
    unfold primSigns
    simp only
    rw [if_pos ⟨h1, by omega⟩]
    rfl)

/-- What was told, where none were read the slice may be one of no size. -/
def toldZ (z : Nat) (k : K) (l : List Pg) (bad : Bool) : V :=
  match bad with
  | true => .tup [.c (.sl .nil 1 []), .c (.int .i64 200)]
  | false => match mayL 0 l with
    | true => .tup [.c (.sl k.strip z (encL l)), .c (.int .i64 0)]
    | false => .tup [.c (.sl .nil 1 []), .c (.int .i64 201)]

theorem told0_ev (bad : Bool) (fr : Fr) (fs : Frames) : callE cfg 30 [.c (.sl .nil 0 []), .c (.bool bad)] (fr :: fs) = some (some (toldZ 0 .nil [] bad), fr :: fs) := by
  cases bad
  · exact callE_at (n := 6) (by kernel_rfl)
  · exact callE_at (n := 6) (by kernel_rfl)

theorem old0_ev (fr : Fr) (fs : Frames) : callE cfg 14 [.c (.sl .nil 0 [])] (fr :: fs) = some (some (.c (.sl .nil 1 [])), fr :: fs) := callE_at (n := 6) (by kernel_rfl)

theorem read_ev (s : List UInt8) (fr : Fr) (fs : Frames) (h1 : s.all (· < 128) = true) (h2 : s.length ≤ 1000000000) :
    ∃ z kk, (z = 1 ∨ (z = 0 ∧ kk = .nil ∧ (readB (signsF [] s)).1 = [])) ∧ callE cfg 13 [.c (.str s)] (fr :: fs) = some (some (toldZ z kk (readB (signsF [] s)).1 (readB (signsF [] s)).2), fr :: fs) := by
  have hp := signs_prim s ([] :: fr :: fs) h1 h2
  have hok := signsF_ok h2
  generalize signsF [] s = ts at hp hok
  have hi := is_ev ([[.sl .ro 1 (encW ts), .bool false]] :: fr :: fs) (fs.length + 1) (fs.length + 1) 0 multiT (ts, false) rfl (by simp [Ev.look, cellsT])
  have hok1 := hok.suf (isB_suf multiT (ts, false))
  unfold readB
  generalize isB multiT (ts, false) = s1 at hi hok1 ⊢
  have hr := rows32_ev ([cellsT s1] :: fr :: fs) (fs.length + 1) (fs.length + 1) 0 s1 rfl (by simp [Ev.look]) hok1
  change callE cfg 31 _ _ = some (some (.c (.sl (if (lB s1).1.length = 0 then .nil else .own) 1 (encL (lB s1).1))), Ev.setF _ _ _ (cellsT (lB s1).2)) at hr
  have hsm := lB_small s1 hok1
  obtain ⟨ts1, bad1⟩ := s1
  simp only [cellsT, multiT] at hi hr
  simp only
  have z1 : ∀ x : Nat, (((x + 1 : Nat) : Int) == 1) = decide (x = 0) := fun x => by
    rw [Bool.eq_iff_iff]; simp; omega
  by_cases hE : ts1 = [emptyT]
  · subst hE
    rw [if_pos ⟨rfl, rfl⟩]
    have ht := told0_ev bad1 [] (fr :: fs)
    have z0 := esz0
    refine ⟨0, .nil, .inr ⟨rfl, rfl, rfl⟩, ?_⟩
    refine callE_code (fn := Tryz.f13) (rs := [.tmp 2, .tmp 3]) (by kernel_rfl) (by kernel_rfl) (by kernel_rfl) rfl rfl rfl (by show 1 ≤ 52; decide) ?_
    have e1 : encW [emptyT] = [[.str emptyT]] := rfl
    have e2 : encL [] = [] := rfl
    have z : (((0 + 1 : Nat) : Int) == 1) = true := rfl
    have z2 : (0 : Int) < ((0 + 1 : Nat) : Int) := by omega
    have e3 : (emptyT == [69, 77, 80, 84, 89]) = true := rfl
    rw [e1] at hi
    cases bad1
    · have hm : mayL 0 [] = true := rfl
      simp only [toldZ, hm, e2] at ht
      simp only [resTmpsR, List.filterMap, evC_ret, evC_region, evC_seq, evC_cond, feedL, feedOf, runL, stepW, wantedV, Ev.step, opv, ev, getT, binV, intOp, strOp, put, params, constV, List.map, List.contains_nil, Bool.or_self, Nat.reduceEqDiff, if_true, if_false, reduceCtorEq, Nat.reduceBEq, give, gives, V.hasSl, C.isSl, V.strip, C.strip, feeds, List.append_nil, List.nil_append, List.contains_cons, Bool.false_eq_true, List.getElem?_toArray, List.length_cons, constC, lenV, List.getElem?_cons_zero, List.getElem?_cons_succ, Bool.or_false, Bool.or_true, beq_self_eq_true, Bool.not_true, Bool.and_false, Bool.and_true, and_self, readV, D.toC, List.drop_zero, fillC, V.cells, List.length_nil, Nat.zero_add, cfg_esc, Option.bind_some, List.drop_succ_cons, List.take_succ_cons, List.take_zero, Bool.not_true, cond_true, List.set_cons_zero, List.map_cons, kstrip_ro, kstrip_nil, Nat.lt_add_one, Nat.reduceAdd, Nat.reduceLeDiff, finishR, resVs, resV, freezeVs, freezeV, freezeC, target, consOf, doCall, argsG, List.all_cons, List.all_nil, V.le, C.le, C.leL, Ev.newObj, Ev.look, Ev.setF, Ev.setRange, List.cons_append, Int.reduceToNat, Int.le_refl, Nat.add_one_sub_one, cons_30, sealed_30, cons_28, sealed_28, cons_29, sealed_29, agg_4, agg_9, agg_58, esz_26, esz_58, lay_61, layB_61, zero_61, und_58, hp, hi, z, z2, z0, e3, ht, toldZ, hm, e2]
    · simp only [toldZ] at ht
      simp only [resTmpsR, List.filterMap, evC_ret, evC_region, evC_seq, evC_cond, feedL, feedOf, runL, stepW, wantedV, Ev.step, opv, ev, getT, binV, intOp, strOp, put, params, constV, List.map, List.contains_nil, Bool.or_self, Nat.reduceEqDiff, if_true, if_false, reduceCtorEq, Nat.reduceBEq, give, gives, V.hasSl, C.isSl, V.strip, C.strip, feeds, List.append_nil, List.nil_append, List.contains_cons, Bool.false_eq_true, List.getElem?_toArray, List.length_cons, constC, lenV, List.getElem?_cons_zero, List.getElem?_cons_succ, Bool.or_false, Bool.or_true, beq_self_eq_true, Bool.not_true, Bool.and_false, Bool.and_true, and_self, readV, D.toC, List.drop_zero, fillC, V.cells, List.length_nil, Nat.zero_add, cfg_esc, Option.bind_some, List.drop_succ_cons, List.take_succ_cons, List.take_zero, Bool.not_true, cond_true, List.set_cons_zero, List.map_cons, kstrip_ro, kstrip_nil, Nat.lt_add_one, Nat.reduceAdd, Nat.reduceLeDiff, finishR, resVs, resV, freezeVs, freezeV, freezeC, target, consOf, doCall, argsG, List.all_cons, List.all_nil, V.le, C.le, C.leL, Ev.newObj, Ev.look, Ev.setF, Ev.setRange, List.cons_append, Int.reduceToNat, Int.le_refl, Nat.add_one_sub_one, cons_30, sealed_30, cons_28, sealed_28, cons_29, sealed_29, agg_4, agg_9, agg_58, esz_26, esz_58, lay_61, layB_61, zero_61, und_58, hp, hi, z, z2, z0, e3, ht, toldZ]
  · rw [if_neg (by
      rintro ⟨a1, a2⟩
      apply hE
      match ts1, a1, a2 with
      | [w], _, a2 => simpa using a2)]
    generalize lB (ts1, bad1) = x at hr hsm ⊢
    obtain ⟨l, ts2, bad2⟩ := x
    simp only at hr hsm ⊢
    have ht := fun bad => told_ev (if l.length = 0 then K.nil else K.own).strip l bad [] (fr :: fs) hsm.len hsm.parts
    refine ⟨1, (if l.length = 0 then K.nil else K.own).strip, .inl rfl, ?_⟩
    refine callE_code (fn := Tryz.f13) (rs := [.tmp 2, .tmp 3]) (by kernel_rfl) (by kernel_rfl) (by kernel_rfl) rfl rfl rfl (by show 1 ≤ 52; decide) ?_
    have hg : decide (((ts2.length : Nat) : Int) > 0) = decide (ts2.length > 0) := by congr 1; exact propext (by omega)
    have hbad := ht (bad2 || decide (ts2.length > 0))
    by_cases hone : ∃ w, ts1 = [w]
    · obtain ⟨w, rfl⟩ := hone
      have hw : (w == [69, 77, 80, 84, 89]) = false := by
        rw [beq_eq_false_iff_ne]
        rintro rfl
        exact hE rfl
      have e1 : encW [w] = [[.str w]] := rfl
      have z : (((0 + 1 : Nat) : Int) == 1) = true := rfl
      have z2 : (0 : Int) < ((0 + 1 : Nat) : Int) := by omega
      rw [e1] at hi hr
      cases bad2
      · cases hd : decide (ts2.length > 0)
        · simp only [hd, Bool.or_self] at hbad
          cases hm : mayL 0 l
          · simp only [toldV, hm] at hbad
            simp only [resTmpsR, List.filterMap, evC_skip, evC_ret, evC_region, evC_seq, evC_cond, feedL, feedOf, runL, stepW, wantedV, Ev.step, opv, ev, getT, binV, intOp, strOp, put, params, constV, List.map, List.contains_nil, Bool.or_self, Nat.reduceEqDiff, if_true, if_false, reduceCtorEq, Nat.reduceBEq, give, gives, V.hasSl, C.isSl, V.strip, C.strip, feeds, List.append_nil, List.nil_append, List.contains_cons, Bool.false_eq_true, List.getElem?_toArray, List.length_cons, constC, lenV, List.getElem?_cons_zero, List.getElem?_cons_succ, Bool.or_false, Bool.or_true, beq_self_eq_true, Bool.not_true, Bool.and_false, Bool.and_true, and_self, readV, D.toC, List.drop_zero, fillC, V.cells, List.length_nil, Nat.zero_add, cfg_esc, Option.bind_some, List.drop_succ_cons, List.take_succ_cons, List.take_zero, Bool.not_true, cond_true, cond_false, List.set_cons_zero, List.map_cons, kstrip_ro, kstrip_nil, kstrip_strip, Nat.lt_add_one, Nat.reduceAdd, Nat.reduceLeDiff, finishR, resVs, resV, freezeVs, freezeV, freezeC, target, consOf, doCall, argsG, List.all_cons, List.all_nil, V.le, C.le, C.leL, Ev.newObj, Ev.look, Ev.setF, Ev.setRange, List.cons_append, Int.reduceToNat, Int.le_refl, Nat.add_one_sub_one, cons_30, sealed_30, cons_28, sealed_28, cons_29, sealed_29, cons_31, sealed_31, agg_4, agg_9, agg_58, esz_26, esz_58, lay_61, layB_61, zero_61, und_58, toldZ, hp, hi, hr, z, z2, hw, hg, hd, hbad, hm, encW_len]
          · simp only [toldV, hm] at hbad
            simp only [resTmpsR, List.filterMap, evC_skip, evC_ret, evC_region, evC_seq, evC_cond, feedL, feedOf, runL, stepW, wantedV, Ev.step, opv, ev, getT, binV, intOp, strOp, put, params, constV, List.map, List.contains_nil, Bool.or_self, Nat.reduceEqDiff, if_true, if_false, reduceCtorEq, Nat.reduceBEq, give, gives, V.hasSl, C.isSl, V.strip, C.strip, feeds, List.append_nil, List.nil_append, List.contains_cons, Bool.false_eq_true, List.getElem?_toArray, List.length_cons, constC, lenV, List.getElem?_cons_zero, List.getElem?_cons_succ, Bool.or_false, Bool.or_true, beq_self_eq_true, Bool.not_true, Bool.and_false, Bool.and_true, and_self, readV, D.toC, List.drop_zero, fillC, V.cells, List.length_nil, Nat.zero_add, cfg_esc, Option.bind_some, List.drop_succ_cons, List.take_succ_cons, List.take_zero, Bool.not_true, cond_true, cond_false, List.set_cons_zero, List.map_cons, kstrip_ro, kstrip_strip, Nat.lt_add_one, Nat.reduceAdd, Nat.reduceLeDiff, finishR, resVs, resV, freezeVs, freezeV, freezeC, target, consOf, doCall, argsG, List.all_cons, List.all_nil, V.le, C.le, C.leL, Ev.newObj, Ev.look, Ev.setF, Ev.setRange, List.cons_append, Int.reduceToNat, Int.le_refl, Nat.add_one_sub_one, cons_30, sealed_30, cons_28, sealed_28, cons_29, sealed_29, cons_31, sealed_31, agg_4, agg_9, agg_58, esz_26, esz_58, lay_61, layB_61, zero_61, und_58, toldZ, hp, hi, hr, z, z2, hw, hg, hd, hbad, hm, encW_len]
        · simp only [hd, Bool.false_or] at hbad
          simp only [toldV] at hbad
          simp only [resTmpsR, List.filterMap, evC_skip, evC_ret, evC_region, evC_seq, evC_cond, feedL, feedOf, runL, stepW, wantedV, Ev.step, opv, ev, getT, binV, intOp, strOp, put, params, constV, List.map, List.contains_nil, Bool.or_self, Nat.reduceEqDiff, if_true, if_false, reduceCtorEq, Nat.reduceBEq, give, gives, V.hasSl, C.isSl, V.strip, C.strip, feeds, List.append_nil, List.nil_append, List.contains_cons, Bool.false_eq_true, List.getElem?_toArray, List.length_cons, constC, lenV, List.getElem?_cons_zero, List.getElem?_cons_succ, Bool.or_false, Bool.or_true, beq_self_eq_true, Bool.not_true, Bool.and_false, Bool.and_true, and_self, readV, D.toC, List.drop_zero, fillC, V.cells, List.length_nil, Nat.zero_add, cfg_esc, Option.bind_some, List.drop_succ_cons, List.take_succ_cons, List.take_zero, Bool.not_true, cond_true, cond_false, List.set_cons_zero, List.map_cons, kstrip_ro, kstrip_nil, kstrip_strip, Nat.lt_add_one, Nat.reduceAdd, Nat.reduceLeDiff, finishR, resVs, resV, freezeVs, freezeV, freezeC, target, consOf, doCall, argsG, List.all_cons, List.all_nil, V.le, C.le, C.leL, Ev.newObj, Ev.look, Ev.setF, Ev.setRange, List.cons_append, Int.reduceToNat, Int.le_refl, Nat.add_one_sub_one, cons_30, sealed_30, cons_28, sealed_28, cons_29, sealed_29, cons_31, sealed_31, agg_4, agg_9, agg_58, esz_26, esz_58, lay_61, layB_61, zero_61, und_58, toldZ, hp, hi, hr, z, z2, hw, hg, hd, hbad, encW_len]
      · simp only [Bool.true_or] at hbad
        simp only [toldV] at hbad
        simp only [resTmpsR, List.filterMap, evC_skip, evC_ret, evC_region, evC_seq, evC_cond, feedL, feedOf, runL, stepW, wantedV, Ev.step, opv, ev, getT, binV, intOp, strOp, put, params, constV, List.map, List.contains_nil, Bool.or_self, Nat.reduceEqDiff, if_true, if_false, reduceCtorEq, Nat.reduceBEq, give, gives, V.hasSl, C.isSl, V.strip, C.strip, feeds, List.append_nil, List.nil_append, List.contains_cons, Bool.false_eq_true, List.getElem?_toArray, List.length_cons, constC, lenV, List.getElem?_cons_zero, List.getElem?_cons_succ, Bool.or_false, Bool.or_true, beq_self_eq_true, Bool.not_true, Bool.and_false, Bool.and_true, and_self, readV, D.toC, List.drop_zero, fillC, V.cells, List.length_nil, Nat.zero_add, cfg_esc, Option.bind_some, List.drop_succ_cons, List.take_succ_cons, List.take_zero, Bool.true_or, Bool.not_true, bb_tf, cond_true, List.set_cons_zero, List.map_cons, kstrip_ro, kstrip_nil, kstrip_strip, Nat.lt_add_one, Nat.reduceAdd, Nat.reduceLeDiff, finishR, resVs, resV, freezeVs, freezeV, freezeC, target, consOf, doCall, argsG, List.all_cons, List.all_nil, V.le, C.le, C.leL, Ev.newObj, Ev.look, Ev.setF, Ev.setRange, pickV, List.cons_append, Int.reduceToNat, Int.le_refl, Nat.add_one_sub_one, cons_30, sealed_30, cons_28, sealed_28, cons_29, sealed_29, cons_31, sealed_31, agg_4, agg_9, agg_58, esz_26, esz_58, lay_61, layB_61, zero_61, und_58, toldZ, hp, hi, hr, z, z2, hw, hbad]
    · have z : ((ts1.length : Int) == 1) = false := by
        rw [beq_eq_false_iff_ne]
        intro h
        apply hone
        match ts1, h with
        | [w], _ => exact ⟨w, rfl⟩
        | [], h => simp at h
        | _ :: _ :: r, h => simp only [List.length_cons] at h; omega
      cases bad2
      · cases hd : decide (ts2.length > 0)
        · simp only [hd, Bool.or_self] at hbad
          cases hm : mayL 0 l
          · simp only [toldV, hm] at hbad
            simp only [resTmpsR, List.filterMap, evC_skip, evC_ret, evC_region, evC_seq, evC_cond, feedL, feedOf, runL, stepW, wantedV, Ev.step, opv, ev, getT, binV, intOp, put, params, constV, List.map, List.contains_nil, Bool.or_self, Nat.reduceEqDiff, if_true, if_false, reduceCtorEq, Nat.reduceBEq, give, gives, V.hasSl, C.isSl, V.strip, C.strip, feeds, List.append_nil, List.nil_append, List.contains_cons, Bool.false_eq_true, List.getElem?_toArray, List.length_cons, constC, lenV, List.getElem?_cons_zero, List.getElem?_cons_succ, Bool.or_false, Bool.or_true, beq_self_eq_true, Bool.not_true, Bool.and_false, Bool.and_true, and_self, readV, List.drop_zero, fillC, V.cells, List.length_nil, Nat.zero_add, cfg_esc, Option.bind_some, List.drop_succ_cons, List.take_succ_cons, List.take_zero, Bool.not_true, bb_ft, cond_false, List.set_cons_zero, kstrip_ro, kstrip_nil, kstrip_strip, Nat.lt_add_one, Nat.reduceAdd, Nat.reduceLeDiff, finishR, resVs, resV, freezeVs, freezeV, freezeC, target, consOf, doCall, argsG, List.all_cons, List.all_nil, V.le, C.le, C.leL, Ev.newObj, Ev.look, Ev.setF, Ev.setRange, pickV, List.cons_append, Nat.add_one_sub_one, cons_30, sealed_30, cons_28, sealed_28, cons_29, sealed_29, cons_31, sealed_31, agg_4, agg_58, esz_26, lay_61, layB_61, zero_61, und_58, toldZ, hp, hi, hr, z, hg, hd, hbad, hm, encW_len]
          · simp only [toldV, hm] at hbad
            simp only [resTmpsR, List.filterMap, evC_skip, evC_ret, evC_region, evC_seq, evC_cond, feedL, feedOf, runL, stepW, wantedV, Ev.step, opv, ev, getT, binV, intOp, put, params, constV, List.map, List.contains_nil, Bool.or_self, Nat.reduceEqDiff, if_true, if_false, reduceCtorEq, Nat.reduceBEq, give, gives, V.hasSl, C.isSl, V.strip, C.strip, feeds, List.append_nil, List.nil_append, List.contains_cons, Bool.false_eq_true, List.getElem?_toArray, List.length_cons, constC, lenV, List.getElem?_cons_zero, List.getElem?_cons_succ, Bool.or_false, Bool.or_true, beq_self_eq_true, Bool.not_true, Bool.and_false, Bool.and_true, and_self, readV, List.drop_zero, fillC, V.cells, List.length_nil, Nat.zero_add, cfg_esc, Option.bind_some, List.drop_succ_cons, List.take_succ_cons, List.take_zero, Bool.not_true, bb_ft, cond_false, List.set_cons_zero, kstrip_ro, kstrip_strip, Nat.lt_add_one, Nat.reduceAdd, Nat.reduceLeDiff, finishR, resVs, resV, freezeVs, freezeV, freezeC, target, consOf, doCall, argsG, List.all_cons, List.all_nil, V.le, C.le, C.leL, Ev.newObj, Ev.look, Ev.setF, Ev.setRange, pickV, List.cons_append, Nat.add_one_sub_one, cons_30, sealed_30, cons_28, sealed_28, cons_29, sealed_29, cons_31, sealed_31, agg_4, agg_58, esz_26, lay_61, layB_61, zero_61, und_58, toldZ, hp, hi, hr, z, hg, hd, hbad, hm, encW_len]
        · simp only [hd, Bool.false_or] at hbad
          simp only [toldV] at hbad
          simp only [resTmpsR, List.filterMap, evC_skip, evC_ret, evC_region, evC_seq, evC_cond, feedL, feedOf, runL, stepW, wantedV, Ev.step, opv, ev, getT, binV, intOp, put, params, constV, List.map, List.contains_nil, Bool.or_self, Nat.reduceEqDiff, if_true, if_false, reduceCtorEq, Nat.reduceBEq, give, gives, V.hasSl, C.isSl, V.strip, C.strip, feeds, List.append_nil, List.nil_append, List.contains_cons, Bool.false_eq_true, List.getElem?_toArray, List.length_cons, constC, lenV, List.getElem?_cons_zero, List.getElem?_cons_succ, Bool.or_false, Bool.or_true, beq_self_eq_true, Bool.not_true, Bool.and_false, Bool.and_true, and_self, readV, List.drop_zero, fillC, V.cells, List.length_nil, Nat.zero_add, cfg_esc, Option.bind_some, List.drop_succ_cons, List.take_succ_cons, List.take_zero, Bool.not_true, bb_ft, cond_false, List.set_cons_zero, kstrip_ro, kstrip_nil, kstrip_strip, Nat.lt_add_one, Nat.reduceAdd, Nat.reduceLeDiff, finishR, resVs, resV, freezeVs, freezeV, freezeC, target, consOf, doCall, argsG, List.all_cons, List.all_nil, V.le, C.le, C.leL, Ev.newObj, Ev.look, Ev.setF, Ev.setRange, pickV, List.cons_append, Nat.add_one_sub_one, cons_30, sealed_30, cons_28, sealed_28, cons_29, sealed_29, cons_31, sealed_31, agg_4, agg_58, esz_26, lay_61, layB_61, zero_61, und_58, toldZ, hp, hi, hr, z, hg, hd, hbad, encW_len]
      · simp only [Bool.true_or] at hbad
        simp only [toldV] at hbad
        simp only [resTmpsR, List.filterMap, evC_skip, evC_ret, evC_region, evC_seq, evC_cond, feedL, feedOf, runL, stepW, wantedV, Ev.step, opv, ev, getT, binV, intOp, put, params, constV, List.map, List.contains_nil, Bool.or_self, Nat.reduceEqDiff, if_true, if_false, reduceCtorEq, Nat.reduceBEq, give, gives, V.hasSl, C.isSl, V.strip, C.strip, feeds, List.append_nil, List.nil_append, List.contains_cons, Bool.false_eq_true, List.getElem?_toArray, List.length_cons, constC, lenV, List.getElem?_cons_zero, List.getElem?_cons_succ, Bool.or_false, Bool.or_true, beq_self_eq_true, Bool.not_true, Bool.and_false, Bool.and_true, and_self, readV, List.drop_zero, fillC, V.cells, List.length_nil, Nat.zero_add, cfg_esc, Option.bind_some, List.drop_succ_cons, List.take_succ_cons, List.take_zero, Bool.true_or, Bool.not_true, bb_ft, bb_tf, List.set_cons_zero, kstrip_ro, kstrip_nil, kstrip_strip, Nat.lt_add_one, Nat.reduceAdd, Nat.reduceLeDiff, finishR, resVs, resV, freezeVs, freezeV, freezeC, target, consOf, doCall, argsG, List.all_cons, List.all_nil, V.le, C.le, C.leL, Ev.newObj, Ev.look, Ev.setF, Ev.setRange, pickV, List.cons_append, Nat.add_one_sub_one, cons_30, sealed_30, cons_28, sealed_28, cons_29, sealed_29, cons_31, sealed_31, agg_4, agg_58, esz_26, lay_61, layB_61, zero_61, und_58, toldZ, hp, hi, hr, z, hbad, encW_len]

end Go.Proofs.YtbfllngekcckeaaGreatDoor
namespace Go.Proofs.YtbfllngekcckeaaGreatDoor
open Go.Ev
set_option linter.unusedSimpArgs false
set_option linter.unusedVariables false
set_option maxHeartbeats 400000
set_option maxRecDepth 4000

theorem signsF_snoc : ∀ (t last : List UInt8), signsF last (t ++ [32]) = signsF last t
  | [], last => by
    by_cases h : last = [] <;> simp [signsF, h]
  | b :: r, last => by
    have h0 := signsF_snoc r []
    have h1 := signsF_snoc r (last ++ [b])
    simp only [List.cons_append, signsF, h0, h1]

theorem signsF_blanks {c : UInt8} (hc : c = 40 ∨ c = 41 ∨ c = 44) : ∀ (a last b : List UInt8), signsF last (a ++ 32 :: c :: 32 :: 32 :: b) = signsF last (a ++ c :: b)
  | [], last, b => by
    have h32 : c ≠ 32 := by rcases hc with rfl | rfl | rfl <;> decide
    by_cases h : last = [] <;> simp [signsF, h, h32, hc]
  | x :: a, last, b => by
    have h0 := signsF_blanks hc a [] b
    have h1 := signsF_blanks hc a (last ++ [x]) b
    simp only [List.cons_append, signsF, h0, h1]

/-- A byte that is a bracket or a comma. -/
def brk (o : Option UInt8) : Bool := o == some 40 || o == some 41 || o == some 44
def blank1 (k : Int) (t : List UInt8) : List UInt8 :=
  if 0 ≤ k ∧ k < t.length ∧ brk t[k.toNat]? = true then t.take k.toNat ++ [32] ++ (t.drop k.toNat).take 1 ++ [32, 32] ++ t.drop (k.toNat + 1) else t
def blankL : List Int → List UInt8 → List UInt8
  | [], t => t
  | k :: r, t => blankL r (blank1 k t)

theorem blank1_split {k : Int} {t : List UInt8} : blank1 k t = t ∨ ∃ a c b, (c = 40 ∨ c = 41 ∨ c = 44) ∧ t = a ++ c :: b ∧ blank1 k t = a ++ 32 :: c :: 32 :: 32 :: b := by
  unfold blank1
  split
  · rename_i h
    obtain ⟨h1, h2, h3⟩ := h
    right
    have hlt : k.toNat < t.length := by omega
    rw [List.getElem?_eq_getElem hlt] at h3
    refine ⟨t.take k.toNat, t[k.toNat], t.drop (k.toNat + 1), ?_, ?_, ?_⟩
    · simpa [brk, or_assoc] using h3
    · rw [← List.drop_eq_getElem_cons hlt, List.take_append_drop]
    · have e := List.drop_eq_getElem_cons hlt
      rw [e]
      simp only [List.take_succ_cons, List.take_zero, List.append_assoc, List.cons_append, List.nil_append]
  · exact .inl rfl

theorem blank1_signs (k : Int) (t : List UInt8) : signsF [] (blank1 k t) = signsF [] t := by
  rcases blank1_split (k := k) (t := t) with h | ⟨a, c, b, hc, ht, h⟩
  · rw [h]
  · rw [h, ht, signsF_blanks hc]
theorem blank1_len (k : Int) (t : List UInt8) : (blank1 k t).length ≤ t.length + 3 := by
  rcases blank1_split (k := k) (t := t) with h | ⟨a, c, b, hc, ht, h⟩
  · rw [h]; omega
  · rw [h, ht]; simp only [List.length_append, List.length_cons]; omega
theorem blank1_mem {P : UInt8 → Prop} {k : Int} {t : List UInt8} (hp : P 32) (h : ∀ b ∈ t, P b) : ∀ b ∈ blank1 k t, P b := by
  rcases blank1_split (k := k) (t := t) with h' | ⟨a, c, b, hc, ht, h'⟩
  · rw [h']; exact h
  · rw [h']
    rw [ht] at h
    intro x hx
    simp only [List.mem_append, List.mem_cons] at hx h
    rcases hx with hx | rfl | rfl | rfl | rfl | hx
    · exact h x (.inl hx)
    · exact hp
    · exact h x (.inr (.inl rfl))
    · exact hp
    · exact hp
    · exact h x (.inr (.inr hx))
theorem blankL_signs : ∀ (ks : List Int) (t : List UInt8), signsF [] (blankL ks t) = signsF [] t
  | [], _ => rfl
  | k :: r, t => by rw [blankL, blankL_signs r, blank1_signs]
theorem blankL_len : ∀ (ks : List Int) (t : List UInt8), (blankL ks t).length ≤ t.length + 3 * ks.length
  | [], _ => by simp [blankL]
  | k :: r, t => by
    have h1 := blankL_len r (blank1 k t)
    have h2 := blank1_len k t
    simp only [blankL, List.length_cons]
    omega
theorem blankL_mem {P : UInt8 → Prop} (hp : P 32) : ∀ (ks : List Int) (t : List UInt8), (∀ b ∈ t, P b) → ∀ b ∈ blankL ks t, P b
  | [], _, h => h
  | k :: r, t, h => blankL_mem hp r _ (blank1_mem hp h)

theorem joinF_mem {P : UInt8 → Prop} (h1 : P 44) (h2 : P 32) : ∀ ss : List (List UInt8), (∀ s ∈ ss, ∀ b ∈ s, P b) → ∀ b ∈ joinF [44, 32] ss, P b
  | [], _, b, hb => by cases hb
  | [x], h, b, hb => h x (by simp) b hb
  | x :: y :: r, h, b, hb => by
    have h3 := joinF_mem h1 h2 (y :: r) fun s hs => h s (by simp [hs])
    simp only [joinF, List.mem_append, List.mem_cons, List.not_mem_nil, or_false] at hb h3
    rcases hb with (hb | rfl | rfl) | hb
    · exact h x (by simp) b hb
    · exact h1
    · exact h2
    · exact h3 b hb
theorem rowW_low {ss : List (List UInt8)} (h : ∀ s ∈ ss, ∀ b ∈ s, b.toNat < 128) : ∀ b ∈ rowW ss, b.toNat < 128 := by
  have h1 := joinF_mem (P := fun b => b.toNat < 128) (by decide) (by decide) ss h
  intro b hb
  simp only [rowW, List.mem_append, List.mem_singleton] at hb
  rcases hb with (rfl | hb) | rfl
  · decide
  · exact h1 b hb
  · decide
theorem itoaF_low {n : Int} (h1 : -134217728 ≤ n) (h2 : n ≤ 134217728) : ∀ b ∈ itoaF n, b.toNat < 128 := by
  intro b hb
  unfold itoaF at hb
  split at hb
  · rcases List.mem_cons.1 hb with rfl | hb
    · decide
    · have := digs_isDigit 20 n.natAbs (by omega) b hb; omega
  · have := digs_isDigit 20 n.toNat (by omega) b hb; omega
theorem ptW_low {p : Int × Int} (h : badP p = false) : ∀ b ∈ ptW p, b.toNat < 128 := by
  obtain ⟨a1, a2, a3, a4⟩ := badP_nums h
  intro b hb
  simp only [ptW, List.mem_append, List.mem_singleton] at hb
  rcases hb with (hb | rfl) | hb
  · exact itoaF_low a1 a2 b hb
  · decide
  · exact itoaF_low a3 a4 b hb
theorem rgW_low {r : Rg} (h : GoodR r) : ∀ b ∈ rgW r, b.toNat < 128 := rowW_low fun s hs => by
  obtain ⟨p, hp, rfl⟩ := List.mem_map.1 hs
  exact ptW_low (h.pts p (closed_mem hp))
theorem pgW_low {g : Pg} (h : GoodG g) : ∀ b ∈ pgW g, b.toNat < 128 := rowW_low fun s hs => by
  obtain ⟨r, hr, rfl⟩ := List.mem_map.1 hs
  exact rgW_low (h.rings r hr)
theorem wL_low {l : List Pg} (h : ∀ g ∈ l, GoodG g) : ∀ b ∈ wL l, b.toNat < 128 := by
  unfold wL
  split
  · decide
  · intro b hb
    rcases List.mem_append.1 hb with hb | hb
    · have : ∀ b ∈ wordW, b.toNat < 128 := by decide
      exact this b hb
    · exact rowW_low (fun s hs => by
        obtain ⟨g, hg, rfl⟩ := List.mem_map.1 hs
        exact pgW_low (h g hg)) b hb
theorem all_low {t : List UInt8} (h : ∀ b ∈ t, b.toNat < 128) : t.all (· < 128) = true := by
  rw [List.all_eq_true]
  intro b hb
  have := h b hb
  exact decide_eq_true (UInt8.lt_iff_toNat_lt.2 this)

theorem fewG_all : ∀ (g : Pg) (n m : Nat), fewG n g = some m → n + g.length ≤ m ∧ (g ≠ [] → m ≤ 150) ∧ ∀ r ∈ g, r.length ≤ 150
  | [], n, m, h => by
    simp only [fewG, Option.some.injEq] at h
    subst h
    simp
  | r :: g, n, m, h => by
    simp only [fewG] at h
    split at h
    · cases h
    · rename_i h1
      have h2 := fewG_all g _ m h
      have hr : r.length ≤ 150 := by omega
      refine ⟨by simp only [List.length_cons]; omega, fun _ => ?_, fun x hx => ?_⟩
      · cases g with
        | nil => have := h2.1; simp only [fewG, Option.some.injEq] at h; omega
        | cons a b => exact h2.2.1 (by simp)
      · rcases List.mem_cons.1 hx with rfl | hx
        · exact hr
        · exact h2.2.2 x hx
theorem fewL_all : ∀ (l : List Pg) (n : Nat), fewL n l = true → n + l.length ≤ 150 ∧ ∀ g ∈ l, g.length ≤ 150 ∧ ∀ r ∈ g, r.length ≤ 150
  | [], n, h => by
    simp only [fewL, decide_eq_true_eq] at h
    simp [h]
  | g :: l, n, h => by
    simp only [fewL] at h
    split at h
    · cases h
    · rename_i m hm
      have h1 := fewG_all g _ m hm
      have h2 := fewL_all l m h
      refine ⟨by simp only [List.length_cons]; omega, fun x hx => ?_⟩
      rcases List.mem_cons.1 hx with rfl | hx
      · exact ⟨by omega, h1.2.2⟩
      · exact h2.2 x hx

theorem wL_len {l : List Pg} (h : fewL 0 l = true) : (wL l).length ≤ 200000000 := by
  obtain ⟨h1, h2⟩ := fewL_all l 0 h
  have hr : ∀ r : Rg, r.length ≤ 150 → (rgW r).length ≤ 7099 := fun r hr =>
    (rowW_len (B := 45) (n := 151) (fun s hs => by
      obtain ⟨p, _, rfl⟩ := List.mem_map.1 hs
      exact ptW_len p) (by
      have := closed_len r
      simp only [List.length_map]
      omega)).2
  have hg : ∀ g ∈ l, (pgW g).length ≤ 1065152 := fun g hg =>
    (rowW_len (B := 7099) (n := 150) (fun s hs => by
      obtain ⟨r, hr', rfl⟩ := List.mem_map.1 hs
      exact hr r ((h2 g hg).2 r hr')) (by simpa using (h2 g hg).1)).2
  have hl := (rowW_len (B := 1065152) (n := 150) (ss := l.map pgW) (fun s hs => by
      obtain ⟨g, hg', rfl⟩ := List.mem_map.1 hs
      exact hg g hg') (by simp; omega)).2
  unfold wL
  split
  · decide
  · simp only [List.length_append, wordW, List.length_cons, List.length_nil]
    omega

end Go.Proofs.YtbfllngekcckeaaGreatDoor
