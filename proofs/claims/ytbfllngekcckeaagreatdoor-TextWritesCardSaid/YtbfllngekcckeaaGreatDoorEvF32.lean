/- The document's text of polygons, at the machine. -/
import Derived.Test.YtbfllngekcckeaaGreatDoorEvF28
namespace Go.Proofs.YtbfllngekcckeaaGreatDoor
open Go.Ev
set_option linter.unusedSimpArgs false
set_option linter.unusedVariables false
set_option maxHeartbeats 1000000
set_option maxRecDepth 4000

theorem joinF_next (sep : List UInt8) (ss : List (List UInt8)) {i : Nat} {x : List UInt8} (h : ss[i]? = some x) : joinF sep (ss.take (i + 1)) = joinF sep (ss.take i) ++ (if i = 0 then [] else sep) ++ x := by
  rw [joinF_take sep ss h]
  by_cases h0 : i = 0
  · subst h0; simp [joinF]
  · rw [if_neg h0, if_neg h0]
theorem sep_cases (j : Nat) : (decide ((j : Int) > 0) = false ∧ (if j = 0 then [] else [44, 32] : List UInt8) = []) ∨ (decide ((j : Int) > 0) = true ∧ (if j = 0 then [] else [44, 32] : List UInt8) = [44, 32]) := by
  by_cases h : j = 0
  · left; subst h; exact ⟨rfl, rfl⟩
  · right; exact ⟨decide_eq_true (by omega), if_neg h⟩
theorem joinF_take_len (B n : Nat) (ss : List (List UInt8)) (i : Nat) (h : ∀ s ∈ ss, s.length ≤ B) (hn : ss.length ≤ n) : (joinF [44, 32] (ss.take i)).length ≤ n * (B + 2) := by
  have h1 := joinF_len B (ss.take i) fun s hs => h s (List.mem_of_mem_take hs)
  have h2 : (ss.take i).length * (B + 2) ≤ n * (B + 2) := Nat.mul_le_mul_right _ (by rw [List.length_take]; omega)
  omega
theorem closed_get {r : Rg} {p : Nat} (hr : 0 < r.length) (hp : p ≤ r.length) : ∃ q, r[p % r.length]? = some q ∧ (closed r)[p]? = some q ∧ q ∈ r := by
  have hlt : p % r.length < r.length := Nat.mod_lt _ hr
  refine ⟨r[p % r.length], List.getElem?_eq_getElem hlt, ?_, List.getElem_mem hlt⟩
  unfold closed
  rcases Nat.lt_or_ge p r.length with h | h
  · rw [List.getElem?_append_left h, List.getElem?_eq_getElem h]
    congr 2
    exact (Nat.mod_eq_of_lt h).symm
  · obtain rfl : p = r.length := by omega
    rw [List.getElem?_append_right (Nat.le_refl _)]
    simp [Nat.mod_self]

theorem refwrite_no (k : K) (l : List Pg) (fr : Fr) (fs : Frames) (hs : Small l) (hm : mayL 0 l = false) : callE cfg 8 [.c (.sl k 1 (encL l))] (fr :: fs) = some (some (.c (.str [])), fr :: fs) := by
  refine callE_code (fn := Tryz.f8) (rs := [.tmp 2]) (by kernel_rfl) (by kernel_rfl) (by kernel_rfl) rfl rfl rfl (by show 1 ≤ 80; decide) ?_
  have h := refmay_ev k.strip l [] (fr :: fs) hs.len hs.parts
  rw [hm] at h
  simp only [resTmpsR, List.filterMap, evC_ret, evC_region, evC_seq, evC_cond, feedL, feedOf, runL, stepW, wantedV, Ev.step, opv, ev, getT, unV, put, params, constV, List.map, List.contains_nil, Nat.reduceEqDiff, if_true, if_false, reduceCtorEq, give, gives, V.hasSl, C.isSl, V.strip, C.strip, feeds, List.append_nil, List.nil_append, Bool.false_eq_true, List.length_cons, constC, Bool.not_false, Bool.and_true, kstrip_strip, finishR, resVs, resV, freezeVs, freezeV, freezeC, target, consOf, doCall, argsG, List.all_cons, List.all_nil, V.le, C.le, Nat.add_one_sub_one, cons_10, sealed_10, h]

theorem refwrite_yes (k : K) (l : List Pg) (fr : Fr) (fs : Frames) (hm : mayL 0 l = true) : callE cfg 8 [.c (.sl k 1 (encL l))] (fr :: fs) = some (some (.c (.str (wL l))), fr :: fs) := by
  obtain ⟨hn, hg⟩ := sizes hm
  obtain ⟨hnl, hgood, _⟩ := mayL_good 0 l (by omega) hm
  refine callE_code (fn := Tryz.f8) (rs := [.tmp 2]) (by kernel_rfl) (by kernel_rfl) (by kernel_rfl) rfl rfl rfl (by show 1 ≤ 80; decide) ?_
  have h := refmay_ev k.strip l [] (fr :: fs) hn hg
  rw [hm] at h
  unfold wL
  by_cases h0 : l.length = 0
  · have z : ((l.length : Int) == 0) = true := by simp [h0]
    rw [if_pos h0]
    simp only [resTmpsR, List.filterMap, evC_skip, evC_ret, evC_region, evC_seq, evC_cond, feedL, feedOf, runL, stepW, wantedV, Ev.step, opv, ev, getT, binV, intOp, unV, put, params, constV, List.map, List.contains_nil, Nat.reduceEqDiff, if_true, if_false, reduceCtorEq, give, gives, V.hasSl, C.isSl, V.strip, C.strip, feeds, List.append_nil, List.nil_append, Bool.false_eq_true, List.getElem?_toArray, List.length_cons, constC, lenV, List.getElem?_cons_zero, Bool.not_true, Bool.and_true, Bool.not_true, kstrip_strip, finishR, resVs, resV, freezeVs, freezeV, freezeC, target, consOf, doCall, argsG, List.all_cons, List.all_nil, V.le, C.le, Nat.add_one_sub_one, cons_10, sealed_10, und_22, encL_len, h, z, emptyW]
  have z : ((l.length : Int) == 0) = false := by rw [beq_eq_false_iff_ne]; omega
  rw [if_neg h0]
  simp only [resTmpsR, List.filterMap, evC_skip, evC_ret, evC_region, evC_seq, evC_cond, evC_loop, blockEx, feedL, feedOf, runL, stepW, wantedV, Ev.step, opv, ev, getT, binV, intOp, strOp, unV, put, params, constV, keep, List.map, List.contains_nil, Bool.or_self, Nat.reduceEqDiff, if_true, if_false, reduceCtorEq, Nat.reduceBEq, give, gives, V.hasSl, C.isSl, V.strip, C.strip, feeds, List.append_nil, List.nil_append, List.contains_cons, Bool.false_eq_true, List.getElem?_toArray, List.length_cons, constC, lenV, List.getElem?_cons_zero, Bool.or_false, beq_self_eq_true, Bool.not_true, Bool.and_true, Bool.not_true, List.map_cons, kstrip_strip, finishR, resVs, resV, freezeVs, freezeV, freezeC, target, consOf, doCall, argsG, List.all_cons, List.all_nil, V.le, C.le, Nat.add_one_sub_one, cons_10, sealed_10, live_8_0, und_22, encL_len, h, z]
  let σ : Nat × List UInt8 × Fr → S := fun (j, o, ob) => { m := [(0, .c (.sl k 1 (encL l))), (3, .c (.str o)), (4, .c (.int .i64 j))], fs := ob :: fr :: fs }
  generalize hL : loopE cfg (callE cfg) itE 8 [2] _ _ _ = out
  have hout : ∃ ex s, out = some (ex, s) ∧ ∃ ob, ex = .exit 0 ∧ s = σ (l.length, wordW ++ [40] ++ joinF [44, 32] (l.map pgW), ob) := by
    rw [← hL]
    refine loopE_inv σ (fun (j, _) => l.length - j) (fun (j, o, _) => j ≤ l.length ∧ o = wordW ++ [40] ++ joinF [44, 32] ((l.map pgW).take j)) (fun ex s => ∃ ob, ex = .exit 0 ∧ s = σ (l.length, wordW ++ [40] ++ joinF [44, 32] (l.map pgW), ob)) (fun (j, o, ob) ⟨hj, ho⟩ => ?_) (0, _, []) ⟨Nat.zero_le _, rfl⟩
    have hol := joinF_take_len (4000 * 188051 + 2) 4000 (l.map pgW) j (fun s hs => by
      obtain ⟨g, hg', rfl⟩ := List.mem_map.1 hs
      exact (pgW_len (hgood g hg')).2) (by simpa using hnl)
    have hol : o.length ≤ 3008816016014 := by
      rw [ho]
      simp only [List.length_append, wordW, List.length_cons, List.length_nil]
      omega
    rcases Nat.lt_or_ge j l.length with hj' | hj'
    · obtain ⟨g, g0, hd⟩ := drop_get hj'
      have hgm : g ∈ l := List.mem_of_getElem? g0
      have h1 : (j : Int) < l.length := by omega
      have h2 : ((j : Int)).toNat = j := by omega
      have h3 : (0 : Int) ≤ j := by omega
      have he := encL_get g0
      have hgd := hgood g hgm
      have hgl := hgd.many
      have hjn := joinF_next [44, 32] (l.map pgW) (i := j) (x := pgW g) (by simp [g0])
      have hw : IntKind.i64.wrap ((j : Int) + 1) = ((j + 1 : Nat) : Int) := by rw [wrap64] <;> omega
      have t1 : o.length + 2 ≤ 9223372036854775807 := by omega
      have t2 : o.length + 2 + 1 ≤ 9223372036854775807 := by omega
      have t3 : o.length + 1 ≤ 9223372036854775807 := by omega
      have sj := sep_cases j
      generalize (if j = 0 then [] else [44, 32] : List UInt8) = S at sj hjn
      have hSl : S.length ≤ 2 := by rcases sj with ⟨_, hs⟩ | ⟨_, hs⟩ <;> rw [hs] <;> decide
      rcases sj with ⟨d1, hs⟩ | ⟨d1, hs⟩
      all_goals
        simp only [σ, evC_skip, evC_region, evC_seq, evC_cond, evC_loop, evC_bseq, blockEx, feedL, feedOf, runL, stepW, wantedV, Ev.step, opv, ev, getT, binV, intOp, strOp, put, constV, keep, List.map, List.contains_nil, Bool.or_self, Nat.reduceEqDiff, if_true, if_false, decide_true, reduceCtorEq, Nat.reduceBEq, give, V.hasSl, C.isSl, V.strip, C.strip, feeds, List.append_nil, List.contains_cons, Bool.false_eq_true, List.getElem?_toArray, List.length_cons, constC, lenV, List.getElem?_cons_zero, List.length_nil, Nat.zero_add, List.map_cons, Nat.reduceAdd, live_8_2, und_22, encL_len, h1, d1, t1, t2, t3, List.length_append]
        let τ : Nat × List UInt8 × Fr → Ev.S := fun (i, o, ob) => { m := [(0, .c (.sl k 1 (encL l))), (3, .c (.str o)), (4, .c (.int .i64 j)), (5, .c (.int .i64 i))], fs := ob :: fr :: fs }
        generalize hL2 : loopE cfg (callE cfg) itE 8 [2] _ _ _ = out2
        have hout2 : ∃ ex s, out2 = some (ex, s) ∧ ∃ ob, ex = .exit 2 ∧ s = τ (g.length, o ++ S ++ [40] ++ joinF [44, 32] (g.map rgW), ob) := by
          rw [← hL2]
          refine loopE_inv τ (fun (i, _) => g.length - i) (fun (i, o', _) => i ≤ g.length ∧ o' = o ++ S ++ [40] ++ joinF [44, 32] ((g.map rgW).take i)) _ (fun (i, o', ob) ⟨hi, ho'⟩ => ?_) (0, _, ob) ⟨Nat.zero_le _, by rw [hs]; simp [joinF]⟩
          have gol := joinF_take_len (4001 * 47 + 2) 4000 (g.map rgW) i (fun s hs => by
            obtain ⟨r, hr', rfl⟩ := List.mem_map.1 hs
            exact (rgW_len (hgd.rings r hr')).2) (by simpa using hgl)
          have gol : o'.length ≤ 3009568220022 := by
            rw [ho']
            simp only [List.length_append, List.length_cons, List.length_nil]
            omega
          rcases Nat.lt_or_ge i g.length with hi' | hi'
          · obtain ⟨r, k0, kd⟩ := drop_get hi'
            have hrm := List.mem_of_getElem? k0
            have hrd := hgd.rings r hrm
            have rfew := hrd.few
            have rmany := hrd.many
            have k1 : (i : Int) < g.length := by omega
            have k2 : ((i : Int)).toNat = i := by omega
            have k3 : (0 : Int) ≤ i := by omega
            have ke := encG_get k0
            have kjn := joinF_next [44, 32] (g.map rgW) (i := i) (x := rgW r) (by simp [k0])
            have kw : IntKind.i64.wrap ((i : Int) + 1) = ((i + 1 : Nat) : Int) := by rw [wrap64] <;> omega
            have u1 : o'.length + 2 ≤ 9223372036854775807 := by omega
            have u2 : o'.length + 2 + 1 ≤ 9223372036854775807 := by omega
            have u3 : o'.length + 1 ≤ 9223372036854775807 := by omega
            have si := sep_cases i
            generalize (if i = 0 then [] else [44, 32] : List UInt8) = S' at si kjn
            have hSl' : S'.length ≤ 2 := by rcases si with ⟨_, hs⟩ | ⟨_, hs⟩ <;> rw [hs] <;> decide
            rcases si with ⟨d2, hs'⟩ | ⟨d2, hs'⟩
            all_goals
              simp only [τ, evC_skip, evC_region, evC_seq, evC_cond, evC_loop, evC_bseq, blockEx, feedL, feedOf, runL, stepW, wantedV, Ev.step, opv, ev, getT, binV, intOp, strOp, put, constV, keep, List.map, List.contains_nil, Bool.or_self, Nat.reduceEqDiff, if_true, if_false, decide_true, reduceCtorEq, Nat.reduceBEq, give, V.hasSl, C.isSl, V.strip, C.strip, feeds, List.append_nil, List.contains_cons, Bool.false_eq_true, List.getElem?_toArray, List.length_cons, constC, lenV, List.getElem?_cons_zero, and_self, readV, D.toC, List.drop_zero, List.length_nil, Nat.zero_add, List.map_cons, kstrip_ro, Nat.lt_add_one, Nat.reduceAdd, live_8_4, agg_37, agg_39, esz_22, esz_37, und_37, encL_len, encG_len, h1, h2, h3, he, k1, k2, k3, ke, d2, u1, u2, u3, List.length_append]
              let υ : Nat × List UInt8 × Fr → Ev.S := fun (p, o, ob) => { m := [(0, .c (.sl k 1 (encL l))), (3, .c (.str o)), (4, .c (.int .i64 j)), (5, .c (.int .i64 i)), (6, .c (.sl .ro 2 (encR r))), (7, .c (.int .i64 p))], fs := ob :: fr :: fs }
              generalize hL3 : loopE cfg (callE cfg) itE 8 [2] _ _ _ = out3
              have hout3 : ∃ ex s, out3 = some (ex, s) ∧ ∃ p ob, ex = .exit 4 ∧ s = υ (p, o' ++ S' ++ [40] ++ joinF [44, 32] ((closed r).map ptW), ob) := by
                rw [← hL3]
                refine loopE_inv υ (fun (p, _) => r.length + 1 - p) (fun (p, o'', _) => p ≤ r.length + 1 ∧ o'' = o' ++ S' ++ [40] ++ joinF [44, 32] (((closed r).map ptW).take p)) _ (fun (p, o'', ob) ⟨hp, ho''⟩ => ?_) (0, _, ob) ⟨Nat.zero_le _, by rw [hs']; simp [joinF]⟩
                have pol := joinF_take_len 45 4001 ((closed r).map ptW) p (fun s hs => by
                  obtain ⟨q, _, rfl⟩ := List.mem_map.1 hs
                  exact ptW_len q) (by
                  have := closed_len r
                  simp only [List.length_map]
                  omega)
                have pol : o''.length ≤ 3009568600000 := by
                  rw [ho'']
                  simp only [List.length_append, List.length_cons, List.length_nil]
                  omega
                rcases Nat.lt_or_ge r.length p with hp' | hp'
                · have m1 : ¬((p : Int) ≤ r.length) := by omega
                  have hcl : ((closed r).map ptW).length ≤ p := by
                    have := closed_len r
                    simp only [List.length_map]
                    omega
                  rw [List.take_of_length_le hcl] at ho''
                  simp only [υ, evC_exit, evC_region, evC_seq, evC_cond, feedL, feedOf, runL, stepW, wantedV, Ev.step, opv, ev, getT, binV, intOp, put, List.contains_nil, Nat.reduceEqDiff, if_true, if_false, decide_false, reduceCtorEq, give, V.hasSl, C.isSl, V.strip, C.strip, feeds, List.append_nil, Bool.false_eq_true, List.getElem?_toArray, lenV, List.getElem?_cons_zero, kstrip_ro, und_39, encR_len, m1]
                  refine ⟨_, rfl, ?_⟩
                  exact Round.out ⟨p, ob, rfl, by rw [ho'']; rfl⟩
                · obtain ⟨q, m0, mc, mr⟩ := closed_get (r := r) (p := p) (by omega) hp'
                  have m1 : ((p : Int) ≤ r.length) := by omega
                  have mz : ¬((r.length : Int) = 0) := by omega
                  have mt : (p : Int).tmod (r.length : Int) = ((p % r.length : Nat) : Int) := rfl
                  have mlt : p % r.length < r.length := Nat.mod_lt _ (by omega)
                  have m2 : ((p % r.length : Nat) : Int) < (r.length : Int) := by omega
                  have m3 : (((p % r.length : Nat) : Int)).toNat = p % r.length := by omega
                  have m4 : (0 : Int) ≤ ((p % r.length : Nat) : Int) := by omega
                  have me := encR_get m0
                  have mw : IntKind.i64.wrap ((p : Int) + 1) = ((p + 1 : Nat) : Int) := by rw [wrap64] <;> omega
                  have mjn := joinF_next [44, 32] ((closed r).map ptW) (i := p) (x := ptW q) (by simp [mc])
                  have mput := put2_ev q [] (fr :: fs) (hrd.pts q mr) .exact
                  have mlen := ptW_len q
                  have v1 : o''.length + 2 ≤ 9223372036854775807 := by omega
                  have v2 : o''.length + 2 + (ptW q).length ≤ 9223372036854775807 := by omega
                  have v3 : o''.length + (ptW q).length ≤ 9223372036854775807 := by omega
                  have sp := sep_cases p
                  generalize (if p = 0 then [] else [44, 32] : List UInt8) = S'' at sp mjn
                  rcases sp with ⟨d3, hs''⟩ | ⟨d3, hs''⟩
                  all_goals
                    simp only [υ, evC_skip, evC_region, evC_seq, evC_cond, evC_bseq, blockEx, feedL, feedOf, runL, stepW, wantedV, Ev.step, opv, ev, getT, binV, intOp, strOp, put, constV, List.map, List.contains_nil, Bool.or_self, Nat.reduceEqDiff, if_true, if_false, decide_true, reduceCtorEq, Nat.reduceBEq, give, gives, V.hasSl, C.isSl, V.strip, C.strip, feeds, List.append_nil, List.nil_append, List.contains_cons, Bool.false_eq_true, List.getElem?_toArray, List.length_cons, constC, lenV, List.getElem?_cons_zero, List.getElem?_cons_succ, beq_self_eq_true, Bool.not_true, Bool.and_false, Bool.and_true, and_self, Nat.lt_irrefl, readV, D.toC, List.drop_zero, fillE, V.cells, toDs, C.toD, List.replicate, List.length_nil, Nat.zero_add, cfg_arr, cfg_esc, List.drop_succ_cons, List.take_succ_cons, List.take_zero, Bool.not_true, List.set_cons_zero, List.set_cons_succ, List.map_cons, kstrip_ro, kstrip_exact, Nat.lt_add_one, Nat.zero_lt_succ, Nat.reduceAdd, Nat.reduceLeDiff, Nat.mul_one, target, consOf, doCall, argsG, List.all_cons, List.all_nil, V.le, C.le, C.leL, Ev.newObj, Ev.look, Ev.setF, Ev.setRange, List.getElem?_append, List.cons_append, Nat.le_refl, Nat.add_one_sub_one, Nat.sub_self, cons_19, sealed_19, sz_41, agg_3, agg_41, esz_49, esz_39, elemT_49, lay_41, zero_3, zero_41, und_39, encR_len, m1, mz, mt, m2, m3, m4, me, mput, d3, v1, v2, v3, List.length_append, set_last]
                    refine ⟨_, rfl, ?_⟩
                    refine Round.again (p + 1, _, ob ++ [[.int .i64 q.1, .int .i64 q.2]]) (by simp only [mw]; rfl) ⟨by omega, ?_⟩ (by simp only; omega)
                    rw [mjn, hs'', ho'']
                    simp only [List.append_assoc, List.append_nil]
              obtain ⟨ex, ⟨mm, fs'⟩, q1, p, ob', rfl, q2⟩ := hout3
              have x1 : (o' ++ S' ++ [40] ++ joinF [44, 32] ((closed r).map ptW)).length + 1 ≤ 9223372036854775807 := by
                have := (rgW_len hrd).1
                simp only [List.length_append, List.length_cons, List.length_nil]
                omega
              simp only [q1, q2, υ, getT, Nat.reduceEqDiff, if_true, if_false, reduceCtorEq, Bool.false_eq_true, List.length_cons, List.length_nil, Nat.zero_add, kw, x1]
              refine ⟨_, rfl, ?_⟩
              refine Round.again (i + 1, _, ob') rfl ⟨by omega, ?_⟩ (by simp only; omega)
              rw [kjn, ho', rgW, rowW]
              simp only [List.append_assoc]
          · have k1 : ¬((i : Int) < g.length) := by omega
            obtain rfl : i = g.length := by omega
            rw [List.take_of_length_le (by simp)] at ho'
            simp only [τ, evC_exit, evC_region, evC_seq, evC_cond, feedL, feedOf, runL, stepW, wantedV, Ev.step, opv, ev, getT, binV, intOp, put, List.map, List.contains_nil, Nat.reduceEqDiff, if_true, if_false, decide_false, reduceCtorEq, give, V.hasSl, C.isSl, V.strip, C.strip, feeds, List.append_nil, Bool.false_eq_true, List.getElem?_toArray, lenV, List.getElem?_cons_zero, and_self, readV, D.toC, List.drop_zero, List.map_cons, Nat.lt_add_one, Nat.sub_self, agg_37, esz_22, und_37, encG_len, encL_len, h1, h2, h3, he, k1]
            refine ⟨_, rfl, ?_⟩
            exact Round.out ⟨ob, rfl, by rw [ho']; rfl⟩
        obtain ⟨ex, ⟨mm, fs'⟩, q1, ob', rfl, q2⟩ := hout2
        have x1 : (o ++ S ++ [40] ++ joinF [44, 32] (g.map rgW)).length + 1 ≤ 9223372036854775807 := by
          have := (pgW_len hgd).1
          simp only [List.length_append, List.length_cons, List.length_nil]
          omega
        simp only [q1, q2, τ, getT, Nat.reduceEqDiff, if_true, if_false, reduceCtorEq, Bool.false_eq_true, List.length_cons, List.length_nil, Nat.zero_add, hw, x1]
        refine ⟨_, rfl, ?_⟩
        refine Round.again (j + 1, _, ob') rfl ⟨by omega, ?_⟩ (by simp only; omega)
        rw [hjn, ho, pgW, rowW]
        simp only [List.append_assoc]
    · have h1 : ¬((j : Int) < l.length) := by omega
      obtain rfl : j = l.length := by omega
      rw [List.take_of_length_le (by simp)] at ho
      simp only [σ, evC_exit, evC_region, evC_seq, evC_cond, feedL, feedOf, runL, stepW, wantedV, Ev.step, opv, ev, getT, binV, intOp, put, List.contains_nil, Nat.reduceEqDiff, if_true, if_false, decide_false, reduceCtorEq, give, V.hasSl, C.isSl, V.strip, C.strip, feeds, List.append_nil, Bool.false_eq_true, List.getElem?_toArray, lenV, List.getElem?_cons_zero, Nat.sub_self, und_22, encL_len, h1]
      refine ⟨_, rfl, ?_⟩
      exact Round.out ⟨ob, rfl, by rw [ho]; rfl⟩
  obtain ⟨ex, s, q1, ob, rfl, rfl⟩ := hout
  have hol := joinF_len (4000 * 188051 + 2) (l.map pgW) (fun s hs => by
      obtain ⟨g, hg', rfl⟩ := List.mem_map.1 hs
      exact (pgW_len (hgood g hg')).2)
  have hol2 : (wordW ++ [40] ++ joinF [44, 32] (l.map pgW)).length + 1 ≤ 9223372036854775807 := by
    have : (l.map pgW).length * (4000 * 188051 + 2 + 2) ≤ 4000 * (4000 * 188051 + 2 + 2) := Nat.mul_le_mul_right _ (by simpa using hnl)
    simp only [List.length_append, wordW, List.length_cons, List.length_nil]
    omega
  simp only [q1, σ, getT, Nat.reduceEqDiff, if_true, if_false, reduceCtorEq, Bool.false_eq_true, List.length_cons, List.length_nil, Nat.zero_add, C.le, hol2]
  simp [rowW]

end Go.Proofs.YtbfllngekcckeaaGreatDoor
