/- Calls: what the evaluator gives is what the machine comes to. -/
import Derived.Test.YtbfllngekcckeaaGreatDoorEvY
set_option linter.unusedSimpArgs false
namespace Go.Ev

/-! ### As many frames as before -/

section
variable {c : Cfg} {call : CallF} {f r : Nat} {ops : Array Oper} {fd st : List Nat} {strict : Bool} {o : Oper} {s s1 : S} {res : List Tmp} {it : (S → Out) → List Nat → S → Out}

theorem opv_len (hne : s.fs ≠ []) {v : V} (h : opv c f r fd strict o s = some (v, s1)) : s1.fs.length = s.fs.length := by
  obtain ⟨_, _, h1, _⟩ := opv_like (s' := s) (fun _ _ _ => rfl) rfl hne (fun _ => rfl) (fun _ => rfl) h
  exact h1

theorem doCall_len (hc : Even call) (hne : s.fs ≠ []) {g : FuncId} {args : List V} {v : Option V} (h : doCall c call g args s = some (v, s1)) : s1.fs.length = s.fs.length := by
  obtain ⟨_, _, _, _, h1, _⟩ := doCall_like hc (s' := s) rfl hne (fun _ => rfl) rfl h
  exact h1

theorem step_len (hc : Even call) (hne : s.fs ≠ []) {ex : Ex} (h : step c call f r fd strict o s = some (ex, s1)) : s1.fs.length = s.fs.length := by
  unfold step at h
  split at h
  · split at h
    · simp only [Option.some.injEq, Prod.mk.injEq] at h; rw [h.2]
    · simp only [Option.some.injEq, Prod.mk.injEq] at h; rw [h.2]
    · cases h
  · rename_i k hop
    split at h
    · split at h
      · split at h
        · split at h
          · rename_i hd
            simp only [Option.some.injEq, Prod.mk.injEq] at h
            rw [← h.2, put_fs, doCall_len hc (by rw [(gives_m k.args.toList s).1]; exact hne) hd, (gives_m k.args.toList s).1]
          · rename_i hd
            simp only [Option.some.injEq, Prod.mk.injEq] at h
            rw [← h.2, doCall_len hc (by rw [(gives_m k.args.toList s).1]; exact hne) hd, (gives_m k.args.toList s).1]
          · cases h
        · split at h
          · rename_i hd
            simp only [Option.some.injEq, Prod.mk.injEq] at h
            rw [← h.2, put_fs, doCall_len hc hne hd]
          · rename_i hd
            simp only [Option.some.injEq, Prod.mk.injEq] at h
            rw [← h.2, doCall_len hc hne hd]
          · cases h
      · cases h
    · cases h
    · split at h
      · rename_i hv
        simp only [Option.some.injEq, Prod.mk.injEq] at h
        rw [← h.2, put_fs, opv_len hne hv]
      · cases h
  · split at h
    · rename_i hv
      simp only [Option.some.injEq, Prod.mk.injEq] at h
      rw [← h.2, put_fs, opv_len hne hv]
    · cases h

theorem stepW_len (hc : Even call) (hne : s.fs ≠ []) {ex : Ex} (h : stepW c call f r ops fd strict o s = some (ex, s1)) : s1.fs.length = s.fs.length := by
  unfold stepW at h
  split at h
  · exact step_len hc hne h
  · simp only [Option.some.injEq, Prod.mk.injEq] at h
    rw [← h.2, put_fs]
  · cases h

theorem ne_of_len {x y : Frames} (h : x.length = y.length) (hy : y ≠ []) : x ≠ [] := fun e => by
  rw [e] at h
  exact hy (List.eq_nil_of_length_eq_zero h.symm)

theorem runL_len (hc : Even call) : ∀ (l : List Oper) (k : Nat) {s s1 : S} {ex : Ex}, s.fs ≠ [] → runL c call f r ops fd st k l s = some (ex, s1) → s1.fs.length = s.fs.length
  | [], k, s, s1, ex, hne, h => by
    simp only [runL, Option.some.injEq, Prod.mk.injEq] at h
    rw [h.2]
  | o :: l, k, s, s1, ex, hne, h => by
    simp only [runL] at h
    split at h
    · rename_i s' hs
      have h1 := stepW_len hc hne hs
      rw [runL_len hc l (k + 1) (ne_of_len h1 hne) h, h1]
    · rename_i hs
      simp only [Option.some.injEq, Prod.mk.injEq] at h
      rw [← h.2]
      exact stepW_len hc hne hs
    · cases h

theorem iterK_len {stp : S → Out} (hs : ∀ s s1 ex, s.fs ≠ [] → stp s = some (ex, s1) → s1.fs.length = s.fs.length) (l : List Nat) : ∀ (n : Nat) {s s1 : S} {ex : Ex}, s.fs ≠ [] → iterK stp l n s = some (ex, s1) → s1.fs.length = s.fs.length
  | 0, s, s1, ex, _, h => by simp [iterK] at h
  | n + 1, s, s1, ex, hne, h => by
    simp only [iterK] at h
    split at h
    · rename_i s' h'
      have h1 := hs _ _ _ hne h'
      rw [iterK_len hs l n (s := keep l s') (ne_of_len h1 hne) h]
      exact h1
    · rename_i h'
      simp only [Option.some.injEq, Prod.mk.injEq] at h
      have h2 := hs _ _ _ hne h'
      rw [← h.2]
      exact h2
    · cases h

theorem blockEx_len {id : Nat} {out : Out} {ex : Ex} (h : blockEx id out = some (ex, s1)) : ∃ ex', out = some (ex', s1) := by
  unfold blockEx at h
  split at h
  · split at h
    · simp only [Option.some.injEq, Prod.mk.injEq] at h; exact ⟨_, by rw [h.2]⟩
    · simp only [Option.some.injEq, Prod.mk.injEq] at h; exact ⟨_, by rw [h.2]⟩
  · exact ⟨_, h⟩

theorem evC_len (hc : Even call) (hit : ItOK it) : ∀ (code : Code), (∀ (s s1 : S) (ex : Ex), s.fs ≠ [] → evC c call it f res code s = some (ex, s1) → s1.fs.length = s.fs.length) ∧
    ∀ b, code = .loop b → ∀ (s s1 : S) (ex : Ex), s.fs ≠ [] → evC c call it f res b s = some (ex, s1) → s1.fs.length = s.fs.length := by
  intro code
  induction code with
  | region r ops d =>
    refine ⟨fun s s1 ex hne h => ?_, fun b e => by cases e⟩
    cases d with
    | false => simp only [evC] at h; exact runL_len hc _ _ hne h
    | true =>
      simp only [evC] at h
      split at h
      · rename_i hs
        simp only [Option.some.injEq, Prod.mk.injEq] at h
        rw [← h.2]
        exact runL_len hc _ _ hne hs
      · cases h
  | seq x y ihx ihy =>
    refine ⟨fun s s1 ex hne h => ?_, fun b e => by cases e⟩
    simp only [evC] at h
    split at h
    · rename_i s' hs
      have h1 := ihx.1 _ _ _ hne hs
      rw [ihy.1 _ _ _ (ne_of_len h1 hne) h, h1]
    · exact ihx.1 _ _ _ hne h
  | cond x y z ihy ihz =>
    refine ⟨fun s s1 ex hne h => ?_, fun b e => by cases e⟩
    simp only [evC] at h
    split at h
    · rename_i t _
      cases t with
      | true => exact ihy.1 _ _ _ hne h
      | false => exact ihz.1 _ _ _ hne h
    · cases h
  | block id b ih =>
    refine ⟨fun s s1 ex hne h => ?_, fun b e => by cases e⟩
    by_cases hl : ∃ b', b = .loop b'
    · obtain ⟨b', rfl⟩ := hl
      simp only [evC] at h
      obtain ⟨ex', h'⟩ := blockEx_len h
      obtain ⟨n, hn⟩ := hit _ _ _ _ h'
      exact iterK_len (ih.2 b' rfl) _ n (s := keep (c.live f id) s) hne hn
    · have e : evC c call it f res (.block id b) s = blockEx id (evC c call it f res b s) := by
        cases b <;> first | rfl | exact absurd ⟨_, rfl⟩ hl
      rw [e] at h
      obtain ⟨ex', h'⟩ := blockEx_len h
      exact ih.1 _ _ _ hne h'
  | loop b ih => exact ⟨fun s s1 ex _ h => by simp [evC] at h, fun b' e => by cases e; exact ih.1⟩
  | skip => exact ⟨fun s s1 ex _ h => by simp only [evC, Option.some.injEq, Prod.mk.injEq] at h; rw [h.2], fun b e => by cases e⟩
  | label _ => exact ⟨fun s s1 ex _ h => by simp only [evC, Option.some.injEq, Prod.mk.injEq] at h; rw [h.2], fun b e => by cases e⟩
  | exit _ => exact ⟨fun s s1 ex _ h => by simp only [evC, Option.some.injEq, Prod.mk.injEq] at h; rw [h.2], fun b e => by cases e⟩
  | ret => exact ⟨fun s s1 ex _ h => by simp only [evC, Option.some.injEq, Prod.mk.injEq] at h; rw [h.2], fun b e => by cases e⟩
  | _ => exact ⟨fun s s1 ex _ h => by simp [evC] at h, fun b e => by cases e⟩

theorem finish_len {fn : Func} {out : Out} {v : Option V} {fs : Frames} (h : finish c fn out = some (v, fs)) : ∃ ex s1 own, out = some (ex, s1) ∧ s1.fs = own :: fs := by
  unfold finish at h
  split at h
  · simp only [Option.some.injEq, Prod.mk.injEq] at h
    exact ⟨_, _, _, rfl, by rw [← h.2]⟩
  · split at h
    · rename_i own rest hfs
      split at h
      · split at h
        · simp only [Option.some.injEq, Prod.mk.injEq] at h
          exact ⟨_, _, own, rfl, by rw [hfs, h.2]⟩
        · simp only [Option.some.injEq, Prod.mk.injEq] at h
          exact ⟨_, _, own, rfl, by rw [hfs, h.2]⟩
        · cases h
      · cases h
    · cases h
  · split at h
    · rename_i own rest hfs
      split at h
      · split at h
        · simp only [Option.some.injEq, Prod.mk.injEq] at h
          exact ⟨_, _, own, rfl, by rw [hfs, h.2]⟩
        · simp only [Option.some.injEq, Prod.mk.injEq] at h
          exact ⟨_, _, own, rfl, by rw [hfs, h.2]⟩
        · cases h
      · cases h
    · cases h
  · cases h

end

/-! ### Results -/

/-- A result variable's value. -/
def resOf (a : Act) : ResultVar → Sem Value
  | .tmp t => pure (a.tmps.getD t undef)
  | .cell x t => do loadVar t (← asAddr (a.tmps.getD x undef))

def RRes (γ : Gh) (β : Bl) (d : Nat) : List V → List Value → Prop
  | [], [] => True
  | v :: vs, u :: us => (∃ p, PosOwn d p ∧ RV γ β (some p) v u) ∧ RRes γ β d vs us
  | _, _ => False

section
variable {P : Program} {N d : Nat} {γ : Gh} {β : Bl} {s : S} {a : Act} {w : World}

theorem resV_ok (hi : Inv N d γ β s a w) {x : ResultVar} {v : V} (h : resV P s x = some v) : ∃ u p, (resOf a x).run P w = .ok u w ∧ PosOwn d p ∧ RV γ β (some p) v u := by
  cases x with
  | tmp t =>
    simp only [resV, Option.some.injEq] at h
    subst h
    exact ⟨_, .tmp d t, by simp [resOf], .inl ⟨t, rfl⟩, hi.tm t⟩
  | cell x t =>
    simp only [resV] at h
    split at h
    · rename_i d' k off hx
      split at h
      · rename_i hd
        split at h
        · rename_i cs hl
          have hp := hi.tm x
          rw [hx] at hp
          simp only [RV, RC] at hp
          obtain ⟨b, hb, hX⟩ := hp
          have hdd : d' = d := by rw [hd, hi.len]; rfl
          subst hdd
          obtain ⟨u, h1, h2⟩ := run_loadVar_cells (f := fun i => some (.obj d' k (off + i))) (hi.at hl hb off) h
          refine ⟨u, .obj d' k off, by simp only [resOf, hX]; simp [asAddr, h1], .inr ⟨k, off, rfl⟩, ?_⟩
          rcases h2 with ⟨c, _, rfl, h3⟩ | ⟨n, _, h3⟩
          · simpa only [RV, Nat.add_zero] using h3
          · exact RV.any h3
        · cases h
      · cases h
    · cases h

theorem resVs_ok (hi : Inv N d γ β s a w) : ∀ (xs : List ResultVar) (vs : List V), resVs P s xs = some vs → ∃ us, (xs.mapM (resOf a)).run P w = .ok us w ∧ RRes γ β d vs us ∧ us.length = vs.length
  | [], vs, h => by
    simp only [resVs, Option.some.injEq] at h
    subst h
    exact ⟨[], by simp, by simp only [RRes], rfl⟩
  | x :: xs, vs, h => by
    simp only [resVs] at h
    split at h
    · rename_i y hy
      split at h
      · rename_i ys hys
        simp only [Option.some.injEq] at h
        subst h
        obtain ⟨u, p, h1, h2, h3⟩ := resV_ok hi hy
        obtain ⟨us, h4, h5, h6⟩ := resVs_ok hi xs ys hys
        exact ⟨u :: us, by simp [List.mapM_cons, h1, h4], by simp only [RRes]; exact ⟨⟨p, h2, h3⟩, h5⟩, by simp [h6]⟩
      · cases h
    · cases h

theorem results_run (fn : Func) {us : List Value} (h : (fn.results.toList.mapM (resOf a)).run P w = .ok us w) : (results fn a.tmps).run P w = .ok (if us.length = 1 then us.headD undef else .tuple us.toArray) w := by
  have e : fn.results.mapM (resOf a) = (List.toArray <$> fn.results.toList.mapM (resOf a)) := Array.mapM_eq_mapM_toList
  have e2 : results fn a.tmps = (do
      let vs ← fn.results.mapM (resOf a)
      pure (if h : vs.size = 1 then vs[0] else .tuple vs)) := by
    unfold results
    congr 1
  rw [e2, e]
  simp only [Sem.run_bind, Sem.run_map, h, Result.andThen_ok, Sem.run_pure]
  cases us with
  | nil => rfl
  | cons u us =>
    cases us with
    | nil => rfl
    | cons _ _ => rfl

/-! ### In, and out -/

theorem params_get : ∀ (xs : List V) (i t : Nat), getT (params i xs) t = if i ≤ t then (xs[t - i]?).getD .junk else .junk
  | [], i, t => by simp [params, getT]
  | x :: xs, i, t => by
    simp only [params, getT_cons, params_get xs (i + 1) t]
    by_cases h : i = t
    · subst h; simp
    · rw [if_neg h]
      by_cases h2 : i + 1 ≤ t
      · rw [if_pos h2, if_pos (by omega), show t - i = (t - (i + 1)) + 1 by omega]
        simp
      · rw [if_neg h2, if_neg (by omega)]

theorem RArgs.get {e : Nat} : ∀ (i : Nat) (xs : List V) (vs : List Value), RArgs γ β e i xs vs → vs.length = xs.length ∧ ∀ (j : Nat) (x : V), xs[j]? = some x → ∃ v, vs[j]? = some v ∧ RV γ β (some (.tmp e (i + j))) x v
  | _, [], [], _ => ⟨rfl, fun j x h => by simp at h⟩
  | _, [], _ :: _, r => by simp only [RArgs] at r
  | _, _ :: _, [], r => by simp only [RArgs] at r
  | i, x :: xs, v :: vs, r => by
    simp only [RArgs] at r
    obtain ⟨h1, h2⟩ := RArgs.get (i + 1) xs vs r.2
    refine ⟨by simp [h1], fun j y hy => ?_⟩
    cases j with
    | zero => simp at hy; subst hy; exact ⟨v, rfl, r.1⟩
    | succ j =>
      simp at hy
      obtain ⟨u, h3, h4⟩ := h2 j y hy
      exact ⟨u, by simpa using h3, by rw [show i + (j + 1) = i + 1 + j by omega]; exact h4⟩

theorem V.le_mono {d e : Nat} (h : d ≤ e) : ∀ x : V, x.le d = true → x.le e = true
  | .c x, hx => C.le_mono h x hx
  | .agg cs, hx => C.leL_mono h cs hx
  | .tup vs, hx => by
    simp only [V.le, List.all_eq_true] at hx ⊢
    intro y hy
    have := hx y hy
    cases y with
    | c x => exact C.le_mono h x this
    | agg cs => exact C.leL_mono h cs this
    | _ => rfl
  | .pe _ _ _ _, _ => rfl
  | .junk, _ => rfl
  | .raw _, _ => rfl

theorem Inv.enter {fs : Frames} {args : List V} {vals : List Value} {n : Nat} (h : WInv d γ β fs w) (ha : RArgs γ β (d + 1) 0 args vals) (hl : ∀ x ∈ args, x.le d = true) (hn : args.length ≤ n) :
    Inv n (d + 1) γ β { m := params 0 args, fs := [] :: fs } { tmps := vals.toArray ++ Array.replicate (n - vals.toArray.size) undef, defers := [] } w := by
  obtain ⟨h1, h2⟩ := RArgs.get 0 args vals ha
  have hfl : fs.length = d + 1 := h.len
  have hlk : ∀ {d' k : Nat} {cs : List C}, look ([] :: fs) d' k = some cs → look fs d' k = some cs := fun {d' k cs} e => by
    by_cases hd : d' = fs.length
    · rw [hd, look_nil_eq] at e; cases e
    · rwa [look_cons_ne hd] at e
  refine ⟨by simp; omega, by simp [hfl], fun t => ?_, fun t => ?_, fun d' k cs e => h.ob d' k cs (hlk e), fun d' k cs e => h.ole d' k cs (hlk e), fun d' k b e => ?_, h.gh, h.mix⟩
  · simp only [params_get, Nat.zero_le, if_true, Nat.sub_zero]
    cases hx : args[t]? with
    | none => simp only [Option.getD_none, RV]
    | some x =>
      obtain ⟨v, hv, hr⟩ := h2 t x hx
      rw [Nat.zero_add] at hr
      have hlt : t < vals.length := (List.getElem?_eq_some_iff.1 hv).1
      have : (vals.toArray ++ Array.replicate (n - vals.toArray.size) undef).getD t undef = v := by
        rw [Array.getD_eq_getD_getElem?, Array.getElem?_append_left (by simpa using hlt)]
        simp [hv]
      rw [this]
      exact hr
  · simp only [params_get, Nat.zero_le, if_true, Nat.sub_zero]
    cases hx : args[t]? with
    | none => rfl
    | some x => exact V.le_mono (by omega) x (hl x (List.mem_of_getElem? hx))
  · obtain ⟨cs, hc⟩ := h.dom d' k b e
    have := look_lt hc
    exact ⟨cs, by rw [look_cons_ne (by omega)]; exact hc⟩

theorem WInv.relab {rest : Frames} (h : WInv d γ β rest w) {p : Pos} (hp : PosOwn (d + 1) p) (q : Pos) : WInv d (relabel γ p q) β rest w where
  len := h.len
  ob d' k cs e := by
    obtain ⟨b, vs, ty, fz, g1, g2, g3, g4⟩ := h.ob d' k cs e
    refine ⟨b, vs, ty, fz, g1, g2, g3, fun i c hc => ?_⟩
    obtain ⟨g5, v, g6, g7⟩ := g4 i c hc
    refine ⟨relabel_obj _ _ _ _ g5, v, g6, RC.perm relabel_perm (fun r hr b o hb => ?_) _ _ g7⟩
    cases hr
    refine relabel_other _ _ hb ?_
    have hlt := look_lt e
    have := h.len
    rcases hp with ⟨t, rfl⟩ | ⟨k', i', rfl⟩
    · simp
    · simp only [ne_eq, Pos.obj.injEq]; omega
  ole := h.ole
  dom := h.dom
  gh := relabel_gh h.gh
  mix := relabel_mix h.mix

theorem Ext.relab {fs : Frames} {p q : Pos} (hp : PosOwn (d + 1) p) : Ext (d + 1) fs γ β w (Ev.relabel γ p q) β w where
  perm := relabel_perm
  tail b o d' t e hd := relabel_other _ _ e (by
    rcases hp with ⟨t, rfl⟩ | ⟨k', i', rfl⟩
    · simp only [ne_eq, Pos.tmp.injEq]; omega
    · simp)
  bl _ _ _ _ e := e
  size := Nat.le_refl _
  still b hb hg := ⟨rfl, relabel_still hg⟩
  hid b d k _ _ _ _ := ⟨rfl, fun o ho => relabel_obj _ _ _ _ ho⟩
  hidt b o d' k i _ hd _ ho := relabel_other _ _ ho (by
    rcases hp with ⟨t, rfl⟩ | ⟨k', i', rfl⟩
    · simp
    · simp only [ne_eq, Pos.obj.injEq]; omega)
  os := rfl
  tape := rfl
  output := rfl

theorem freezeVs_ok {own : Fr} {rest : Frames} (h : WInv (d + 1) γ β (own :: rest) w) : ∀ (vs ys : List V) (us : List Value), freezeVs own (d + 1) vs = some ys → RRes γ β (d + 1) vs us →
    RRes (thaw γ β (d + 1) w) (Bl.hide β (d + 1)) (d + 1) ys us ∧ (∀ y ∈ ys, y.le d = true ∧ ((∃ c, y = .c c) ∨ ∃ cs, y = .agg cs)) ∧ ys.length = us.length
  | [], ys, us, hf, hr => by
    simp only [freezeVs, Option.some.injEq] at hf
    subst hf
    cases us with
    | nil => exact ⟨by simp only [RRes], fun y hy => by simp at hy, rfl⟩
    | cons _ _ => simp only [RRes] at hr
  | v :: vs, ys, us, hf, hr => by
    simp only [freezeVs] at hf
    split at hf
    · rename_i y hy
      split at hf
      · rename_i ys' hys
        simp only [Option.some.injEq] at hf
        subst hf
        cases us with
        | nil => simp only [RRes] at hr
        | cons u us =>
          simp only [RRes] at hr
          obtain ⟨⟨p, hp, hrv⟩, hr2⟩ := hr
          obtain ⟨h1, h2, h3⟩ := freezeV_ok h hy hrv
          obtain ⟨h4, h5, h6⟩ := freezeVs_ok h vs ys' us hys hr2
          refine ⟨by simp only [RRes]; exact ⟨⟨p, hp, h1⟩, h4⟩, fun z hz => ?_, by simp [h6]⟩
          rcases List.mem_cons.1 hz with rfl | hz
          · exact ⟨h2, h3⟩
          · exact h5 z hz
      · cases hf
    · cases hf

theorem RRes.tup {e : Nat} : ∀ (ys : List V) (us : List Value), RRes γ β e ys us → (∀ y ∈ ys, y.le d = true ∧ ((∃ c, y = .c c) ∨ ∃ cs, y = .agg cs)) → RVs γ β (ys.map V.strip) us ∧ (ys.map V.strip).all (V.le1 d) = true
  | [], [], _, _ => ⟨by simp only [List.map_nil, RVs], rfl⟩
  | [], _ :: _, r, _ => by simp only [RRes] at r
  | _ :: _, [], r, _ => by simp only [RRes] at r
  | y :: ys, u :: us, r, h => by
    simp only [RRes] at r
    obtain ⟨⟨p, _, hrv⟩, r2⟩ := r
    obtain ⟨h1, h2⟩ := RRes.tup ys us r2 (fun z hz => h z (by simp [hz]))
    obtain ⟨h3, h4⟩ := h y (by simp)
    have hs := RV.strip_of (q := none) _ _ hrv
    have hl : y.strip.le d = true := by rw [V.le_strip]; exact h3
    simp only [List.map_cons, RVs, List.all_cons, Bool.and_eq_true]
    rcases h4 with ⟨c, rfl⟩ | ⟨cs, rfl⟩
    · exact ⟨⟨by simpa only [RV1, RV, V.strip] using hs, h1⟩, hl, h2⟩
    · exact ⟨⟨by simpa only [RV1, RV, V.strip] using hs, h1⟩, hl, h2⟩

theorem finish_ok {c : Cfg} {fn : Func} {s1 : S} {ex : Ex} {e : Exit} {r : Option V} {fs fs' : Frames} {γ₀ : Gh} {β₀ : Bl} {w₀ : World} (hi : Inv N (d + 1) γ β s1 a w) (he : exOf ex e) (h : finish c fn (some (ex, s1)) = some (r, fs')) (hP : c.P = P)
    (hfs : fs.length = d + 1) (hx : Ext (d + 1) ([] :: fs) γ₀ β₀ w₀ γ β w) (hs : Shape (d + 1) ([] :: fs) s1.fs) (hdf : a.defers = []) (q : Nat) : bodyPost P fn (Ends d fs γ₀ β₀ w₀ r fs' (.tmp d q)) e a w := by
  subst hP
  obtain ⟨_, _, own, h0, hown⟩ := finish_len h
  simp only [Option.some.injEq, Prod.mk.injEq] at h0
  obtain ⟨rfl, rfl⟩ := h0
  have hw := hi.winv
  rw [hown] at hw
  have hl : fs'.length = d + 1 := by simpa using hw.len
  have hsh : Shape (d + 1) fs fs' := fun d' k h1 h2 => by
    have := hs d' k h1 h2
    rwa [hown, look_cons_ne (by omega), look_cons_ne (by omega)] at this
  have hdrop := hw.drop
  have hxd := Ext.drop hw hfs hx
  have good : (∃ vs, resVs c.P s1 fn.results.toList = some vs ∧ (match freezeVs own fs'.length vs with | some [v] => some (some v, fs') | some vs => some (some (.tup (vs.map V.strip)), fs') | none => none) = some (r, fs')) →
      ∃ v, (results fn a.tmps).run c.P w = .ok v w ∧ Ends d fs γ₀ β₀ w₀ r fs' (.tmp d q) (.returned v) w := by
    rintro ⟨vs, hvs, hfr⟩
    obtain ⟨us, h1, h2, h3⟩ := resVs_ok hi _ _ hvs
    have hrun := results_run fn h1
    rw [hl] at hfr
    split at hfr
    · rename_i v hv
      simp only [Option.some.injEq, Prod.mk.injEq, and_true] at hfr
      subst hfr
      obtain ⟨h4, h5, h6⟩ := freezeVs_ok hw vs [v] us hv h2
      cases us with
      | nil => simp at h6
      | cons u us =>
        cases us with
        | cons _ _ => simp at h6
        | nil =>
          simp only [RRes, and_true] at h4
          obtain ⟨p, hp, hrv⟩ := h4
          refine ⟨u, by simpa using hrun, v, _, _, rfl, hdrop.relab hp (.tmp d q), hxd.trans (Ext.relab hp) (Shape.refl _ _), hsh, RV.moves _ _ hrv, (h5 v (by simp)).1⟩
    · rename_i ys hne hv
      simp only [Option.some.injEq, Prod.mk.injEq, and_true] at hfr
      subst hfr
      obtain ⟨h4, h5, h6⟩ := freezeVs_ok hw vs ys us hv h2
      obtain ⟨h7, h8⟩ := RRes.tup (d := d) ys us h4 h5
      have hlen : us.length ≠ 1 := fun e => by
        rw [e] at h6
        cases ys with
        | nil => simp at h6
        | cons y ys =>
          cases ys with
          | nil => exact hne y rfl
          | cons _ _ => simp at h6
      rw [if_neg hlen] at hrun
      refine ⟨_, hrun, _, _, _, rfl, hdrop, hxd, hsh, ?_, ?_⟩
      · simp only [RV]
        exact ⟨_, rfl, h7⟩
      · exact h8
    · cases hfr
  have split2 : (match s1.fs with
      | own :: rest => match resVs c.P s1 fn.results.toList with
        | some vs => match freezeVs own rest.length vs with
          | some [v] => some (some v, rest)
          | some vs => some (some (.tup (vs.map V.strip)), rest)
          | none => none
        | none => none
      | [] => none) = some (r, fs') → ∃ vs, resVs c.P s1 fn.results.toList = some vs ∧ (match freezeVs own fs'.length vs with | some [v] => some (some v, fs') | some vs => some (some (.tup (vs.map V.strip)), fs') | none => none) = some (r, fs') := fun h => by
    rw [hown] at h
    simp only [] at h
    split at h
    · rename_i vs hvs
      exact ⟨vs, hvs, h⟩
    · cases h
  cases ex with
  | normal =>
    cases e with
    | normal => exact ⟨hdf, good (split2 h)⟩
    | _ => exact he.elim
  | ret =>
    cases e with
    | ret => exact ⟨hdf, good (split2 h)⟩
    | _ => exact he.elim
  | exit i => simp [finish] at h
  | panic =>
    cases e with
    | panic chain =>
      refine ⟨hdf, _, _, ?_, hdrop, hxd, hsh⟩
      unfold finish at h
      obtain ⟨m, fs1⟩ := s1
      simp only at hown
      subst hown
      simp only [Option.some.injEq, Prod.mk.injEq] at h
      exact h.1.symm
    | _ => exact he.elim

end

/-! ### The theorem -/

/-- What a library function is to do, as the evaluator takes it. -/
structure PrimOK (P : Program) (g : FuncId) (p : List V → Frames → Option (Option V × Frames)) : Prop where
  even : ∀ args fs v fs', p args fs = some (v, fs') → fs'.length = fs.length
  enter : ∀ vals w, (callFunc g vals).run P w = .ok (.enter g vals) w
  calls : ∀ args fs r fs', p args fs = some (r, fs') → ∀ dep γ β w vals q, 1 ≤ dep → WInv dep γ β fs w → RArgs γ β (dep + 1) 0 args vals → (∀ x ∈ args, x.le dep = true) → Calls P g vals.toArray w (Ends dep fs γ β w r fs' (.tmp dep q))

/-- What is asked of a configuration. -/
structure CfgOK (c : Cfg) : Prop where
  mixed : c.P.follows .mixedOrders = true
  fns : ∀ f, c.ok f = true → ∀ fn b, c.P.funcs[f]? = some fn → fn.body = some b → (fn.name == "runtime.NumGoroutine") = false ∧ codeOK c f (resTmps fn) fn.ntmps b = true
  prims : ∀ g p, c.prim g = some p → PrimOK c.P g p

theorem iterK_itOK (n : Nat) : ItOK (fun stp l s => iterK stp l n s) := fun _ _ _ _ h => ⟨n, h⟩

theorem callFunc_enter {P : Program} {g : FuncId} {fn : Func} {b : Code} (hf : P.funcs[g]? = some fn) (hb : fn.body = some b) (hn : (fn.name == "runtime.NumGoroutine") = false) (vals : Array Value) (w : World) : (callFunc g vals).run P w = .ok (.enter g vals) w := by
  have hn' : fn.name ≠ "runtime.NumGoroutine" := by simpa using hn
  simp [callFunc, hf, hb, hn']

/-- One more call. -/
theorem call_ok {c : Cfg} (hcfg : CfgOK c) {call : CallF} {it : (S → Out) → List Nat → S → Out} (hcall : CallOK c.P call) (hc : Even call) (hit : ItOK it) {g : FuncId} {fn : Func} {b : Code} (hok : c.ok g = true) (hf : c.P.funcs[g]? = some fn) (hb : fn.body = some b)
    {args : List V} {fs : Frames} {r : Option V} {fs' : Frames} (hn : args.length ≤ fn.ntmps) (h : finish c fn (evC c call it g (resTmps fn) b { m := params 0 args, fs := [] :: fs }) = some (r, fs')) :
    fs'.length = fs.length ∧ (∀ vals w, (callFunc g vals).run c.P w = .ok (.enter g vals) w) ∧
      ∀ dep γ β w vals q, 1 ≤ dep → WInv dep γ β fs w → RArgs γ β (dep + 1) 0 args vals → (∀ x ∈ args, x.le dep = true) → Calls c.P g vals.toArray w (Ends dep fs γ β w r fs' (.tmp dep q)) := by
  obtain ⟨h1, h2⟩ := hcfg.fns g hok fn b hf hb
  obtain ⟨ex, s1, own, h3, h4⟩ := finish_len h
  refine ⟨?_, callFunc_enter hf hb h1, fun dep γ β w vals q hdep hw ha hl => ?_⟩
  · have := (evC_len hc hit b).1 _ _ _ (by simp) h3
    rw [h4] at this
    simpa using this
  · refine calls_of_wp hf hb ?_
    refine evC_ok hcall hc hit (by omega : 1 ≤ dep + 1) hcfg.mixed b h2 _ _ _ _ _ _ _ _ h3 (Inv.enter hw ha hl hn) fun e γ' β' a' w' k1 k2 k3 k4 k5 => ?_
    rw [h3] at h
    exact finish_ok k2 k1 h rfl hw.len k3 k4 (by rw [k5]) q

theorem callN_ok {c : Cfg} (hcfg : CfgOK c) : ∀ n, CallOK c.P (callN c n) ∧ Even (callN c n)
  | 0 => ⟨fun g args fs r fs' h => by simp [callN] at h, fun g args fs v fs' h => by simp [callN] at h⟩
  | n + 1 => by
    obtain ⟨ih1, ih2⟩ := callN_ok hcfg n
    have key : ∀ g args fs r fs', callN c (n + 1) g args fs = some (r, fs') → fs'.length = fs.length ∧ (∀ vals w, (callFunc g vals).run c.P w = .ok (.enter g vals) w) ∧
        ∀ dep γ β w vals q, 1 ≤ dep → WInv dep γ β fs w → RArgs γ β (dep + 1) 0 args vals → (∀ x ∈ args, x.le dep = true) → Calls c.P g vals.toArray w (Ends dep fs γ β w r fs' (.tmp dep q)) := fun g args fs r fs' h => by
      simp only [callN] at h
      split at h
      · rename_i p hp
        have := hcfg.prims g p hp
        exact ⟨this.even _ _ _ _ h, this.enter, this.calls _ _ _ _ h⟩
      · split at h
        · rename_i hok
          split at h
          · rename_i fn hf
            split at h
            · rename_i b hb
              split at h
              · rename_i hn
                exact call_ok hcfg ih1 ih2 (iterK_itOK n) hok hf hb hn h
              · cases h
            · cases h
          · cases h
        · cases h
    exact ⟨fun g args fs r fs' h => (key g args fs r fs' h).2, fun g args fs v fs' h => (key g args fs v fs' h).1⟩

end Go.Ev
