/- Operations that may stand either way round. -/
import Derived.Test.YtbfllngekcckeaaGreatDoorEvR
set_option linter.unusedSimpArgs false
namespace Go.Ev

def Eqv (s s' : S) : Prop := s.fs = s'.fs ∧ ∀ t, getT s.m t = getT s'.m t

theorem Eqv.refl (s : S) : Eqv s s := ⟨rfl, fun _ => rfl⟩
theorem Eqv.symm {s s' : S} (h : Eqv s s') : Eqv s' s := ⟨h.1.symm, fun t => (h.2 t).symm⟩
theorem Eqv.trans {a b c : S} (h : Eqv a b) (k : Eqv b c) : Eqv a c := ⟨h.1.trans k.1, fun t => (h.2 t).trans (k.2 t)⟩

theorem fs_ext {x y : Frames} (h1 : x.head? = y.head?) (h2 : x.tail = y.tail) (hl : x.length = y.length) : x = y := by
  cases x with
  | nil => cases y with
    | nil => rfl
    | cons _ _ => simp at hl
  | cons a r => cases y with
    | nil => simp at hl
    | cons b r' =>
      simp at h1 h2
      rw [h1, h2]

def wrT (c : Cfg) (fd : List Nat) (o : Oper) : List Nat := o.dst.toList ++ gvL c fd o

section
variable {c : Cfg} {call : CallF} {f r : Nat} {ops : Array Oper} {fd : List Nat} {strict : Bool} {o : Oper} {s s' s1 s2 : S} {v : V}

theorem gvL_sub {t : Nat} (h : t ∈ gvL c fd o) : Operand.tmp t ∈ o.op.operands := by
  have tm : ∀ {x : Operand}, t ∈ tmL x → x = .tmp t := fun {x} h => by
    cases x with
    | tmp n => simp [tmL] at h; rw [h]
    | _ => simp [tmL] at h
  unfold gvL at h
  cases hop : o.op with
  | move x =>
    simp only [hop] at h
    split at h
    · have := tm h; subst this; simp [Op.operands]
    · cases h
  | assign x => simp only [hop] at h; have := tm h; subst this; simp [Op.operands]
  | box _ x => simp only [hop] at h; have := tm h; subst this; simp [Op.operands]
  | store _ _ x => simp only [hop] at h; have := tm h; subst this; simp [Op.operands]
  | slice _ x _ _ _ => simp only [hop] at h; have := tm h; subst this; simp [Op.operands]
  | call k =>
    simp only [hop] at h
    split at h
    · split at h
      · rename_i x y ha
        have := tm h; subst this
        have : Operand.tmp t ∈ k.args := by rw [← Array.mem_toList_iff, ha]; simp
        simp [Op.operands, Call.operands, this]
      · cases h
    · split at h
      · obtain ⟨x, hx, ht⟩ := List.mem_flatMap.1 h
        have := tm ht; subst this
        simp [Op.operands, Call.operands, Array.mem_toList_iff.1 hx]
      · cases h
    · cases h
  | _ => simp only [hop] at h; cases h

theorem fuL_sub : ((fuL c f r fd strict o).2.2.1 = true → (fuL c f r fd strict o).1 = true) ∧ ((fuL c f r fd strict o).2.2.2 = true → (fuL c f r fd strict o).2.1 = true) := by
  unfold fuL
  (repeat' split) <;> simp

theorem looks_op {t : Nat} (h : Operand.tmp t ∈ o.op.operands) : t ∈ o.looksAt ops := by
  unfold Oper.looksAt
  refine List.mem_append_left _ (List.mem_filterMap.2 ⟨.tmp t, by simpa using h, rfl⟩)

theorem stepW_loc (hc : Even call) (ht : ∀ t ∈ o.looksAt ops, getT s.m t = getT s'.m t) (hlen : s.fs.length = s'.fs.length) (hne : s.fs ≠ [])
    (ho : (fuL c f r fd strict o).1 = true → s.fs.head? = s'.fs.head?) (hr : (fuL c f r fd strict o).2.1 = true → s.fs.tail = s'.fs.tail)
    (h : stepW c call f r ops fd strict o s = some (.normal, s1)) :
    ∃ s1', stepW c call f r ops fd strict o s' = some (.normal, s1') ∧ s1.fs.length = s.fs.length ∧ s1'.fs.length = s'.fs.length ∧
      (∀ t ∈ wrT c fd o, getT s1.m t = getT s1'.m t) ∧ (∀ t, t ∉ wrT c fd o → getT s1.m t = getT s.m t ∧ getT s1'.m t = getT s'.m t) ∧
      ((fuL c f r fd strict o).2.2.1 = true → s1.fs.head? = s1'.fs.head?) ∧ ((fuL c f r fd strict o).2.2.2 = true → s1.fs.tail = s1'.fs.tail) ∧
      ((fuL c f r fd strict o).2.2.1 = false → s1.fs.head? = s.fs.head? ∧ s1'.fs.head? = s'.fs.head?) ∧ ((fuL c f r fd strict o).2.2.2 = false → s1.fs.tail = s.fs.tail ∧ s1'.fs.tail = s'.fs.tail) := by
  have hev : ∀ x ∈ o.op.operands, ∀ t, ev c.P t s'.m x = ev c.P t s.m x := fun x hx t => by
    cases x with
    | tmp n => simp only [ev]; exact (ht n (looks_op hx)).symm
    | _ => rfl
  have hw : wantedV ops o s'.m = wantedV ops o s.m := by
    unfold wantedV
    cases hg : o.guard with
    | none => rfl
    | some jw =>
      obtain ⟨j, want⟩ := jw
      simp only []
      cases hd : (ops[j]?).bind (·.dst) with
      | none => rfl
      | some t =>
        simp only []
        rw [ht t (by unfold Oper.looksAt; simp [hg, hd])]
  unfold stepW at h ⊢
  rw [hw]
  split at h
  · obtain ⟨s1', v, h1, h2, h3, h4, h5, h6, h7, h8, h9⟩ := step_like hc hev hlen hne ho hr h
    refine ⟨s1', h1, h2, h3, fun t htw => ?_, fun t htw => ?_, h4, h5, h6, h7⟩
    · rw [h8, h9]
      split
      · rfl
      · rename_i hd
        unfold wrT at htw
        rcases List.mem_append.1 htw with h | h
        · exact absurd (by simpa using h) hd
        · have := ht t (looks_op (gvL_sub h))
          simp only [stripL, this]
    · unfold wrT at htw
      simp only [List.mem_append, not_or, Option.mem_toList] at htw
      rw [h8, h9, if_neg (fun e => htw.1 e), if_neg (fun e => htw.1 e)]
      simp [stripL, htw.2]
  · simp only [Option.some.injEq, Prod.mk.injEq, true_and] at h
    subst h
    refine ⟨_, rfl, by rw [put_fs], by rw [put_fs], fun t htw => ?_, fun t htw => ?_, ?_, ?_, ?_, ?_⟩
    · rw [put_m, put_m]
      split
      · rfl
      · rename_i hd
        unfold wrT at htw
        rcases List.mem_append.1 htw with h | h
        · exact absurd (by simpa using h) hd
        · exact ht t (looks_op (gvL_sub h))
    · unfold wrT at htw
      simp only [List.mem_append, not_or, Option.mem_toList] at htw
      rw [put_m, put_m, if_neg (fun e => htw.1 e), if_neg (fun e => htw.1 e)]
      exact ⟨rfl, rfl⟩
    · intro hx; rw [put_fs, put_fs]; exact ho (fuL_sub.1 hx)
    · intro hx; rw [put_fs, put_fs]; exact hr (fuL_sub.2 hx)
    · intro _; rw [put_fs, put_fs]; exact ⟨rfl, rfl⟩
    · intro _; rw [put_fs, put_fs]; exact ⟨rfl, rfl⟩
  · cases h

theorem stepW_eqv (hc : Even call) (he : Eqv s s') (hne : s.fs ≠ []) (h : stepW c call f r ops fd strict o s = some (.normal, s1)) :
    ∃ s1', stepW c call f r ops fd strict o s' = some (.normal, s1') ∧ Eqv s1 s1' ∧ s1.fs ≠ [] := by
  obtain ⟨s1', h1, h2, h3, h4, h5, h6, h7, h8, h9⟩ := stepW_loc (strict := strict) (fd := fd) (f := f) (r := r) (c := c) (ops := ops) hc (fun t _ => he.2 t) (by rw [he.1]) hne (fun _ => by rw [he.1]) (fun _ => by rw [he.1]) h
  refine ⟨s1', h1, ⟨fs_ext ?_ ?_ (by rw [h2, h3, he.1]), fun t => ?_⟩, fun e => ?_⟩
  · cases hw : (fuL c f r fd strict o).2.2.1 with
    | true => exact h6 hw
    | false => rw [(h8 hw).1, (h8 hw).2, he.1]
  · cases hw : (fuL c f r fd strict o).2.2.2 with
    | true => exact h7 hw
    | false => rw [(h9 hw).1, (h9 hw).2, he.1]
  · by_cases hw : t ∈ wrT c fd o
    · exact h4 t hw
    · rw [(h5 t hw).1, (h5 t hw).2, he.2]
  · rw [e] at h2
    exact hne (List.eq_nil_of_length_eq_zero h2.symm)

/-- Two operations none of which looks at what the other one turns. -/
def indep (c : Cfg) (f r : Nat) (ops : Array Oper) (fd : List Nat) (sx sy : Bool) (x y : Oper) : Bool :=
  (wrT c fd x).all (fun t => !(y.looksAt ops).contains t && !(wrT c fd y).contains t) && (wrT c fd y).all (fun t => !(x.looksAt ops).contains t) &&
  !((fuL c f r fd sx x).2.2.1 && (fuL c f r fd sy y).1) && !((fuL c f r fd sy y).2.2.1 && (fuL c f r fd sx x).1) &&
  !((fuL c f r fd sx x).2.2.2 && (fuL c f r fd sy y).2.1) && !((fuL c f r fd sy y).2.2.2 && (fuL c f r fd sx x).2.1)

theorem stepW_swap (hc : Even call) {x y : Oper} {sx sy : Bool} (hi : indep c f r ops fd sx sy x y = true) (hne : s.fs ≠ []) (h1 : stepW c call f r ops fd sx x s = some (.normal, s1)) (h2 : stepW c call f r ops fd sy y s1 = some (.normal, s2)) :
    ∃ s1' s2', stepW c call f r ops fd sy y s = some (.normal, s1') ∧ stepW c call f r ops fd sx x s1' = some (.normal, s2') ∧ Eqv s2 s2' ∧ s1'.fs ≠ [] := by
  simp only [indep, Bool.and_eq_true, List.all_eq_true, Bool.not_eq_true', List.contains_eq_mem, decide_eq_false_iff_not, Bool.and_eq_false_iff] at hi
  obtain ⟨⟨⟨⟨⟨i1, i2⟩, i3⟩, i4⟩, i5⟩, i6⟩ := hi
  -- the first one, alone
  obtain ⟨_, a0, a1, a2, a3, a4, a5, a6, a7, a8⟩ := stepW_loc (c := c) (call := call) (f := f) (r := r) (ops := ops) (fd := fd) (strict := sx) (o := x) (s := s) (s' := s) hc (fun _ _ => rfl) rfl hne (fun _ => rfl) (fun _ => rfl) h1
  have hne1 : s1.fs ≠ [] := fun e => by rw [e] at a1; exact hne (List.eq_nil_of_length_eq_zero a1.symm)
  -- the second one, first
  obtain ⟨s1', b0, b1, b2, b3, b4, b5, b6, b7, b8⟩ := stepW_loc (c := c) (call := call) (f := f) (r := r) (ops := ops) (fd := fd) (strict := sy) (o := y) (s := s1) (s' := s) hc
    (fun t ht => (a4 t (fun hw => (i1 t hw).1 ht)).1) a1 hne1
    (fun hu => (a7 (by rcases i3 with h | h; exact h; rw [hu] at h; cases h)).1) (fun hu => (a8 (by rcases i5 with h | h; exact h; rw [hu] at h; cases h)).1) h2
  have hne1' : s1'.fs ≠ [] := fun e => by rw [e] at b2; exact hne (List.eq_nil_of_length_eq_zero b2.symm)
  -- then the first one
  obtain ⟨s2', c0, c1, c2, c3, c4, c5, c6, c7, c8⟩ := stepW_loc (c := c) (call := call) (f := f) (r := r) (ops := ops) (fd := fd) (strict := sx) (o := x) (s := s) (s' := s1') hc
    (fun t ht => (b4 t (fun hw => i2 t hw ht)).2.symm) b2.symm hne
    (fun hu => (b7 (by rcases i4 with h | h; exact h; rw [hu] at h; cases h)).2.symm) (fun hu => (b8 (by rcases i6 with h | h; exact h; rw [hu] at h; cases h)).2.symm) h1
  refine ⟨s1', s2', b0, c0, ⟨fs_ext ?_ ?_ (by rw [b1, a1, c2, b2]), fun t => ?_⟩, hne1'⟩
  · cases hx : (fuL c f r fd sx x).2.2.1 with
    | true =>
      have hy : (fuL c f r fd sy y).2.2.1 = false := by
        cases hy : (fuL c f r fd sy y).2.2.1 with
        | false => rfl
        | true =>
          have := fuL_sub.1 hy
          rcases i3 with h | h
          · rw [hx] at h; cases h
          · rw [this] at h; cases h
      rw [(b7 hy).1, ← c5 hx]
    | false =>
      rw [(c7 hx).2]
      cases hy : (fuL c f r fd sy y).2.2.1 with
      | true => exact b5 hy
      | false => rw [(b7 hy).1, (b7 hy).2, (a7 hx).1]
  · cases hx : (fuL c f r fd sx x).2.2.2 with
    | true =>
      have hy : (fuL c f r fd sy y).2.2.2 = false := by
        cases hy : (fuL c f r fd sy y).2.2.2 with
        | false => rfl
        | true =>
          have := fuL_sub.2 hy
          rcases i5 with h | h
          · rw [hx] at h; cases h
          · rw [this] at h; cases h
      rw [(b8 hy).1, ← c6 hx]
    | false =>
      rw [(c8 hx).2]
      cases hy : (fuL c f r fd sy y).2.2.2 with
      | true => exact b6 hy
      | false => rw [(b8 hy).1, (b8 hy).2, (a8 hx).1]
  · by_cases hx : t ∈ wrT c fd x
    · rw [(b4 t (i1 t hx).2).1, ← c3 t hx]
    · rw [(c4 t hx).2]
      by_cases hy : t ∈ wrT c fd y
      · exact b3 t hy
      · rw [(b4 t hy).1, (b4 t hy).2, (a4 t hx).1]

end

end Go.Ev
