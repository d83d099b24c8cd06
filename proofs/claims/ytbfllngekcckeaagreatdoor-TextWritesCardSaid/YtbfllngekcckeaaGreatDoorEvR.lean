/- What an operation looks at, and what it turns. -/
import Derived.Test.YtbfllngekcckeaaGreatDoorEvQ
set_option linter.unusedSimpArgs false
namespace Go.Ev

def tmL : Operand → List Nat
  | .tmp t => [t]
  | _ => []

/-- The temporaries whose right to append goes. -/
def gvL (c : Cfg) (fd : List Nat) (o : Oper) : List Nat := match o.op with
  | .move x => if feeds fd o.dst then tmL x else []
  | .assign x | .box _ x | .store _ _ x | .slice _ x _ _ _ => tmL x
  | .call k => match k.callee with
    | .builtin .append => match k.args.toList with
      | [x, _] => tmL x
      | _ => []
    | .value _ => if consOf c k then k.args.toList.flatMap tmL else []
    | _ => []
  | _ => []

/-- Of the own frame and of those below: looked at, looked at, written, written. -/
def fuL (c : Cfg) (f r : Nat) (fd : List Nat) (strict : Bool) (o : Oper) : Bool × Bool × Bool × Bool := match o.op with
  | .alloc t | .box t _ => if c.esc f t then (false, true, false, true) else (true, false, true, false)
  | .buildSlice _ _ _ => if c.arr f r then (true, false, true, false) else (false, false, false, false)
  | .makeSlice _ _ _ => (true, false, true, false)
  | .load _ _ => (true, !strict, feeds fd o.dst, feeds fd o.dst && !strict)
  | .store _ _ _ => (true, true, true, true)
  | .call k => match k.callee with
    | .builtin .append => (true, true, false, false)
    | .builtin .copy => (true, true, true, true)
    | .builtin _ => (false, false, false, false)
    | .value (.func g) => if c.sealed g then (false, true, false, true) else (true, true, true, true)
    | _ => (true, true, true, true)
  | _ => (false, false, false, false)

def stripL (l : List Nat) (m : M) (t : Nat) : V := if l.contains t then (getT m t).strip else getT m t

theorem give_m (s : S) (x : Operand) (t : Nat) : getT (give s x).m t = stripL (tmL x) s.m t := by
  cases x with
  | tmp n =>
    have hc : (tmL (.tmp n)).contains t = decide (t = n) := by simp [tmL]
    simp only [give, stripL, hc]
    by_cases e : t = n
    · subst e
      simp only [decide_true, if_true]
      split
      · simp [getT_cons]
      · rename_i h
        exact (V.strip_id _ (by simpa using h)).symm
    · simp only [e, decide_false, Bool.false_eq_true, if_false]
      split
      · simp only [getT_cons]
        rw [if_neg (fun h => e h.symm)]
      · rfl
  | _ => rfl

/-- What an operation does, and does alike from an alike state. -/
def Alike (fu : Bool × Bool × Bool × Bool) (gv : List Nat) (s s1 s' : S) (run : Option (V × S)) (v : V) : Prop :=
  ∃ s1', run = some (v, s1') ∧ s1.fs.length = s.fs.length ∧ s1'.fs.length = s'.fs.length ∧
    (fu.2.2.1 = true → s1.fs.head? = s1'.fs.head?) ∧ (fu.2.2.2 = true → s1.fs.tail = s1'.fs.tail) ∧
    (fu.2.2.1 = false → s1.fs.head? = s.fs.head? ∧ s1'.fs.head? = s'.fs.head?) ∧ (fu.2.2.2 = false → s1.fs.tail = s.fs.tail ∧ s1'.fs.tail = s'.fs.tail) ∧
    (∀ t, getT s1.m t = stripL gv s.m t) ∧ (∀ t, getT s1'.m t = stripL gv s'.m t)

theorem Alike.same {fu : Bool × Bool × Bool × Bool} {gv : List Nat} {s s' : S} {run : Option (V × S)} {v : V} (h : run = some (v, s')) (hg : gv = []) (h1 : fu.2.2.1 = false) (h2 : fu.2.2.2 = false) : Alike fu gv s s s' run v := by
  subst hg
  exact ⟨s', h, rfl, rfl, (by simp [h1]), (by simp [h2]), fun _ => ⟨rfl, rfl⟩, fun _ => ⟨rfl, rfl⟩, fun _ => rfl, fun _ => rfl⟩

theorem Alike.give {fu : Bool × Bool × Bool × Bool} {gv : List Nat} {s s' : S} {run : Option (V × S)} {v : V} {x : Operand} (h : run = some (v, Ev.give s' x)) (hg : gv = tmL x) (h1 : fu.2.2.1 = false) (h2 : fu.2.2.2 = false) : Alike fu gv s (Ev.give s x) s' run v := by
  subst hg
  have e (s : S) : (Ev.give s x).fs = s.fs := by rw [give_fs]
  exact ⟨_, h, by rw [e], by rw [e], (by simp [h1]), (by simp [h2]), fun _ => ⟨by rw [e], by rw [e]⟩, fun _ => ⟨by rw [e], by rw [e]⟩, give_m s x, give_m s' x⟩

section
variable {c : Cfg} {f r : Nat} {fd : List Nat} {strict : Bool} {o : Oper} {s s' s1 : S} {v : V}

theorem newObj_like {g : Bool} {s s' s1 : S} {cs : List C} {p : C} (hlen : s.fs.length = s'.fs.length) (ho : g = false → s.fs.head? = s'.fs.head?) (hr : g = true → s.fs.tail = s'.fs.tail) (h : newObj g s cs = some (p, s1)) :
    ∃ s1', newObj g s' cs = some (p, s1') ∧ s1.m = s.m ∧ s1'.m = s'.m ∧ s1.fs.length = s.fs.length ∧ s1'.fs.length = s'.fs.length ∧
      (g = false → s1.fs.head? = s1'.fs.head? ∧ s1.fs.tail = s.fs.tail ∧ s1'.fs.tail = s'.fs.tail) ∧ (g = true → s1.fs.tail = s1'.fs.tail ∧ s1.fs.head? = s.fs.head? ∧ s1'.fs.head? = s'.fs.head?) := by
  unfold newObj at h ⊢
  cases hfs : s.fs with
  | nil => simp [hfs] at h
  | cons own rest =>
    cases hfs' : s'.fs with
    | nil => rw [hfs, hfs'] at hlen; simp at hlen
    | cons own' rest' =>
      rw [hfs, hfs'] at hlen ho hr
      simp only [List.length_cons, Nat.add_right_cancel_iff] at hlen
      simp only [List.head?_cons, Option.some.injEq] at ho
      simp only [List.tail_cons] at hr
      rw [hfs] at h
      simp only [] at h ⊢
      cases g with
      | true =>
        have := hr rfl
        subst this
        simp only [if_true] at h ⊢
        split at h
        · rename_i k r' hp
          split at h
          · rename_i hle
            simp only [Option.some.injEq, Prod.mk.injEq] at h
            obtain ⟨rfl, rfl⟩ := h
            have hl := (pushBot_ok cs rest k r' hp).1
            exact ⟨{ s' with fs := own' :: r' }, by rw [if_pos hle], rfl, rfl, by simp [hl], by simp [hl], (fun h => by cases h), fun _ => ⟨rfl, rfl, rfl⟩⟩
          · cases h
        · cases h
      | false =>
        have := ho rfl
        subst this
        simp only [Bool.false_eq_true, if_false, Option.some.injEq, Prod.mk.injEq] at h ⊢
        obtain ⟨rfl, rfl⟩ := h
        exact ⟨{ s' with fs := (own ++ [cs]) :: rest' }, ⟨by rw [hlen], rfl⟩, rfl, rfl, by simp, by simp, fun _ => ⟨rfl, rfl, rfl⟩, fun h => by cases h⟩

theorem opv_like (hs : ∀ x ∈ o.op.operands, ∀ t, ev c.P t s'.m x = ev c.P t s.m x) (hlen : s.fs.length = s'.fs.length) (hne : s.fs ≠ [])
    (ho : (fuL c f r fd strict o).1 = true → s.fs.head? = s'.fs.head?) (hr : (fuL c f r fd strict o).2.1 = true → s.fs.tail = s'.fs.tail)
    (h : opv c f r fd strict o s = some (v, s1)) : Alike (fuL c f r fd strict o) (gvL c fd o) s s1 s' (opv c f r fd strict o s') v := by
  obtain ⟨own, rest, hfs⟩ : ∃ own rest, s.fs = own :: rest := by
    cases h : s.fs with
    | nil => exact absurd h hne
    | cons a b => exact ⟨a, b, rfl⟩
  obtain ⟨own', rest', hfs'⟩ : ∃ own rest, s'.fs = own :: rest := by
    cases h : s'.fs with
    | nil => rw [h] at hlen; rw [hfs] at hlen; simp at hlen
    | cons a b => exact ⟨a, b, rfl⟩
  have hlen' : rest.length = rest'.length := by rw [hfs, hfs'] at hlen; simpa using hlen
  unfold opv at h ⊢
  cases hop : o.op with
  | move x =>
    simp only [hop, Op.operands, List.mem_toArray, List.mem_singleton, forall_eq] at hs h ⊢
    simp only [hs]
    split at h
    · rename_i hf
      simp only [Option.some.injEq, Prod.mk.injEq] at h
      obtain ⟨rfl, rfl⟩ := h
      exact Alike.give (by simp [hf]) (by simp [gvL, hop, hf]) (by simp [fuL, hop]) (by simp [fuL, hop])
    · rename_i hf
      simp only [Option.some.injEq, Prod.mk.injEq] at h
      obtain ⟨rfl, rfl⟩ := h
      exact Alike.same (by simp [hf]) (by simp [gvL, hop, hf]) (by simp [fuL, hop]) (by simp [fuL, hop])
  | assign x =>
    simp only [hop, Op.operands, List.mem_toArray, List.mem_singleton, forall_eq] at hs h ⊢
    simp only [hs]
    simp only [Option.some.injEq, Prod.mk.injEq] at h
    obtain ⟨rfl, rfl⟩ := h
    exact Alike.give rfl (by simp [gvL, hop]) (by simp [fuL, hop]) (by simp [fuL, hop])
  | pick x y z =>
    simp [hop, Op.operands] at hs
    simp only [hop] at h ⊢
    simp only [hs]
    revert h
    (repeat' split) <;> intro h <;> first
      | (cases h; done)
      | (simp only [Option.some.injEq, Prod.mk.injEq] at h
         obtain ⟨rfl, rfl⟩ := h
         exact Alike.same (by simp_all) (by simp [gvL, hop]) (by simp [fuL, hop]) (by simp [fuL, hop]))
  | binOp op t x y t2 =>
    simp [hop, Op.operands] at hs
    simp only [hop] at h ⊢
    simp only [hs]
    revert h
    (repeat' split) <;> intro h <;> first
      | (cases h; done)
      | (simp only [Option.some.injEq, Prod.mk.injEq] at h
         obtain ⟨rfl, rfl⟩ := h
         exact Alike.same (by simp_all) (by simp [gvL, hop]) (by simp [fuL, hop]) (by simp [fuL, hop]))
  | nilCheck x =>
    simp [hop, Op.operands] at hs
    simp only [hop] at h ⊢
    simp only [hs]
    revert h
    (repeat' split) <;> intro h <;> first
      | (cases h; done)
      | (simp only [Option.some.injEq, Prod.mk.injEq] at h
         obtain ⟨rfl, rfl⟩ := h
         exact Alike.same (by simp_all) (by simp [gvL, hop]) (by simp [fuL, hop]) (by simp [fuL, hop]))
  | unOp op t x =>
    simp [hop, Op.operands] at hs
    simp only [hop] at h ⊢
    simp only [hs]
    revert h
    (repeat' split) <;> intro h <;> first
      | (cases h; done)
      | (simp only [Option.some.injEq, Prod.mk.injEq] at h
         obtain ⟨rfl, rfl⟩ := h
         exact Alike.same (by simp_all) (by simp [gvL, hop]) (by simp [fuL, hop]) (by simp [fuL, hop]))
  | convert t t2 x =>
    simp [hop, Op.operands] at hs
    simp only [hop] at h ⊢
    simp only [hs]
    revert h
    (repeat' split) <;> intro h <;> first
      | (cases h; done)
      | (simp only [Option.some.injEq, Prod.mk.injEq] at h
         obtain ⟨rfl, rfl⟩ := h
         exact Alike.same (by simp_all) (by simp [gvL, hop]) (by simp [fuL, hop]) (by simp [fuL, hop]))
  | makeInterface t x =>
    simp [hop, Op.operands] at hs
    simp only [hop] at h ⊢
    simp only [hs]
    revert h
    (repeat' split) <;> intro h <;> first
      | (cases h; done)
      | (simp only [Option.some.injEq, Prod.mk.injEq] at h
         obtain ⟨rfl, rfl⟩ := h
         exact Alike.same (by simp_all) (by simp [gvL, hop]) (by simp [fuL, hop]) (by simp [fuL, hop]))
  | fieldAddr t x i =>
    simp [hop, Op.operands] at hs
    simp only [hop] at h ⊢
    simp only [hs]
    revert h
    (repeat' split) <;> intro h <;> first
      | (cases h; done)
      | (simp only [Option.some.injEq, Prod.mk.injEq] at h
         obtain ⟨rfl, rfl⟩ := h
         exact Alike.same (by simp_all) (by simp [gvL, hop]) (by simp [fuL, hop]) (by simp [fuL, hop]))
  | field t x i =>
    simp [hop, Op.operands] at hs
    simp only [hop] at h ⊢
    simp only [hs]
    revert h
    (repeat' split) <;> intro h <;> first
      | (cases h; done)
      | (simp only [Option.some.injEq, Prod.mk.injEq] at h
         obtain ⟨rfl, rfl⟩ := h
         exact Alike.same (by simp_all) (by simp [gvL, hop]) (by simp [fuL, hop]) (by simp [fuL, hop]))
  | indexAddr t x i =>
    simp [hop, Op.operands] at hs
    simp only [hop] at h ⊢
    simp only [hs]
    revert h
    (repeat' split) <;> intro h <;> first
      | (cases h; done)
      | (simp only [Option.some.injEq, Prod.mk.injEq] at h
         obtain ⟨rfl, rfl⟩ := h
         exact Alike.same (by simp_all) (by simp [gvL, hop]) (by simp [fuL, hop]) (by simp [fuL, hop]))
  | index t x i =>
    simp [hop, Op.operands] at hs
    simp only [hop] at h ⊢
    simp only [hs]
    revert h
    (repeat' split) <;> intro h <;> first
      | (cases h; done)
      | (simp only [Option.some.injEq, Prod.mk.injEq] at h
         obtain ⟨rfl, rfl⟩ := h
         exact Alike.same (by simp_all) (by simp [gvL, hop]) (by simp [fuL, hop]) (by simp [fuL, hop]))
  | build t parts =>
    simp [hop, Op.operands] at hs
    simp only [hop] at h ⊢
    have e : (parts.toList.map fun p => (p.1, ev c.P 0 s'.m p.2)) = parts.toList.map fun p => (p.1, ev c.P 0 s.m p.2) := List.map_congr_left fun p hp => by
      obtain ⟨i, x⟩ := p
      rw [hs x i (by simpa using hp)]
    rw [e]
    revert h
    (repeat' split) <;> intro h <;> first
      | (cases h; done)
      | (simp only [Option.some.injEq, Prod.mk.injEq] at h
         obtain ⟨rfl, rfl⟩ := h
         exact Alike.same (by simp_all) (by simp [gvL, hop]) (by simp [fuL, hop]) (by simp [fuL, hop]))
  | extract x i =>
    simp [hop, Op.operands] at hs
    simp only [hop] at h ⊢
    cases x with
    | tmp t =>
      have hs := hs 0
      simp only [ev] at hs
      simp only [hs]
      revert h
      (repeat' split) <;> intro h <;> first
        | (cases h; done)
        | (simp only [Option.some.injEq, Prod.mk.injEq] at h
           obtain ⟨rfl, rfl⟩ := h
           exact Alike.same (by simp_all) (by simp [gvL, hop]) (by simp [fuL, hop]) (by simp [fuL, hop]))
    | _ => cases h
  | makeFunc fn x y =>
    simp [hop, Op.operands] at hs
    simp only [hop] at h ⊢
    have e1 : (x.toList.map fun x => (ev c.P 0 s'.m x).strip) = x.toList.map fun x => (ev c.P 0 s.m x).strip := List.map_congr_left fun p hp => by rw [hs p (.inl (by simpa using hp))]
    have e2 : (y.toList.map fun x => (ev c.P 0 s'.m x).strip) = y.toList.map fun x => (ev c.P 0 s.m x).strip := List.map_congr_left fun p hp => by rw [hs p (.inr (by simpa using hp))]
    rw [e1, e2]
    revert h
    (repeat' split) <;> intro h <;> first
      | (cases h; done)
      | (simp only [Option.some.injEq, Prod.mk.injEq] at h
         obtain ⟨rfl, rfl⟩ := h
         exact Alike.same (by simp_all) (by simp [gvL, hop]) (by simp [fuL, hop]) (by simp [fuL, hop]))
  | slice t x lo hi mx =>
    have h0 : ∀ t, ev c.P t s'.m x = ev c.P t s.m x := hs x (by simp [hop, Op.operands])
    have h1 : lo.map (ev c.P 0 s'.m) = lo.map (ev c.P 0 s.m) := by cases lo with | none => rfl | some y => simp [hs y (by simp [hop, Op.operands])]
    have h2 : hi.map (ev c.P 0 s'.m) = hi.map (ev c.P 0 s.m) := by cases hi with | none => rfl | some y => simp [hs y (by simp [hop, Op.operands])]
    have h3 : mx.map (ev c.P 0 s'.m) = mx.map (ev c.P 0 s.m) := by cases mx with | none => rfl | some y => simp [hs y (by simp [hop, Op.operands])]
    simp only [hop] at h ⊢
    rw [h0, h1, h2, h3]
    revert h
    (repeat' split) <;> intro h <;> first
      | (cases h; done)
      | (simp only [Option.some.injEq, Prod.mk.injEq] at h
         obtain ⟨rfl, rfl⟩ := h
         exact Alike.give (by simp_all) (by simp [gvL, hop]) (by simp [fuL, hop]) (by simp [fuL, hop]))
  | load t x =>
    simp [hop, Op.operands] at hs
    simp only [hop] at h ⊢
    rw [hs]
    split at h
    · rename_i z es i j hx
      split at h
      · rename_i e he
        split at h
        · rename_i v' hv
          simp only [Option.some.injEq, Prod.mk.injEq] at h
          obtain ⟨rfl, rfl⟩ := h
          refine ⟨s', by simp [he, hv], rfl, rfl, ?_, ?_, fun _ => ⟨rfl, rfl⟩, fun _ => ⟨rfl, rfl⟩, ?_, ?_⟩
          · intro _; exact ho (by simp [fuL, hop])
          · intro h; refine hr ?_; simp [fuL, hop] at h ⊢; exact h.2
          · intro t; simp [gvL, hop, stripL]
          · intro t; simp [gvL, hop, stripL]
        · cases h
      · cases h
    · rename_i d k off hx
      have h1 := ho (by simp [fuL, hop])
      rw [hfs, hfs'] at h1
      simp only [List.head?_cons, Option.some.injEq] at h1
      subst h1
      have h2 : strict = false → rest = rest' := fun h => by
        have := hr (by simp [fuL, hop, h])
        rw [hfs, hfs'] at this
        simpa using this
      split at h
      · cases h
      · rename_i hst
        have hst' : ¬(strict && !(d == s'.fs.length - 1)) = true := by rw [← hlen]; exact hst
        have hlk : look s'.fs d k = look s.fs d k := by
          rw [hfs, hfs']
          simp only [look, hlen']
          by_cases hd : d = rest'.length
          · rw [if_pos hd, if_pos hd]
          · rw [if_neg hd, if_neg hd]
            cases hsc : strict with
            | false => rw [h2 hsc]
            | true =>
              rw [hsc, hfs] at hst
              simp at hst
              omega
        rw [if_neg hst', hlk]
        split at h
        · rename_i cs hl
          split at h
          · rename_i v' hv
            split at h
            · rename_i hfd
              split at h
              · rename_i y
                simp only [Option.some.injEq, Prod.mk.injEq] at h
                obtain ⟨rfl, rfl⟩ := h
                refine ⟨_, by rw [if_pos hfd], ?_, ?_, ?_, ?_, ?_, ?_, ?_, ?_⟩
                · simp [length_setF]
                · simp [length_setF]
                · intro _
                  rw [hfs, hfs']
                  simp only [setF, hlen']
                  split <;> rfl
                · intro h
                  simp [fuL, hop] at h
                  rw [hfs, hfs', h2 h.2]
                · intro h; simp [fuL, hop, hfd] at h
                · intro h
                  have hsc : strict = true := by simpa [fuL, hop, hfd] using h
                  rw [hsc, hfs] at hst
                  simp at hst
                  rw [hfs, hfs']
                  simp [setF, hst, hlen']
                · intro t; simp [gvL, hop, stripL]
                · intro t; simp [gvL, hop, stripL]
              · cases h
            · rename_i hfd
              simp only [Option.some.injEq, Prod.mk.injEq] at h
              obtain ⟨rfl, rfl⟩ := h
              refine ⟨s', by rw [if_neg hfd], rfl, rfl, ?_, ?_, fun _ => ⟨rfl, rfl⟩, fun _ => ⟨rfl, rfl⟩, ?_, ?_⟩
              · intro _; rw [hfs, hfs']; rfl
              · intro h; simp [fuL, hop, hfd] at h
              · intro t; simp [gvL, hop, stripL]
              · intro t; simp [gvL, hop, stripL]
          · cases h
        · cases h
    · cases h
  | store t x y =>
    have hss : s'.fs = s.fs := by
      have h1 := ho (by simp [fuL, hop])
      have h2 := hr (by simp [fuL, hop])
      rw [hfs, hfs'] at h1 h2 ⊢
      simp at h1 h2
      rw [h1, h2]
    have h1 : ∀ t, ev c.P t s'.m x = ev c.P t s.m x := hs x (by simp [hop, Op.operands])
    have h2 : ∀ t, ev c.P t s'.m y = ev c.P t s.m y := hs y (by simp [hop, Op.operands])
    simp only [hop] at h ⊢
    rw [h1, h2, hss]
    split at h
    · rename_i d k off vs hx hv
      split at h
      · rename_i cs hl
        split at h
        · rename_i hc
          simp only [Option.some.injEq, Prod.mk.injEq] at h
          obtain ⟨rfl, rfl⟩ := h
          have e (s : S) : (Ev.give s y).fs = s.fs := by rw [give_fs]
          refine ⟨_, by simp [hl, hc]; rfl, ?_, ?_, ?_, ?_, ?_, ?_, ?_, ?_⟩
          · simp [length_setF, e]
          · simp [length_setF, e]
          · simp [e, hss]
          · simp [e, hss]
          · simp [fuL, hop]
          · simp [fuL, hop]
          · intro t; simp only [gvL, hop]; exact give_m s y t
          · intro t; simp only [gvL, hop]; exact give_m s' y t
        · cases h
      · cases h
    · cases h
  | alloc t =>
    simp only [hop] at h ⊢
    split at h
    · rename_i cs hz
      split at h
      · rename_i p s2 hn
        simp only [Option.some.injEq, Prod.mk.injEq] at h
        obtain ⟨rfl, rfl⟩ := h
        have hfu : fuL c f r fd strict o = if c.esc f t then (false, true, false, true) else (true, false, true, false) := by simp [fuL, hop]
        rw [hfu] at ho hr ⊢
        obtain ⟨s1', g1, g2, g3, g4, g5, g6, g7⟩ := newObj_like hlen (fun h => ho (by simp [h])) (fun h => hr (by simp [h])) hn
        refine ⟨s1', by simp [g1], g4, g5, ?_, ?_, ?_, ?_, ?_, ?_⟩
        · cases he : c.esc f t with
          | true => simp
          | false => intro _; exact (g6 he).1
        · cases he : c.esc f t with
          | true => intro _; exact (g7 he).1
          | false => simp
        · cases he : c.esc f t with
          | true => intro _; exact (g7 he).2
          | false => simp
        · cases he : c.esc f t with
          | true => simp
          | false => intro _; exact (g6 he).2
        · intro t; rw [g2]; simp [gvL, hop, stripL]
        · intro t; rw [g3]; simp [gvL, hop, stripL]
      · cases h
    · cases h
  | box t x =>
    simp [hop, Op.operands] at hs
    simp only [hop] at h ⊢
    rw [hs]
    split at h
    · rename_i cs hz
      split at h
      · rename_i p s2 hn
        simp only [Option.some.injEq, Prod.mk.injEq] at h
        obtain ⟨rfl, rfl⟩ := h
        have hfu : fuL c f r fd strict o = if c.esc f t then (false, true, false, true) else (true, false, true, false) := by simp [fuL, hop]
        rw [hfu] at ho hr ⊢
        have e (s : S) : (Ev.give s x).fs = s.fs := by rw [give_fs]
        obtain ⟨s1', g1, g2, g3, g4, g5, g6, g7⟩ := newObj_like (s' := Ev.give s' x) (by rw [e, e]; exact hlen) (fun h => by rw [e, e]; exact ho (by simp [h])) (fun h => by rw [e, e]; exact hr (by simp [h])) hn
        rw [e] at g4 g5
        simp only [e] at g6 g7
        refine ⟨s1', by simp [g1], g4, g5, ?_, ?_, ?_, ?_, ?_, ?_⟩
        · cases he : c.esc f t with
          | true => simp
          | false => intro _; exact (g6 he).1
        · cases he : c.esc f t with
          | true => intro _; exact (g7 he).1
          | false => simp
        · cases he : c.esc f t with
          | true => intro _; exact (g7 he).2
          | false => simp
        · cases he : c.esc f t with
          | true => simp
          | false => intro _; exact (g6 he).2
        · intro t; rw [g2]; simp only [gvL, hop]; exact give_m s x t
        · intro t; rw [g3]; simp only [gvL, hop]; exact give_m s' x t
      · cases h
    · cases h
  | makeSlice t l n =>
    have e1 : ∀ t, ev c.P t s'.m l = ev c.P t s.m l := hs l (by simp [hop, Op.operands])
    have e2 : ∀ t, ev c.P t s'.m n = ev c.P t s.m n := hs n (by simp [hop, Op.operands])
    simp only [hop] at h ⊢
    rw [e1, e2]
    split at h
    · rename_i k1 x k2 y e hl hn he
      split at h
      · rename_i z hz
        split at h
        · rename_i h1
          split at h
          · rename_i d k p s'' hnew
            simp only [Option.some.injEq, Prod.mk.injEq] at h
            obtain ⟨rfl, rfl⟩ := h
            obtain ⟨s1', g1, g2, g3, g4, g5, g6, g7⟩ := newObj_like hlen (fun _ => ho (by simp [fuL, hop])) (fun h => by cases h) hnew
            obtain ⟨g8, g9, g10⟩ := g6 rfl
            refine ⟨s1', by rw [if_pos h1]; simp [g1], g4, g5, fun _ => g8, ?_, ?_, fun _ => ⟨g9, g10⟩, ?_, ?_⟩
            · intro h; simp [fuL, hop] at h
            · intro h; simp [fuL, hop] at h
            · intro t; rw [g2]; simp [gvL, hop, stripL]
            · intro t; rw [g3]; simp [gvL, hop, stripL]
          · cases h
        · cases h
      · cases h
    · cases h
  | buildSlice t len parts =>
    simp [hop, Op.operands] at hs
    simp only [hop] at h ⊢
    have e : (parts.toList.map fun p => (p.1, ev c.P 0 s'.m p.2)) = parts.toList.map fun p => (p.1, ev c.P 0 s.m p.2) := List.map_congr_left fun p hp => by
      obtain ⟨i, x⟩ := p
      rw [hs x i (by simpa using hp)]
    rw [e]
    split at h
    · cases h
    · rename_i el he
      split at h
      · cases h
      · rename_i z hz
        split at h
        · cases h
        · rename_i dz hd
          split at h
          · rename_i h0
            rw [if_pos h0]
            split at h
            · rename_i es hes
              split at h
              · rename_i harr
                rw [if_pos harr]
                split at h
                · rename_i d k p s'' hnew
                  simp only [Option.some.injEq, Prod.mk.injEq] at h
                  obtain ⟨rfl, rfl⟩ := h
                  obtain ⟨s1', g1, g2, g3, g4, g5, g6, g7⟩ := newObj_like hlen (fun _ => ho (by simp [fuL, hop, harr])) (fun h => by cases h) hnew
                  obtain ⟨g8, g9, g10⟩ := g6 rfl
                  refine ⟨s1', by rw [g1], g4, g5, fun _ => g8, ?_, ?_, fun _ => ⟨g9, g10⟩, ?_, ?_⟩
                  · intro h; simp [fuL, hop, harr] at h
                  · intro h; simp [fuL, hop, harr] at h
                  · intro t; rw [g2]; simp [gvL, hop, stripL]
                  · intro t; rw [g3]; simp [gvL, hop, stripL]
                · cases h
              · rename_i harr
                simp only [Option.some.injEq, Prod.mk.injEq] at h
                obtain ⟨rfl, rfl⟩ := h
                exact Alike.same (by simp [harr]) (by simp [gvL, hop]) (by simp [fuL, hop, harr]) (by simp [fuL, hop, harr])
            · cases h
          · cases h
  | call k =>
    simp only [hop] at h ⊢
    cases hk : k.callee with
    | value x => simp [hk] at h
    | invoke x y => simp [hk] at h
    | builtin b =>
      have hs : ∀ x ∈ k.args.toList, ∀ t, ev c.P t s'.m x = ev c.P t s.m x := fun x hx => hs x (by simp [hop, Op.operands, Call.operands, hk]; simpa using hx)
      have e0 : (k.args.toList.map (ev c.P 0 s'.m)) = k.args.toList.map (ev c.P 0 s.m) := List.map_congr_left fun x hx => hs x hx 0
      simp only [hk] at h ⊢
      cases b with
      | len =>
        simp only [] at h ⊢
        split at h
        · rename_i x t ha ht
          rw [ha] at hs
          simp only [List.mem_singleton, forall_eq] at hs
          simp only [hs]
          revert h
          (repeat' split) <;> intro h <;> first
            | (cases h; done)
            | (simp only [Option.some.injEq, Prod.mk.injEq] at h
               obtain ⟨rfl, rfl⟩ := h
               exact Alike.same (by simp_all) (by simp [gvL, hop, hk]) (by simp [fuL, hop, hk]) (by simp [fuL, hop, hk]))
        · cases h
      | min =>
        simp only [] at h ⊢
        rw [e0]
        revert h
        (repeat' split) <;> intro h <;> first
          | (cases h; done)
          | (simp only [Option.some.injEq, Prod.mk.injEq] at h
             obtain ⟨rfl, rfl⟩ := h
             exact Alike.same (by simp_all) (by simp [gvL, hop, hk]) (by simp [fuL, hop, hk]) (by simp [fuL, hop, hk]))
      | max =>
        simp only [] at h ⊢
        rw [e0]
        revert h
        (repeat' split) <;> intro h <;> first
          | (cases h; done)
          | (simp only [Option.some.injEq, Prod.mk.injEq] at h
             obtain ⟨rfl, rfl⟩ := h
             exact Alike.same (by simp_all) (by simp [gvL, hop, hk]) (by simp [fuL, hop, hk]) (by simp [fuL, hop, hk]))
      | append =>
        have hss : s'.fs = s.fs := by
          have h1 := ho (by simp [fuL, hop, hk])
          have h2 := hr (by simp [fuL, hop, hk])
          rw [hfs, hfs'] at h1 h2 ⊢
          simp at h1 h2
          rw [h1, h2]
        simp only [] at h ⊢
        split at h
        · rename_i x y t u ha ht
          rw [ha] at hs
          have e1 := hs x (by simp)
          have e2 := hs y (by simp)
          simp only [e1, e2, hss]
          split at h
          · rename_i v' hv
            simp only [Option.some.injEq, Prod.mk.injEq] at h
            obtain ⟨rfl, rfl⟩ := h
            exact Alike.give (by simp [hv]) (by simp [gvL, hop, hk, ha]) (by simp [fuL, hop, hk]) (by simp [fuL, hop, hk])
          · cases h
        · cases h
      | copy =>
        have hss : s'.fs = s.fs := by
          have h1 := ho (by simp [fuL, hop, hk])
          have h2 := hr (by simp [fuL, hop, hk])
          rw [hfs, hfs'] at h1 h2 ⊢
          simp at h1 h2
          rw [h1, h2]
        simp only [] at h ⊢
        split at h
        · rename_i x y t u ha ht
          rw [ha] at hs
          have e1 := hs x (by simp)
          have e2 := hs y (by simp)
          simp only [e1, e2, hss]
          split at h
          · rename_i d k' off len cap z hx
            split at h
            · rename_i hz
              rw [if_pos hz]
              split at h
              · rename_i n fs hc
                simp only [Option.some.injEq, Prod.mk.injEq] at h
                obtain ⟨rfl, rfl⟩ := h
                have hlf : fs.length = s.fs.length := by
                  unfold copyV at hc
                  split at hc
                  · split at hc
                    · simp only [Option.some.injEq, Prod.mk.injEq] at hc
                      rw [← hc.2, length_setF]
                    · cases hc
                  · cases hc
                refine ⟨{ s' with fs := fs }, by simp [hc], hlf, by simp [hlf, hss], fun _ => rfl, fun _ => rfl, ?_, ?_, ?_, ?_⟩
                · simp [fuL, hop, hk]
                · simp [fuL, hop, hk]
                · intro t; simp [gvL, hop, hk, stripL]
                · intro t; simp [gvL, hop, hk, stripL]
              · cases h
            · cases h
          · cases h
        · cases h
      | _ => cases h
  | _ => simp only [hop] at h; cases h

theorem gives_m : ∀ (xs : List Operand) (s : S), (gives s xs).fs = s.fs ∧ ∀ t, getT (gives s xs).m t = stripL (xs.flatMap tmL) s.m t
  | [], s => ⟨rfl, fun t => rfl⟩
  | x :: xs, s => by
    obtain ⟨h1, h2⟩ := gives_m xs (give s x)
    refine ⟨by rw [gives, h1, give_fs], fun t => ?_⟩
    rw [gives, h2]
    simp only [stripL, List.flatMap_cons, give_m]
    by_cases e1 : t ∈ xs.flatMap tmL
    · by_cases e2 : t ∈ tmL x
      · simp only [List.contains_iff_mem, List.mem_append, e1, e2, or_true, if_true, strip_strip]
      · simp only [List.contains_iff_mem, List.mem_append, e1, e2, or_true, if_true, if_false]
    · by_cases e2 : t ∈ tmL x
      · simp only [List.contains_iff_mem, List.mem_append, e1, e2, or_false, if_true, if_false]
      · simp only [List.contains_iff_mem, List.mem_append, e1, e2, or_false, if_false]

/-- Calls leave the frames as many as they were. -/
def Even (call : CallF) : Prop := ∀ g args fs v fs', call g args fs = some (v, fs') → fs'.length = fs.length

theorem doCall_like {call : CallF} (hc : Even call) {g : FuncId} {args : List V} {s s' s1 : S} {v : Option V} (hlen : s.fs.length = s'.fs.length) (hne : s.fs ≠ []) (ho : c.sealed g = false → s.fs.head? = s'.fs.head?) (hr : s.fs.tail = s'.fs.tail)
    (h : doCall c call g args s = some (v, s1)) : ∃ s1', doCall c call g args s' = some (v, s1') ∧ s1.m = s.m ∧ s1'.m = s'.m ∧ s1.fs.length = s.fs.length ∧ s1'.fs.length = s'.fs.length ∧ s1.fs.tail = s1'.fs.tail ∧
      (c.sealed g = true → s1.fs.head? = s.fs.head? ∧ s1'.fs.head? = s'.fs.head?) ∧ (c.sealed g = false → s1.fs.head? = s1'.fs.head?) := by
  unfold doCall at h ⊢
  cases hfs : s.fs with
  | nil => exact absurd hfs hne
  | cons own rest =>
    cases hfs' : s'.fs with
    | nil => rw [hfs, hfs'] at hlen; simp at hlen
    | cons own' rest' =>
      rw [hfs, hfs'] at hr ho
      simp only [List.tail_cons] at hr
      subst hr
      rw [hfs] at h
      cases hs : c.sealed g with
      | true =>
        simp only [hs, if_true] at h ⊢
        split at h
        · rename_i hle
          rw [if_pos hle]
          split at h
          · rename_i r rest2 hcall
            simp only [Option.some.injEq, Prod.mk.injEq] at h
            obtain ⟨rfl, rfl⟩ := h
            have := hc _ _ _ _ _ hcall
            simp only [List.length_cons, Nat.add_right_cancel_iff] at this
            exact ⟨{ s' with fs := own' :: rest2 }, by simp, rfl, rfl, by simp [this], by simp [this], rfl, fun _ => ⟨rfl, rfl⟩, fun h => by cases h⟩
          · cases h
        · cases h
      | false =>
        have := ho hs
        simp only [List.head?_cons, Option.some.injEq] at this
        subst this
        simp only [hs, Bool.false_eq_true, if_false] at h ⊢
        split at h
        · rename_i r fs2 hcall
          simp only [Option.some.injEq, Prod.mk.injEq] at h
          obtain ⟨rfl, rfl⟩ := h
          have := hc _ _ _ _ _ hcall
          exact ⟨{ s' with fs := fs2 }, by simp, rfl, rfl, by simp [this], by simp [this], rfl, (fun h => by cases h), fun _ => rfl⟩
        · cases h

theorem argsG_like : ∀ (xs : List Operand) (s s' : S), (∀ x ∈ xs, ∀ t, ev c.P t s'.m x = ev c.P t s.m x) → argsG c.P s' xs = argsG c.P s xs
  | [], _, _, _ => rfl
  | x :: xs, s, s', h => by
    simp only [argsG]
    rw [h x (by simp), argsG_like xs (Ev.give s x) (Ev.give s' x) fun y hy t => ?_]
    cases y with
    | tmp n =>
      have := h (.tmp n) (by simp [hy]) t
      simp only [ev] at this ⊢
      rw [give_m, give_m]
      simp only [stripL, this]
    | _ => rfl

/-- What a step does, and does alike from an alike state. -/
def Steps (fu : Bool × Bool × Bool × Bool) (gv : List Nat) (dst : Option Tmp) (s s1 s' : S) (run : Out) : Prop :=
  ∃ s1' v, run = some (.normal, s1') ∧ s1.fs.length = s.fs.length ∧ s1'.fs.length = s'.fs.length ∧
    (fu.2.2.1 = true → s1.fs.head? = s1'.fs.head?) ∧ (fu.2.2.2 = true → s1.fs.tail = s1'.fs.tail) ∧
    (fu.2.2.1 = false → s1.fs.head? = s.fs.head? ∧ s1'.fs.head? = s'.fs.head?) ∧ (fu.2.2.2 = false → s1.fs.tail = s.fs.tail ∧ s1'.fs.tail = s'.fs.tail) ∧
    (∀ t, getT s1.m t = if dst = some t then v else stripL gv s.m t) ∧ (∀ t, getT s1'.m t = if dst = some t then v else stripL gv s'.m t)

theorem put_m (s : S) (dst : Option Tmp) (v : V) (t : Nat) : getT (put s dst v).m t = if dst = some t then v else getT s.m t := by
  cases dst with
  | none => simp [put]
  | some d => simp [put, getT_cons]

theorem put_fs (s : S) (dst : Option Tmp) (v : V) : (put s dst v).fs = s.fs := by cases dst <;> rfl

theorem Alike.steps {fu : Bool × Bool × Bool × Bool} {gv : List Nat} {s s1 s' : S} {run : Option (V × S)} {v : V} {dst : Option Tmp} {run' : Out} (h : Alike fu gv s s1 s' run v)
    (hr : ∀ s1', run = some (v, s1') → run' = some (.normal, put s1' dst v)) : Steps fu gv dst s (put s1 dst v) s' run' := by
  obtain ⟨s1', h0, h1, h2, h3, h4, h5, h6, h7, h8⟩ := h
  refine ⟨put s1' dst v, v, hr _ h0, ?_, ?_, ?_, ?_, ?_, ?_, fun t => ?_, fun t => ?_⟩
  · rw [put_fs]; exact h1
  · rw [put_fs]; exact h2
  · rw [put_fs, put_fs]; exact h3
  · rw [put_fs, put_fs]; exact h4
  · rw [put_fs, put_fs]; exact h5
  · rw [put_fs, put_fs]; exact h6
  · rw [put_m, h7]
  · rw [put_m, h8]

theorem step_like {call : CallF} (hc : Even call) (hs : ∀ x ∈ o.op.operands, ∀ t, ev c.P t s'.m x = ev c.P t s.m x) (hlen : s.fs.length = s'.fs.length) (hne : s.fs ≠ [])
    (ho : (fuL c f r fd strict o).1 = true → s.fs.head? = s'.fs.head?) (hr : (fuL c f r fd strict o).2.1 = true → s.fs.tail = s'.fs.tail)
    (h : step c call f r fd strict o s = some (.normal, s1)) : Steps (fuL c f r fd strict o) (gvL c fd o) o.dst s s1 s' (step c call f r fd strict o s') := by
  have other : ∀ (v : V) (s2 : S), opv c f r fd strict o s = some (v, s2) → s1 = put s2 o.dst v → (∀ s1', opv c f r fd strict o s' = some (v, s1') → step c call f r fd strict o s' = some (.normal, put s1' o.dst v)) →
      Steps (fuL c f r fd strict o) (gvL c fd o) o.dst s s1 s' (step c call f r fd strict o s') := fun v s2 h1 h2 h3 => by
    subst h2
    exact (opv_like hs hlen hne ho hr h1).steps h3
  cases hop : o.op with
  | panic x =>
    unfold step at h
    simp only [hop] at h
    split at h <;> simp at h
  | call k =>
    cases hk : k.callee with
    | invoke x y => unfold step at h; simp [hop, hk] at h
    | builtin b =>
      unfold step at h
      simp only [hop, hk] at h
      split at h
      · rename_i v s2 hv
        simp only [Option.some.injEq, Prod.mk.injEq, true_and] at h
        refine other v s2 hv h.symm fun s1' h1 => ?_
        unfold step
        simp only [hop, hk, h1]
      · cases h
    | value x =>
      have hx : ∀ t, ev c.P t s'.m x = ev c.P t s.m x := hs x (by simp [hop, Op.operands, Call.operands, hk])
      have hargs : ∀ y ∈ k.args.toList, ∀ t, ev c.P t s'.m y = ev c.P t s.m y := fun y hy => hs y (by simp [hop, Op.operands, Call.operands, hk]; exact .inr (by simpa using hy))
      have e0 : argsG c.P s' k.args.toList = argsG c.P s k.args.toList := argsG_like _ _ _ hargs
      have e1 : (k.args.toList.map fun x => (ev c.P 0 s'.m x).strip) = k.args.toList.map fun x => (ev c.P 0 s.m x).strip := List.map_congr_left fun x hx => by rw [hargs x hx 0]
      have et : target c s'.m k = target c s.m k := by simp only [target, hk, hx]
      have hg : ∀ g a b, target c s.m k = some (g, a, b) → (c.sealed g = false → s.fs.head? = s'.fs.head?) ∧ s.fs.tail = s'.fs.tail ∧ (((fuL c f r fd strict o).2.2.1 = false → c.sealed g = true) ∧ ((fuL c f r fd strict o).2.2.2 = true) ∧ ((fuL c f r fd strict o).2.2.1 = true → c.sealed g = true → s.fs.head? = s'.fs.head?)) := by
        intro g a b ht
        cases x with
        | func g' =>
          have : g' = g := by
            simp [target, hk, ev] at ht
            exact ht.1
          subst this
          cases hsl : c.sealed g' with
          | true => exact ⟨(fun h => by cases h), hr (by simp [fuL, hop, hk, hsl]), fun _ => rfl, by simp [fuL, hop, hk, hsl], fun h => by simp [fuL, hop, hk, hsl] at h⟩
          | false => exact ⟨fun _ => ho (by simp [fuL, hop, hk, hsl]), hr (by simp [fuL, hop, hk, hsl]), fun h => by simp [fuL, hop, hk, hsl] at h, by simp [fuL, hop, hk, hsl], fun _ h => by cases h⟩
        | _ => exact ⟨fun _ => ho (by simp [fuL, hop, hk]), hr (by simp [fuL, hop, hk]), fun h => by simp [fuL, hop, hk] at h, by simp [fuL, hop, hk], fun _ _ => ho (by simp [fuL, hop, hk])⟩
      have hgv : gvL c fd o = if consOf c k then k.args.toList.flatMap tmL else [] := by simp [gvL, hop, hk]
      unfold step at h ⊢
      simp only [hop, hk, et] at h ⊢
      split at h
      · rename_i g a b ht
        obtain ⟨g1, g2, g3, g4, g5⟩ := hg g a b ht
        split at h
        · rename_i hcons
          rw [if_pos hcons, e0]
          rw [if_pos hcons] at hgv
          split at h
          · rename_i v s2 hd
            simp only [Option.some.injEq, Prod.mk.injEq, true_and] at h
            subst h
            obtain ⟨i1, i2⟩ := gives_m k.args.toList s
            obtain ⟨i3, i4⟩ := gives_m k.args.toList s'
            obtain ⟨s1', k1, k2, k3, k4, k5, k6, k7, k8⟩ := doCall_like hc (s' := gives s' k.args.toList) (by rw [i1, i3]; exact hlen) (by rw [i1]; exact hne) (by rw [i1, i3]; exact g1) (by rw [i1, i3]; exact g2) hd
            rw [k1]
            rw [i1, i3] at k7
            refine ⟨_, v, rfl, by rw [put_fs, k4, i1], by rw [put_fs, k5, i3], ?_, ?_, ?_, ?_, fun t => ?_, fun t => ?_⟩
            · intro hw
              simp only [put_fs]
              cases hsl : c.sealed g with
              | true => rw [(k7 hsl).1, (k7 hsl).2]; exact g5 hw hsl
              | false => exact k8 hsl
            · intro _; simp only [put_fs]; exact k6
            · intro hw; simp only [put_fs]; exact k7 (g3 hw)
            · intro hw; rw [g4] at hw; cases hw
            · rw [put_m, k2, i2, hgv]
            · rw [put_m, k3, i4, hgv]
          · cases h
          · cases h
        · rename_i hcons
          rw [if_neg hcons, e1]
          rw [if_neg hcons] at hgv
          split at h
          · rename_i v s2 hd
            simp only [Option.some.injEq, Prod.mk.injEq, true_and] at h
            subst h
            obtain ⟨s1', k1, k2, k3, k4, k5, k6, k7, k8⟩ := doCall_like hc hlen hne g1 g2 hd
            rw [k1]
            refine ⟨_, v, rfl, by rw [put_fs, k4], by rw [put_fs, k5], ?_, ?_, ?_, ?_, fun t => ?_, fun t => ?_⟩
            · intro hw
              simp only [put_fs]
              cases hsl : c.sealed g with
              | true => rw [(k7 hsl).1, (k7 hsl).2]; exact g5 hw hsl
              | false => exact k8 hsl
            · intro _; simp only [put_fs]; exact k6
            · intro hw; simp only [put_fs]; exact k7 (g3 hw)
            · intro hw; rw [g4] at hw; cases hw
            · rw [put_m, k2, hgv]; simp [stripL]
            · rw [put_m, k3, hgv]; simp [stripL]
          · cases h
          · cases h
      · cases h
  | _ =>
    unfold step at h
    simp only [hop] at h
    split at h
    · rename_i v s2 hv
      simp only [Option.some.injEq, Prod.mk.injEq, true_and] at h
      refine other v s2 hv h.symm fun s1' h1 => ?_
      unfold step
      simp only [hop, h1]
    · cases h

end

end Go.Ev
