/- Steps and regions: the machine comes to what the evaluator gives. -/
import Derived.Test.YtbfllngekcckeaaGreatDoorEvS
set_option linter.unusedSimpArgs false
namespace Go.Ev

/-- The frames alone. -/
structure WInv (dep : Nat) (γ : Gh) (β : Bl) (fs : Frames) (w : World) : Prop where
  len : fs.length = dep + 1
  ob : ∀ d k cs, look fs d k = some cs → ObjOK γ β w d k cs
  ole : ∀ d k cs, look fs d k = some cs → C.leL d cs = true
  dom : ∀ d k b, β d k = some b → ∃ cs, look fs d k = some cs
  gh : GhOK γ w
  mix : Mix γ

def RArgs (γ : Gh) (β : Bl) (d : Nat) : Nat → List V → List Value → Prop
  | _, [], [] => True
  | i, x :: xs, v :: vs => RV γ β (some (.tmp d i)) x v ∧ RArgs γ β d (i + 1) xs vs
  | _, _, _ => False

/-- What a call's end is to leave. -/
def Ends (dep : Nat) (fs : Frames) (γ : Gh) (β : Bl) (w : World) (r : Option V) (fs' : Frames) (q : Pos) : Ending → World → Prop
  | .returned u, w' => ∃ v γ' β', r = some v ∧ WInv dep γ' β' fs' w' ∧ Ext (dep + 1) fs γ β w γ' β' w' ∧ Shape (dep + 1) fs fs' ∧ RV γ' β' (some q) v u ∧ v.le dep = true
  | .panicked _, w' => ∃ γ' β', r = none ∧ WInv dep γ' β' fs' w' ∧ Ext (dep + 1) fs γ β w γ' β' w' ∧ Shape (dep + 1) fs fs'
  | .outgrown, _ => False

def CallOK (P : Program) (call : CallF) : Prop := ∀ g args fs r fs', call g args fs = some (r, fs') →
  (∀ vals w, (callFunc g vals).run P w = .ok (.enter g vals) w) ∧
  ∀ dep γ β w vals q, 1 ≤ dep → WInv dep γ β fs w → RArgs γ β (dep + 1) 0 args vals → (∀ x ∈ args, x.le dep = true) → Calls P g vals.toArray w (Ends dep fs γ β w r fs' (.tmp dep q))

section
variable {c : Cfg} {call : CallF} {f r : Nat} {ops : Array Oper} {fd : List Nat} {strict : Bool} {o : Oper} {s s' s1 : S} {N dep : Nat} {γ : Gh} {β : Bl} {a : Act} {w : World}

theorem Inv.winv (h : Inv N dep γ β s a w) : WInv dep γ β s.fs w := ⟨h.len, h.ob, h.ole, h.dom, h.gh, h.mix⟩

/-- The guard is what the evaluator takes it for. -/
theorem wanted_ok (hi : Inv N dep γ β s a w) {b : Bool} (h : wantedV ops o s.m = some b) : Region.wanted o (yielded ops a.tmps) = b := by
  unfold wantedV at h
  unfold Region.wanted
  split at h
  · rename_i hg
    simp only [Option.some.injEq] at h
    rw [hg, h]
  · rename_i j want hg
    rw [hg]
    simp only []
    split at h
    · rename_i t ht
      have htm := hi.tm t
      have hin : ∀ u : Value, u ≠ undef → a.tmps.getD t undef = u → a.tmps[t]? = some u := fun u hu h => by
        rw [Array.getD_eq_getD_getElem?] at h
        cases hx : a.tmps[t]? with
        | none => rw [hx] at h; exact absurd h.symm hu
        | some y => rw [hx] at h; simp at h; rw [h]
      split at h
      · rename_i x hx
        simp only [Option.some.injEq] at h
        rw [hx] at htm
        simp only [RV, RC] at htm
        have := hin _ (by simp [undef]) htm
        simp only [yielded, ht, Option.bind_some, this]
        rw [← h]
        cases x <;> cases want <;> rfl
      · rename_i hx
        simp only [Option.some.injEq] at h
        rw [hx] at htm
        simp only [RV] at htm
        obtain ⟨X, hX, hr⟩ := htm
        rw [← h]
        simp only [yielded, ht, Option.bind_some]
        rw [Array.getD_eq_getD_getElem?] at hX
        cases hx : a.tmps[t]? with
        | none => simp
        | some y =>
          rw [hx] at hX
          simp at hX
          subst hX
          simp
      · cases h
    · cases h

theorem put_skip (hi : Inv N dep γ β s a w) (hd : ∀ d, o.dst = some d → d < N) : Inv N dep γ β (put s o.dst (.tup [])) (a.put o.dst undef) w :=
  hi.put o.dst _ _ (fun d e => ⟨hd d e, by simp only [RV]; exact ⟨#[], rfl, by simp only [RVs]⟩⟩) rfl

/-! ### Arguments -/

theorem RArgs.mono {γ γ' : Gh} {β β' : Bl} {e d : Nat} (h : ∀ b o v, γ b o = .perm v → γ' b o = .perm v) (hb : ∀ d' k b, d' ≤ d → β d' k = some b → β' d' k = some b)
    (ht : ∀ b o j, γ b o = .tail (.tmp e j) → γ' b o = .tail (.tmp e j)) : ∀ (i : Nat) (xs : List V) (vs : List Value), (∀ x ∈ xs, x.le d = true) → RArgs γ β e i xs vs → RArgs γ' β' e i xs vs
  | _, [], [], _, _ => by simp only [RArgs]
  | _, [], _ :: _, _, r => by simp only [RArgs] at r
  | _, _ :: _, [], _, r => by simp only [RArgs] at r
  | i, x :: xs, v :: vs, hl, r => by
    simp only [RArgs] at r ⊢
    exact ⟨RV.mono h hb (fun q hq b o => by cases hq; exact ht b o i) x v (hl x (by simp)) r.1, RArgs.mono h hb ht (i + 1) xs vs (fun y hy => hl y (by simp [hy])) r.2⟩

theorem RArgs.append {γ : Gh} {β : Bl} {e : Nat} : ∀ (i : Nat) (xs ys : List V) (vs us : List Value), RArgs γ β e i xs vs → RArgs γ β e (i + xs.length) ys us → RArgs γ β e i (xs ++ ys) (vs ++ us)
  | _, [], ys, [], us, _, r => by simpa using r
  | _, [], _, _ :: _, _, r, _ => by simp only [RArgs] at r
  | _, _ :: _, _, [], _, r, _ => by simp only [RArgs] at r
  | i, x :: xs, ys, v :: vs, us, r, k => by
    simp only [RArgs, List.cons_append] at r ⊢
    exact ⟨r.1, RArgs.append (i + 1) xs ys vs us r.2 (by simp only [List.length_cons] at k; rwa [show i + 1 + xs.length = i + (xs.length + 1) by omega])⟩

theorem RArgs.of_cs {γ : Gh} {β : Bl} {e : Nat} : ∀ (i : Nat) (cs : List C) (vs : List Value), RCs γ β cs vs → RArgs γ β e i (cs.map .c) vs
  | _, [], [], _ => by simp only [List.map_nil, RArgs]
  | _, [], _ :: _, r => by simp only [RCs] at r
  | _, _ :: _, [], r => by simp only [RCs] at r
  | i, x :: xs, v :: vs, r => by
    simp only [RCs] at r
    simp only [List.map_cons, RArgs, RV]
    exact ⟨RC.of_none _ _ _ r.1, RArgs.of_cs (i + 1) xs vs r.2⟩

/-- Arguments that take their rights along. -/
theorem Inv.args : ∀ (xs : List Operand) (i : Nat) {s : S} {γ : Gh}, Inv N dep γ β s a w →
    ∃ γ₁, Inv N dep γ₁ β { s with m := (Ev.gives s xs).m } a w ∧ Ext dep s.fs γ β w γ₁ β w ∧ RArgs γ₁ β (dep + 1) i (argsG c.P s xs) (xs.map a.eval) ∧ (∀ x ∈ argsG c.P s xs, x.le dep = true) ∧
      ∀ b o j, γ b o = .tail (.tmp (dep + 1) j) → γ₁ b o = .tail (.tmp (dep + 1) j)
  | [], i, s, γ, h => ⟨γ, h, Ext.refl _ _ _ _ _, by simp only [argsG, List.map_nil, RArgs], fun x hx => by simp [argsG] at hx, fun _ _ _ h => h⟩
  | x :: xs, i, s, γ, h => by
    obtain ⟨hv, hl⟩ := h.ev c.P 0 x
    have first : ∃ γ₀, Inv N dep γ₀ β (give s x) a w ∧ Ext dep s.fs γ β w γ₀ β w ∧ RV γ₀ β (some (.tmp (dep + 1) i)) (Ev.ev c.P 0 s.m x) (a.eval x) ∧ ∀ b o j, γ b o = .tail (.tmp (dep + 1) j) → γ₀ b o = .tail (.tmp (dep + 1) j) := by
      have same : (Ev.ev c.P 0 s.m x).hasSl = false → give s x = s → ∃ γ₀, Inv N dep γ₀ β (give s x) a w ∧ Ext dep s.fs γ β w γ₀ β w ∧ RV γ₀ β (some (.tmp (dep + 1) i)) (Ev.ev c.P 0 s.m x) (a.eval x) ∧ ∀ b o j, γ b o = .tail (.tmp (dep + 1) j) → γ₀ b o = .tail (.tmp (dep + 1) j) := fun h1 h2 => by
        refine ⟨γ, by rw [h2]; exact h, Ext.refl _ _ _ _ _, ?_, fun _ _ _ h => h⟩
        have := RV.strip_of (q := some (.tmp (dep + 1) i)) _ _ hv
        rwa [V.strip_id _ h1] at this
      cases x with
      | tmp n =>
        by_cases hs : (getT s.m n).hasSl = true
        · refine ⟨relabel γ (.tmp dep n) (.tmp (dep + 1) i), ?_, Ext.relabel, RV.moves _ _ hv, fun b o j hb => relabel_other _ _ hb (by simp)⟩
          simp only [give, hs, if_true]
          exact h.gives n _
        · exact same (by simpa [Ev.ev] using hs) (by simp [give, hs])
      | const v => exact ⟨γ, h, Ext.refl _ _ _ _ _, RV.any hv, fun _ _ _ h => h⟩
      | global v => exact ⟨γ, h, Ext.refl _ _ _ _ _, RV.any hv, fun _ _ _ h => h⟩
      | func v => exact ⟨γ, h, Ext.refl _ _ _ _ _, RV.any hv, fun _ _ _ h => h⟩
    obtain ⟨γ₀, h0, h1, h2, h3⟩ := first
    obtain ⟨γ₁, k0, k1, k2, k3, k4⟩ := Inv.args xs (i + 1) h0
    have hfs : (give s x).fs = s.fs := by rw [give_fs]
    rw [hfs] at k1
    refine ⟨γ₁, ?_, h1.trans k1 (Shape.refl _ _), ?_, ?_, fun b o j hb => k4 b o j (h3 b o j hb)⟩
    · rw [hfs] at k0
      exact k0
    · simp only [argsG, List.map_cons, RArgs]
      exact ⟨RV.perm k1.perm (fun q hq b o hb => by cases hq; exact k4 b o i hb) _ _ h2, k2⟩
    · intro y hy
      simp only [argsG, List.mem_cons] at hy
      rcases hy with rfl | hy
      · exact hl
      · exact k3 y hy

/-- Arguments without rights. -/
theorem Inv.args0 (h : Inv N dep γ β s a w) : ∀ (xs : List Operand) (i : Nat), RArgs γ β (dep + 1) i (xs.map fun x => (Ev.ev c.P 0 s.m x).strip) (xs.map a.eval) ∧ ∀ x ∈ (xs.map fun x => (Ev.ev c.P 0 s.m x).strip), x.le dep = true
  | [], i => ⟨by simp only [List.map_nil, RArgs], fun x hx => by simp at hx⟩
  | x :: xs, i => by
    obtain ⟨h1, h2⟩ := h.args0 xs (i + 1)
    obtain ⟨h3, h4⟩ := h.ev0 c.P 0 x (some (.tmp (dep + 1) i))
    refine ⟨by simp only [List.map_cons, RArgs]; exact ⟨h3, h1⟩, fun y hy => ?_⟩
    simp only [List.map_cons, List.mem_cons] at hy
    rcases hy with rfl | hy
    · exact h4
    · exact h2 y hy

/-! ### Calls -/

theorem Ext.weaken {γ' : Gh} {β' : Bl} {w' : World} {fs : Frames} (h : Ext (dep + 1) fs γ β w γ' β' w') : Ext dep fs γ β w γ' β' w' :=
  ⟨h.perm, fun b o d t e hd => h.tail b o d t e (by omega), fun d k b hd e => h.bl d k b (by omega) e, h.size, h.still, fun b d k h0 hd hn hg => h.hid b d k h0 (by omega) hn hg, fun b o d k i h0 hd hn hg => h.hidt b o d k i h0 (by omega) hn hg, h.os, h.tape, h.output⟩

theorem Shape.weaken {fs fs' : Frames} (h : Shape (dep + 1) fs fs') : Shape dep fs fs' := fun d k h1 h2 => h d k h1 (by omega)

/-- After a call: the caller's temporaries stand as they stood. -/
theorem Inv.after (hi : Inv N dep γ β s a w) {γ' : Gh} {β' : Bl} {fs' : Frames} {w' : World} (hw : WInv dep γ' β' fs' w') (hx : Ext (dep + 1) s.fs γ β w γ' β' w') : Inv N dep γ' β' { s with fs := fs' } a w' where
  size := hi.size
  len := hw.len
  tm t := RV.mono (d := dep) hx.perm (fun d' k b hd e => hx.bl d' k b (by omega) e) (fun q hq b o hb => by cases hq; exact hx.tail b o dep t hb (by omega)) _ _ (hi.tle t) (hi.tm t)
  tle := hi.tle
  ob := hw.ob
  ole := hw.ole
  dom := hw.dom
  gh := hw.gh
  mix := hw.mix

def Bl.hide (β : Bl) (dep : Nat) : Bl := fun d k => if d = dep then none else β d k
def Bl.show (β β' : Bl) (dep : Nat) : Bl := fun d k => if d = dep then β d k else β' d k

theorem look_cons_ne {own : Fr} {rest : Frames} {d k : Nat} (h : d ≠ rest.length) : look (own :: rest) d k = look rest d k := by simp [look, h]
theorem look_nil_eq {rest : Frames} {k : Nat} : look ([] :: rest) rest.length k = none := by simp [look]

theorem WInv.hide {own : Fr} {rest : Frames} (h : WInv dep γ β (own :: rest) w) : WInv dep γ (Bl.hide β dep) ([] :: rest) w := by
  have hl : rest.length = dep := by simpa using h.len
  have hlt : ∀ d k cs, look ([] :: rest) d k = some cs → d ≠ dep ∧ d < dep + 1 ∧ look (own :: rest) d k = some cs := fun d k cs e => by
    have hd : d ≠ dep := fun e' => by subst e'; rw [← hl, look_nil_eq] at e; cases e
    have hlt := look_lt e
    simp only [List.length_cons, hl] at hlt
    refine ⟨hd, hlt, ?_⟩
    rw [look_cons_ne (by omega)] at e ⊢
    exact e
  refine ⟨by simpa using h.len, fun d k cs e => ?_, fun d k cs e => h.ole d k cs (hlt d k cs e).2.2, fun d k b e => ?_, h.gh, h.mix⟩
  · obtain ⟨h1, h2, h3⟩ := hlt d k cs e
    obtain ⟨b, vs, ty, fz, g1, g2, g3, g4⟩ := h.ob d k cs h3
    refine ⟨b, vs, ty, fz, by simp only [Bl.hide, if_neg h1]; exact g1, g2, g3, fun i c hc => ?_⟩
    obtain ⟨g5, v, g6, g7⟩ := g4 i c hc
    exact ⟨g5, v, g6, RC.mono (d := d) (fun _ _ _ e => e) (fun d' k b hd e => by simp only [Bl.hide]; rw [if_neg (by omega)]; exact e) (fun _ _ _ _ e => e) _ _ (C.leL_mem.1 (h.ole d k cs h3) c (List.mem_of_getElem? hc)) g7⟩
  · simp only [Bl.hide] at e
    split at e
    · cases e
    · rename_i hd
      obtain ⟨cs, hc⟩ := h.dom d k b e
      exact ⟨cs, by rw [look_cons_ne (by omega)] at hc ⊢; exact hc⟩

theorem WInv.show {own : Fr} {rest rest' : Frames} (hdep : 1 ≤ dep) (h : WInv dep γ β (own :: rest) w) {γ' : Gh} {β' : Bl} {w' : World} (k : WInv dep γ' β' ([] :: rest') w') (hx : Ext (dep + 1) ([] :: rest) γ (Bl.hide β dep) w γ' β' w') :
    WInv dep γ' (Bl.show β β' dep) (own :: rest') w' ∧ Ext (dep + 1) (own :: rest) γ β w γ' (Bl.show β β' dep) w' := by
  have hl : rest.length = dep := by simpa using h.len
  have hl' : rest'.length = dep := by simpa using k.len
  have hb : ∀ d' n b, d' ≤ dep → β d' n = some b → Bl.show β β' dep d' n = some b := fun d' n b hd e => by
    simp only [Bl.show]
    split
    · exact e
    · rename_i hne
      exact hx.bl d' n b (by omega) (by simp only [Bl.hide, if_neg hne]; exact e)
  refine ⟨⟨by simpa using k.len, fun d n cs e => ?_, fun d n cs e => ?_, fun d n b e => ?_, k.gh, k.mix⟩, ⟨hx.perm, hx.tail, fun d n b hd e => hb d n b (by omega) e, hx.size, hx.still, fun b d n h0 hd hn hg => hx.hid b d n h0 hd ?_ hg, fun b o d n i h0 hd hn hg => hx.hidt b o d n i h0 hd ?_ hg, hx.os, hx.tape, hx.output⟩⟩
  · by_cases hd : d = dep
    · subst hd
      have e' : look (own :: rest) d n = some cs := by simp only [look, hl, hl', if_true] at e ⊢; exact e
      obtain ⟨b, vs, ty, fz, g1, g2, g3, g4⟩ := h.ob d n cs e'
      have hnone : look ([] :: rest) d n = none := by rw [← hl]; exact look_nil_eq
      have hblt : b < w.heap.size := by
        rcases Nat.lt_or_ge b w.heap.size with hb | hb
        · exact hb
        · rw [Array.getElem?_eq_none hb] at g2; cases g2
      have hheap : w'.heap[b]? = w.heap[b]? := by
        rcases Nat.eq_zero_or_pos cs.length with h0 | h0
        · refine (hx.still b hblt fun o => ?_).1
          have hg := h.gh.1 b o
          have hc : w.cell? ⟨b, o, none⟩ = none := by
            simp only [World.cell?, g2]
            simp
            omega
          cases hr : γ b o with
          | none => exact .inl rfl
          | perm v => exact .inr ⟨v, rfl⟩
          | tail p => simp only [hr] at hg; obtain ⟨⟨v, hv⟩, _⟩ := hg; rw [hc] at hv; cases hv
          | obj d' k' => simp only [hr] at hg; obtain ⟨⟨v, hv⟩, _⟩ := hg; rw [hc] at hv; cases hv
        · exact (hx.hid b d n hdep (by omega) hnone ⟨0, (g4 0 _ (List.getElem?_eq_getElem h0)).1⟩).1
      refine ⟨b, vs, ty, fz, by simp only [Bl.show, if_true]; exact g1, by rw [hheap]; exact g2, g3, fun i c hc => ?_⟩
      obtain ⟨g5, v, g6, g7⟩ := g4 i c hc
      refine ⟨(hx.hid b d n hdep (by omega) hnone ⟨i, g5⟩).2 i g5, v, g6, RC.mono (d := d) hx.perm (fun d' k b hd e => hb d' k b hd e) (fun q hq b' o' hb' => ?_) _ _ (C.leL_mem.1 (h.ole d n cs e') c (List.mem_of_getElem? hc)) g7⟩
      cases hq
      exact hx.hidt b' o' d n i hdep (by omega) hnone hb'
    · have e' : look ([] :: rest') d n = some cs := by rw [look_cons_ne (by omega)] at e ⊢; exact e
      obtain ⟨b, vs, ty, fz, g1, g2, g3, g4⟩ := k.ob d n cs e'
      have hlt := look_lt e'
      simp only [List.length_cons, hl'] at hlt
      refine ⟨b, vs, ty, fz, by simp only [Bl.show, if_neg hd]; exact g1, g2, g3, fun i c hc => ?_⟩
      obtain ⟨g5, v, g6, g7⟩ := g4 i c hc
      exact ⟨g5, v, g6, RC.mono (d := d) (fun _ _ _ e => e) (fun d' k b hd e => by simp only [Bl.show]; rw [if_neg (by omega)]; exact e) (fun _ _ _ _ e => e) _ _ (C.leL_mem.1 (k.ole d n cs e') c (List.mem_of_getElem? hc)) g7⟩
  · by_cases hd : d = dep
    · subst hd
      exact h.ole d n cs (by simp only [look, hl, hl', if_true] at e ⊢; exact e)
    · exact k.ole d n cs (by rw [look_cons_ne (by omega)] at e ⊢; exact e)
  · simp only [Bl.show] at e
    split at e
    · rename_i hd
      subst hd
      obtain ⟨cs, hc⟩ := h.dom d n b e
      exact ⟨cs, by simp only [look, hl, hl', if_true] at hc ⊢; exact hc⟩
    · rename_i hd
      obtain ⟨cs, hc⟩ := k.dom d n b e
      exact ⟨cs, by rw [look_cons_ne (by omega)] at hc ⊢; exact hc⟩
  · by_cases hd' : d = dep
    · subst hd'; rw [← hl]; exact look_nil_eq
    · rw [look_cons_ne (by omega)] at hn ⊢; exact hn
  · by_cases hd' : d = dep
    · subst hd'; rw [← hl]; exact look_nil_eq
    · rw [look_cons_ne (by omega)] at hn ⊢; exact hn

/-- What a call's end is to leave, to the caller. -/
def Back (N dep : Nat) (γ : Gh) (β : Bl) (s : S) (a : Act) (w : World) (r : Option V) (s1 : S) (q : Nat) : Ending → World → Prop
  | .returned u, w' => ∃ v γ' β', r = some v ∧ Inv N dep γ' β' s1 a w' ∧ Ext dep s.fs γ β w γ' β' w' ∧ Shape dep s.fs s1.fs ∧ RV γ' β' (some (.tmp dep q)) v u ∧ v.le dep = true
  | .panicked _, w' => ∃ γ' β', r = none ∧ Inv N dep γ' β' s1 a w' ∧ Ext dep s.fs γ β w γ' β' w' ∧ Shape dep s.fs s1.fs
  | .outgrown, _ => False

theorem doCall_ok (hcall : CallOK c.P call) (hdep : 1 ≤ dep) (hi : Inv N dep γ β s a w) {g : FuncId} {args : List V} {vals : List Value} {res : Option V} (h : doCall c call g args s = some (res, s1))
    (hargs : RArgs γ β (dep + 1) 0 args vals) (hle : ∀ x ∈ args, x.le dep = true) (q : Nat) :
    (∀ vals w, (callFunc g vals).run c.P w = .ok (.enter g vals) w) ∧ Calls c.P g vals.toArray w (Back N dep γ β s a w res s1 q) := by
  unfold doCall at h
  split at h
  · split at h
    · rename_i own rest hfs
      split at h
      · rename_i hall
        split at h
        · rename_i r' rest' hc
          simp only [Option.some.injEq, Prod.mk.injEq] at h
          obtain ⟨rfl, rfl⟩ := h
          obtain ⟨h1, h2⟩ := hcall _ _ _ _ _ hc
          refine ⟨h1, ?_⟩
          have hw := hi.winv
          rw [hfs] at hw
          have hl : rest.length = dep := by simpa using hw.len
          rw [List.all_eq_true] at hall
          have hargs' : RArgs γ (Bl.hide β dep) (dep + 1) 0 args vals := RArgs.mono (d := dep - 1) (fun _ _ _ e => e) (fun d' k b hd e => by simp only [Bl.hide]; rw [if_neg (by omega)]; exact e) (fun _ _ _ e => e) 0 args vals (fun x hx => by have := hall x hx; rwa [hl] at this) hargs
          refine Calls.mono (h2 dep γ (Bl.hide β dep) w vals q hdep hw.hide hargs' hle) fun e w' he => ?_
          have back : ∀ {γ' : Gh} {β' : Bl}, WInv dep γ' β' ([] :: rest') w' → Ext (dep + 1) ([] :: rest) γ (Bl.hide β dep) w γ' β' w' → Shape (dep + 1) ([] :: rest) ([] :: rest') →
              Inv N dep γ' (Bl.show β β' dep) { s with fs := own :: rest' } a w' ∧ Ext dep s.fs γ β w γ' (Bl.show β β' dep) w' ∧ Shape dep s.fs (own :: rest') := fun k1 k2 k3 => by
            obtain ⟨g1, g2⟩ := hw.show hdep k1 k2
            refine ⟨hi.after g1 (by rw [hfs]; exact g2), by rw [hfs]; exact g2.weaken, fun d n hd1 hd2 => ?_⟩
            have hl' : rest'.length = dep := by simpa using k1.len
            have := k3 d n hd1 (by omega)
            rw [look_cons_ne (by omega), look_cons_ne (by omega)] at this
            rw [hfs, look_cons_ne (by omega), look_cons_ne (by omega)]
            exact this
          cases e with
          | returned u =>
            obtain ⟨v, γ', β', k0, k1, k2, k3, k4, k5⟩ := he
            obtain ⟨g1, g2, g3⟩ := back k1 k2 k3
            refine ⟨v, γ', _, k0, g1, g2, g3, RV.mono (d := dep) (fun _ _ _ e => e) (fun d' k b hd e => ?_) (fun _ _ _ _ e => e) _ _ k5 k4, k5⟩
            simp only [Bl.show]
            split
            · rename_i hd'
              obtain ⟨cs, hcs⟩ := k1.dom _ _ _ e
              have hl' : rest'.length = dep := by simpa using k1.len
              rw [hd', ← hl', look_nil_eq] at hcs
              cases hcs
            · exact e
          | panicked ch =>
            obtain ⟨γ', β', k0, k1, k2, k3⟩ := he
            obtain ⟨g1, g2, g3⟩ := back k1 k2 k3
            exact ⟨γ', _, k0, g1, g2, g3⟩
          | outgrown => exact he
        · cases h
      · cases h
    · cases h
  · split at h
    · rename_i r' fs' hc
      simp only [Option.some.injEq, Prod.mk.injEq] at h
      obtain ⟨rfl, rfl⟩ := h
      obtain ⟨h1, h2⟩ := hcall _ _ _ _ _ hc
      refine ⟨h1, Calls.mono (h2 dep γ β w vals q hdep hi.winv hargs hle) fun e w' he => ?_⟩
      cases e with
      | returned u =>
        obtain ⟨v, γ', β', k0, k1, k2, k3, k4, k5⟩ := he
        exact ⟨v, γ', β', k0, hi.after k1 k2, k2.weaken, k3.weaken, k4, k5⟩
      | panicked ch =>
        obtain ⟨γ', β', k0, k1, k2, k3⟩ := he
        exact ⟨γ', β', k0, hi.after k1 k2, k2.weaken, k3.weaken⟩
      | outgrown => exact he
    · cases h

theorem target_ok (hi : Inv N dep γ β s a w) {k : Call} {g : FuncId} {x y : List C} (h : target c s.m k = some (g, x, y)) :
    ∃ z first captured, k.callee = .value z ∧ a.eval z = .func (.func g) first captured ∧ RCs γ β x first.toList ∧ RCs γ β y captured.toList ∧ C.leL dep x = true ∧ C.leL dep y = true := by
  unfold target at h
  split at h
  · rename_i z hz
    split at h
    · rename_i g' x' y' hx
      simp only [Option.some.injEq, Prod.mk.injEq] at h
      obtain ⟨rfl, rfl, rfl⟩ := h
      obtain ⟨h1, h2⟩ := hi.ev c.P 0 z
      rw [hx] at h1 h2
      simp only [RV, RC] at h1
      simp only [V.le, C.le, Bool.and_eq_true] at h2
      obtain ⟨first, captured, h3, h4, h5⟩ := h1
      exact ⟨z, first, captured, hz, h3, h4, h5, h2.1, h2.2⟩
    · cases h
  · cases h

theorem cs_le {cs : List C} (h : C.leL dep cs = true) : ∀ x ∈ cs.map V.c, x.le dep = true := by
  intro x hx
  simp only [List.mem_map] at hx
  obtain ⟨y, hy, rfl⟩ := hx
  exact C.leL_mem.1 h y hy

/-- How a step goes on. -/
def Next_ (N dep : Nat) (γ : Gh) (β : Bl) (s : S) (a : Act) (w : World) (ex : Ex) (s1 : S) (K : Act → World → Prop) (Q : Exit → Act → World → Prop) : Prop :=
  match ex with
  | .normal => ∀ γ' β' a' w', Inv N dep γ' β' s1 a' w' → Ext dep s.fs γ β w γ' β' w' → Shape dep s.fs s1.fs → a'.defers = a.defers → K a' w'
  | .panic => ∀ γ' β' w' chain, Inv N dep γ' β' s1 a w' → Ext dep s.fs γ β w γ' β' w' → Shape dep s.fs s1.fs → Q (.panic chain) a w'
  | _ => True

theorem put_defers (a : Act) (dst : Option Tmp) (v : Value) : (a.put dst v).defers = a.defers := by cases dst <;> rfl

theorem step_ok (hcall : CallOK c.P call) (hdep : 1 ≤ dep) (hd : ∀ d, o.dst = some d → d < N) (hi : Inv N dep γ β s a w) {ex : Ex} (h : step c call f r fd strict o s = some (ex, s1)) {K : Act → World → Prop} {Q : Exit → Act → World → Prop}
    (hn : Next_ N dep γ β s a w ex s1 K Q) : o.wp c.P a w K Q := by
  have other : ∀ (v : V) (s2 : S), opv c f r fd strict o s = some (v, s2) → ex = .normal → s1 = put s2 o.dst v → o.wp c.P a w K Q := fun v s2 h1 h2 h3 => by
    subst h2 h3
    obtain ⟨nx, u, w', γ', β', k1, k2, k3, k4, k5, k6, k7⟩ := opv_ok c hi h1
    have hI := k3.landed v u hd k4 k5
    unfold Oper.wp
    rw [k1]
    rcases k2 with rfl | ⟨rfl, rfl⟩
    · exact hn γ' β' _ w' hI k6 (by rw [put_fs]; exact k7) (put_defers _ _ _)
    · exact hn γ' β' _ w' hI k6 (by rw [put_fs]; exact k7) (put_defers _ _ _)
  cases hop : o.op with
  | panic x =>
    unfold step at h
    simp only [hop] at h
    have hx := (hi.ev c.P 0 x).1
    have fin : ∀ v, a.eval x = v → (∃ t u, v = .iface t u) → ex = .panic → s1 = s → o.wp c.P a w K Q := fun v hv hu he hs => by
      subst he hs
      obtain ⟨t, u, rfl⟩ := hu
      have hr : (execOp a.eval o).run c.P w = .halt (.panic (.iface t u)) w := by
        simp [execOp, hop, hv, Instr.panic, goPanic]
      unfold Oper.wp
      rw [hr]
      exact hn γ β w _ hi (Ext.refl _ _ _ _ _) (Shape.refl _ _)
    split at h
    · rename_i t ag cs hx'
      simp only [Option.some.injEq, Prod.mk.injEq] at h
      rw [hx'] at hx
      simp only [RV, RC] at hx
      obtain ⟨u, hu, _⟩ := hx
      exact fin _ hu ⟨_, _, rfl⟩ h.1.symm h.2.symm
    · rename_i hx'
      simp only [Option.some.injEq, Prod.mk.injEq] at h
      rw [hx'] at hx
      simp only [RV, RC] at hx
      obtain ⟨t, u, hu⟩ := hx
      exact fin _ hu ⟨_, _, rfl⟩ h.1.symm h.2.symm
    · cases h
  | call k =>
    cases hk : k.callee with
    | invoke x y => unfold step at h; simp [hop, hk] at h
    | builtin b =>
      unfold step at h
      simp only [hop, hk] at h
      split at h
      · rename_i v s2 hv
        simp only [Option.some.injEq, Prod.mk.injEq] at h
        exact other v s2 hv h.1.symm h.2.symm
      · cases h
    | value z =>
      unfold step at h
      simp only [hop, hk] at h
      split at h
      · rename_i g x y ht
        obtain ⟨z', first, captured, hz, hf, hx, hy, hxl, hyl⟩ := target_ok hi ht
        rw [hk] at hz
        cases hz
        have run : ∀ vals : List Value, (∀ vals w, (callFunc g vals).run c.P w = .ok (.enter g vals) w) → vals = first.toList ++ k.args.toList.map a.eval ++ captured.toList → (execOp a.eval o).run c.P w = .ok (.enter g vals.toArray) w := fun vals h1 h2 => by
          subst h2
          have e : (first.toList ++ k.args.toList.map a.eval ++ captured.toList).toArray = first ++ k.args.map a.eval ++ captured := by
            apply Array.ext'; simp
          rw [e]
          simp [execOp, hop, resolve, hk, hf, Deferred.ofValue, invoke, h1]
        have goOn : ∀ {γ₀ : Gh} {s₀ : S} {args : List V} {res : Option V} {s2 : S}, Inv N dep γ₀ β s₀ a w → Ext dep s.fs γ β w γ₀ β w → s₀.fs = s.fs → doCall c call g args s₀ = some (res, s2) →
            RArgs γ₀ β (dep + 1) 0 args (first.toList ++ k.args.toList.map a.eval ++ captured.toList) → (∀ x ∈ args, x.le dep = true) →
            (match res with | some v => ex = .normal ∧ s1 = put s2 o.dst v | none => ex = .panic ∧ s1 = s2) → o.wp c.P a w K Q := fun {γ₀ s₀ args res s2} i1 i2 i3 i4 i5 i6 i7 => by
          let q : Nat := match o.dst with | some d => d | none => 0
          obtain ⟨j1, j2⟩ := doCall_ok hcall hdep i1 i4 i5 i6 q
          unfold Oper.wp
          rw [run _ j1 rfl]
          refine Calls.mono j2 fun e w' he => ?_
          cases e with
          | returned u =>
            obtain ⟨v, γ', β', k0, k1, k2, k3, k4, k5⟩ := he
            subst k0
            obtain ⟨rfl, rfl⟩ := i7
            rw [i3] at k2 k3
            refine hn γ' β' _ w' (k1.put o.dst v u (fun d e => ⟨hd d e, ?_⟩) k5) (i2.trans k2 (Shape.refl _ _)) (by rw [put_fs]; exact k3) (put_defers _ _ _)
            have hq : q = d := by simp only [q, e]
            rw [← hq]
            exact k4
          | panicked ch =>
            obtain ⟨γ', β', k0, k1, k2, k3⟩ := he
            subst k0
            obtain ⟨rfl, rfl⟩ := i7
            rw [i3] at k2 k3
            exact hn γ' β' w' ch k1 (i2.trans k2 (Shape.refl _ _)) k3
          | outgrown => exact he.elim
        split at h
        · obtain ⟨γ₁, i1, i2, i3, i4, i5⟩ := hi.args (c := c) k.args.toList (0 + (x.map V.c).length)
          have hfs := (gives_m k.args.toList s).1
          have hgs : gives s k.args.toList = { s with m := (gives s k.args.toList).m } := by
            rw [← hfs]
          have hra : RArgs γ₁ β (dep + 1) 0 (x.map V.c ++ argsG c.P s k.args.toList ++ y.map V.c) (first.toList ++ k.args.toList.map a.eval ++ captured.toList) :=
            RArgs.append _ _ _ _ _ (RArgs.append _ _ _ _ _ (RArgs.of_cs _ _ _ (RCs.perm i2.perm _ _ hx)) i3) (RArgs.of_cs _ _ _ (RCs.perm i2.perm _ _ hy))
          have hla : ∀ v ∈ x.map V.c ++ argsG c.P s k.args.toList ++ y.map V.c, v.le dep = true := fun v hv => by
            simp only [List.mem_append] at hv
            rcases hv with (hv | hv) | hv
            · exact cs_le hxl v hv
            · exact i4 v hv
            · exact cs_le hyl v hv
          split at h
          · rename_i v s2 hdc
            simp only [Option.some.injEq, Prod.mk.injEq] at h
            exact goOn (by rw [hgs]; exact i1) i2 hfs hdc hra hla ⟨h.1.symm, h.2.symm⟩
          · rename_i s2 hdc
            simp only [Option.some.injEq, Prod.mk.injEq] at h
            exact goOn (by rw [hgs]; exact i1) i2 hfs hdc hra hla ⟨h.1.symm, h.2.symm⟩
          · cases h
        · obtain ⟨i3, i4⟩ := hi.args0 (c := c) k.args.toList (0 + (x.map V.c).length)
          have hra : RArgs γ β (dep + 1) 0 (x.map V.c ++ (k.args.toList.map fun x => (ev c.P 0 s.m x).strip) ++ y.map V.c) (first.toList ++ k.args.toList.map a.eval ++ captured.toList) :=
            RArgs.append _ _ _ _ _ (RArgs.append _ _ _ _ _ (RArgs.of_cs _ _ _ hx) i3) (RArgs.of_cs _ _ _ hy)
          have hla : ∀ v ∈ x.map V.c ++ (k.args.toList.map fun x => (ev c.P 0 s.m x).strip) ++ y.map V.c, v.le dep = true := fun v hv => by
            simp only [List.mem_append] at hv
            rcases hv with (hv | hv) | hv
            · exact cs_le hxl v hv
            · exact i4 v hv
            · exact cs_le hyl v hv
          split at h
          · rename_i v s2 hdc
            simp only [Option.some.injEq, Prod.mk.injEq] at h
            exact goOn hi (Ext.refl _ _ _ _ _) rfl hdc hra hla ⟨h.1.symm, h.2.symm⟩
          · rename_i s2 hdc
            simp only [Option.some.injEq, Prod.mk.injEq] at h
            exact goOn hi (Ext.refl _ _ _ _ _) rfl hdc hra hla ⟨h.1.symm, h.2.symm⟩
          · cases h
      · cases h
  | _ =>
    unfold step at h
    simp only [hop] at h
    split at h
    · rename_i v s2 hv
      simp only [Option.some.injEq, Prod.mk.injEq] at h
      exact other v s2 hv h.1.symm h.2.symm
    · cases h

end

end Go.Ev
