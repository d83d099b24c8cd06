/- What keeps the relation between the evaluator's state and a world. -/
import Derived.Test.YtbfllngekcckeaaGreatDoorEvB
import Derived.Laws.IdiomCopy
namespace Go.Ev

/-! ### Frames -/

theorem length_setF (d k : Nat) (o : List C) : ∀ fs : Frames, (setF fs d k o).length = fs.length
  | [] => rfl
  | f :: fs => by
    simp only [setF]
    split
    · simp
    · simp [length_setF d k o fs]

theorem look_setF (d k : Nat) (o : List C) (d' k' : Nat) : ∀ fs : Frames,
    look (setF fs d k o) d' k' = if d' = d ∧ k' = k then (match look fs d k with | some _ => some o | none => none) else look fs d' k'
  | [] => by simp [setF, look]
  | f :: fs => by
    have ih := look_setF d k o d' k' fs
    simp only [setF]
    by_cases hd : d = fs.length
    · simp only [hd, if_true, look]
      by_cases hd' : d' = fs.length
      · simp only [hd', if_true, true_and]
        by_cases hk : k' = k
        · subst hk
          simp only [if_true, List.getElem?_set_self']
          cases h : f[k']? <;> simp
        · simp only [hk, if_false]
          rw [List.getElem?_set_ne (fun e => hk e.symm)]
      · simp [hd']
    · simp only [hd, if_false, look, length_setF]
      by_cases hd' : d' = fs.length
      · simp only [hd', if_true]
        rw [if_neg (fun h => hd h.1.symm)]
      · simp only [hd', if_false, ih]

theorem look_lt {d k : Nat} {cs : List C} : ∀ {fs : Frames}, look fs d k = some cs → d < fs.length
  | [], h => by simp [look] at h
  | f :: fs, h => by
    simp only [look] at h
    by_cases hd : d = fs.length
    · simp [hd]
    · simp only [hd, if_false] at h
      have := look_lt h
      simp; omega

theorem look_push (f : Fr) (r : Frames) (o : List C) (d k : Nat) :
    look ((f ++ [o]) :: r) d k = if d = r.length ∧ k = f.length then some o else look (f :: r) d k := by
  simp only [look]
  by_cases hd : d = r.length
  · simp only [hd, if_true, true_and]
    by_cases hk : k = f.length
    · simp [hk]
    · simp only [hk, if_false]
      rw [List.getElem?_append]
      split
      · rfl
      · rw [List.getElem?_eq_none (by simp; omega), List.getElem?_eq_none (by omega)]
  · simp [hd]

theorem pushBot_ok (o : List C) : ∀ (r : Frames) (k : Nat) (r' : Frames), pushBot r o = some (k, r') →
    r'.length = r.length ∧ look r 0 k = none ∧ ∀ d k', look r' d k' = if d = 0 ∧ k' = k then some o else look r d k'
  | [], k, r', h => by simp [pushBot] at h
  | [f], k, r', h => by
    simp only [pushBot, Option.some.injEq, Prod.mk.injEq] at h
    obtain ⟨rfl, rfl⟩ := h
    refine ⟨rfl, by simp [look], fun d k' => ?_⟩
    rw [look_push]
    simp
  | f :: g :: fs, k, r', h => by
    simp only [pushBot] at h
    cases hp : pushBot (g :: fs) o with
    | none => simp [hp] at h
    | some x =>
      obtain ⟨n, fs'⟩ := x
      simp only [hp, Option.some.injEq, Prod.mk.injEq] at h
      obtain ⟨rfl, rfl⟩ := h
      obtain ⟨h1, h2, h3⟩ := pushBot_ok o (g :: fs) n fs' hp
      refine ⟨by simp [h1], ?_, fun d k' => ?_⟩
      · rw [look, if_neg (by simp)]; exact h2
      · simp only [look, h1]
        by_cases hd : d = (g :: fs).length
        · simp only [hd, if_true]
          rw [if_neg (by simp)]
        · simp only [hd, if_false]
          exact h3 d k'

/-! ### Temporaries -/

theorem getT_cons (m : M) (k t : Nat) (v : V) : getT ((k, v) :: m) t = if k = t then v else getT m t := rfl

theorem Inv.tmp {N dep : Nat} {γ : Gh} {β : Bl} {s : S} {a : Act} {w : World} (h : Inv N dep γ β s a w) (t : Nat) (v : V)
    (hv : RV γ β (some (.tmp dep t)) v (a.tmps.getD t undef)) (hl : v.le dep = true) : Inv N dep γ β { s with m := (t, v) :: s.m } a w where
  size := h.size
  len := h.len
  tm t' := by
    rw [getT_cons]
    split
    · rename_i e; subst e; exact hv
    · exact h.tm t'
  tle t' := by
    rw [getT_cons]
    split
    · exact hl
    · exact h.tle t'
  ob := h.ob
  ole := h.ole
  dom := h.dom
  gh := h.gh
  mix := h.mix

theorem Inv.put {N dep : Nat} {γ : Gh} {β : Bl} {s : S} {a : Act} {w : World} (h : Inv N dep γ β s a w) (dst : Option Tmp) (v : V) (u : Value)
    (hd : ∀ d, dst = some d → d < N ∧ RV γ β (some (.tmp dep d)) v u) (hl : v.le dep = true) : Inv N dep γ β (put s dst v) (a.put dst u) w := by
  cases dst with
  | none => exact h
  | some d =>
    obtain ⟨h1, h2⟩ := hd d rfl
    refine ⟨by simp [Act.put, h.size], h.len, fun t => ?_, fun t => ?_, h.ob, h.ole, h.dom, h.gh, h.mix⟩
    · simp only [Ev.put, getT_cons, Act.put]
      by_cases e : d = t
      · subst e
        simp only [if_true]
        rw [Array.getD_eq_getD_getElem?, Array.getElem?_setIfInBounds_self_of_lt (by rw [h.size]; exact h1)]
        exact h2
      · simp only [e, if_false]
        rw [Array.getD_eq_getD_getElem?, Array.getElem?_setIfInBounds_ne e, ← Array.getD_eq_getD_getElem?]
        exact h.tm t
    · simp only [Ev.put, getT_cons]
      split
      · exact hl
      · exact h.tle t

/-! ### A right to append goes from a temporary to another place -/

theorem Inv.gives {N dep : Nat} {γ : Gh} {β : Bl} {s : S} {a : Act} {w : World} (h : Inv N dep γ β s a w) (t : Nat) (q : Pos) :
    Inv N dep (relabel γ (.tmp dep t) q) β { s with m := (t, (getT s.m t).strip) :: s.m } a w where
  size := h.size
  len := h.len
  tm t' := by
    rw [getT_cons]
    split
    · rename_i e; subst e
      exact (RV.perm (p := none) relabel_perm (fun q hq => by cases hq) _ _ (RV.strip_of _ _ (h.tm t))) |> RV.none_any _
    · rename_i e
      refine RV.perm relabel_perm (fun r hr b o hb => ?_) _ _ (h.tm t')
      cases hr
      exact relabel_other _ _ hb (by simp; exact fun e' => e e'.symm)
  tle t' := by
    rw [getT_cons]
    split
    · rw [V.le_strip]; exact h.tle t
    · exact h.tle t'
  ob d k cs hl := by
    obtain ⟨b, vs, ty, fz, h1, h2, h3, h4⟩ := h.ob d k cs hl
    refine ⟨b, vs, ty, fz, h1, h2, h3, fun i c hc => ?_⟩
    obtain ⟨h5, v, h6, h7⟩ := h4 i c hc
    refine ⟨relabel_obj _ _ _ _ h5, v, h6, RC.perm relabel_perm (fun r hr b o hb => ?_) c v h7⟩
    cases hr
    exact relabel_other _ _ hb (by simp)
  ole := h.ole
  dom := h.dom
  gh := relabel_gh h.gh
  mix := relabel_mix h.mix
where
  RV.none_any {γ : Gh} {β : Bl} (p : Option Pos) {x : V} {v : Value} (e : RV γ β none x v) : RV γ β p x v := by
    cases x with
    | c x => simp only [RV] at e ⊢; exact RC.of_none p _ _ e
    | junk => simp only [RV]
    | raw _ => simpa only [RV] using e
    | agg cs => simpa only [RV] using e
    | tup cs => simpa only [RV] using e
    | pe z es i j => simpa only [RV] using e

theorem Ext.relabel {dep t : Nat} {q : Pos} {fs : Frames} {γ : Gh} {β : Bl} {w : World} : Ext dep fs γ β w (relabel γ (.tmp dep t) q) β w where
  perm := relabel_perm
  tail b o d t' e hd := relabel_other _ _ e (by simp; intro e'; omega)
  bl _ _ _ _ e := e
  size := Nat.le_refl _
  still b hb hg := ⟨rfl, relabel_still hg⟩
  hid b d k _ _ _ _ := ⟨rfl, fun o ho => relabel_obj _ _ _ _ ho⟩
  hidt b o d k i _ _ _ ho := relabel_other _ _ ho (by simp)
  os := rfl
  tape := rfl
  output := rfl

/-! ### The heap alone -/

theorem cell?_heap {w w' : World} (h : w'.heap = w.heap) (a : Addr) : w'.cell? a = w.cell? a := by simp [World.cell?, h]
theorem frozen?_heap {w w' : World} (h : w'.heap = w.heap) (a : Addr) : w'.frozen? a = w.frozen? a := by simp [World.frozen?, h]

theorem Inv.heap {N dep : Nat} {γ : Gh} {β : Bl} {s : S} {a : Act} {w w' : World} (h : Inv N dep γ β s a w) (e : w'.heap = w.heap) : Inv N dep γ β s a w' where
  size := h.size
  len := h.len
  tm := h.tm
  tle := h.tle
  ob d k cs hl := by
    obtain ⟨b, vs, ty, fz, h1, h2, h3⟩ := h.ob d k cs hl
    exact ⟨b, vs, ty, fz, h1, by rw [e]; exact h2, h3⟩
  ole := h.ole
  dom := h.dom
  mix := h.mix
  gh := by
    refine ⟨fun b o => ?_, h.gh.2.mono (fun _ _ _ h => h) fun b cs t fz e' => ⟨cs, t, fz, by rw [e]; exact e', rfl⟩⟩
    have := h.gh.1 b o
    cases hg : γ b o with
    | none => trivial
    | perm v => simp only [hg] at this ⊢; rw [cell?_heap e]; exact this
    | tail r => simp only [hg] at this ⊢; rw [cell?_heap e, frozen?_heap e]; exact this
    | obj d k => simp only [hg] at this ⊢; rw [cell?_heap e, frozen?_heap e]; exact this

theorem Ext.heap {dep : Nat} {fs : Frames} {γ : Gh} {β : Bl} {w w' : World} (e : w'.heap = w.heap) (h1 : w'.os = w.os) (h2 : w'.tape = w.tape) (h3 : w'.output = w.output) :
    Ext dep fs γ β w γ β w' :=
  ⟨fun _ _ _ h => h, fun _ _ _ _ h _ => h, fun _ _ _ _ h => h, by rw [e]; exact Nat.le_refl _, fun _ _ _ => ⟨by rw [e], rfl⟩, fun _ _ _ _ _ _ _ => ⟨by rw [e], fun _ h => h⟩, fun _ _ _ _ _ _ _ _ h => h, h1, h2, h3⟩

/-! ### A new block -/

def Gh.add (γ : Gh) (b₀ : Nat) (ρ : Nat → Role) : Gh := fun b o => if b = b₀ then ρ o else γ b o

def RoleOK (vs : Array Value) (fz : Nat × Nat) : Nat → Role → Prop
  | _, .none => True
  | o, .perm v => vs[o]? = some v
  | o, .tail _ => o < vs.size ∧ (o < fz.1 ∨ fz.2 ≤ o)
  | o, .obj _ _ => o < vs.size ∧ (o < fz.1 ∨ fz.2 ≤ o)

theorem GhOK.lt {γ : Gh} {w : World} (h : GhOK γ w) {b o : Nat} (hr : γ b o ≠ .none) : b < w.heap.size := by
  have := h.1 b o
  cases e : γ b o with
  | none => exact absurd e hr
  | perm v => simp only [e] at this; exact World.block_lt_of_cell? w _ this
  | tail r => simp only [e] at this; obtain ⟨⟨v, hv⟩, _⟩ := this; exact World.block_lt_of_cell? w _ hv
  | obj d k => simp only [e] at this; obtain ⟨⟨v, hv⟩, _⟩ := this; exact World.block_lt_of_cell? w _ hv

theorem GhOK.fresh {γ : Gh} {w : World} (h : GhOK γ w) {b : Nat} (hb : w.heap.size ≤ b) (o : Nat) : γ b o = .none := by
  cases e : γ b o with
  | none => rfl
  | _ => exact absurd (h.lt (by rw [e]; simp)) (by omega)

theorem Gh.add_old {γ : Gh} {w : World} (h : GhOK γ w) {ρ : Nat → Role} {b o : Nat} {r : Role} (hr : γ b o = r) (hn : r ≠ .none) : Gh.add γ w.heap.size ρ b o = r := by
  have := h.lt (b := b) (o := o) (by rw [hr]; exact hn)
  simp only [Gh.add]
  rw [if_neg (by omega)]
  exact hr

theorem heap_alloc_new (w : World) (o : Obj) : (w.alloc o).heap[w.heap.size]? = some o := by
  show (w.heap.push o)[w.heap.size]? = some o
  simp

theorem GhOK.add {γ : Gh} {w : World} (h : GhOK γ w) (vs : Array Value) (ty : TypeId) (fz : Nat × Nat) (ρ : Nat → Role) (hρ : ∀ o, RoleOK vs fz o (ρ o)) :
    GhOK (Gh.add γ w.heap.size ρ) (w.alloc (.cells vs ty fz)) := by
  refine ⟨fun b o => ?_, h.2.mono (fun b o v e => Gh.add_old h e (by simp)) fun b cs t fz' e => ⟨cs, t, fz', ?_, rfl⟩⟩
  rotate_left
  · rw [Go.RowKit.Below.heap_alloc _ _ _ (by
      rcases Nat.lt_or_ge b w.heap.size with hb | hb
      · exact hb
      · rw [Array.getElem?_eq_none hb] at e; cases e)]
    exact e
  simp only [Gh.add]
  by_cases hb : b = w.heap.size
  · subst hb
    simp only [if_true]
    have hn : (w.alloc (.cells vs ty fz)).heap[w.heap.size]? = some (.cells vs ty fz) := heap_alloc_new w _
    have hc : (w.alloc (.cells vs ty fz)).cell? ⟨w.heap.size, o, none⟩ = vs[o]? := by simp only [World.cell?, hn]; rfl
    have hf : (w.alloc (.cells vs ty fz)).frozen? ⟨w.heap.size, o, none⟩ = (decide (fz.1 ≤ o) && decide (o < fz.2)) := by simp only [World.frozen?, hn]
    have := hρ o
    cases e : ρ o with
    | none => trivial
    | perm v => simp only [e, RoleOK] at this ⊢; rw [hc]; exact this
    | tail r =>
      simp only [e, RoleOK] at this ⊢
      rw [hc, hf]
      refine ⟨⟨_, Array.getElem?_eq_getElem this.1⟩, ?_⟩
      rcases this.2 with h1 | h1
      · simp; intro; omega
      · simp; intro; omega
    | obj d k =>
      simp only [e, RoleOK] at this ⊢
      rw [hc, hf]
      refine ⟨⟨_, Array.getElem?_eq_getElem this.1⟩, ?_⟩
      rcases this.2 with h1 | h1
      · simp; intro; omega
      · simp; intro; omega
  · simp only [hb, if_false]
    have := h.1 b o
    cases e : γ b o with
    | none => trivial
    | perm v => simp only [e] at this ⊢; rw [World.cell?_alloc_old _ _ _ (by simpa using hb)]; exact this
    | tail r => simp only [e] at this ⊢; rw [World.cell?_alloc_old _ _ _ (by simpa using hb), World.frozen?_alloc_old _ _ _ (by simpa using hb)]; exact this
    | obj d k => simp only [e] at this ⊢; rw [World.cell?_alloc_old _ _ _ (by simpa using hb), World.frozen?_alloc_old _ _ _ (by simpa using hb)]; exact this

theorem heap_alloc_lt (w : World) (o : Obj) (b : Nat) (h : b < w.heap.size) : (w.alloc o).heap[b]? = w.heap[b]? := Go.RowKit.Below.heap_alloc w o b h

theorem Inv.add {N dep : Nat} {γ : Gh} {β : Bl} {s : S} {a : Act} {w : World} (h : Inv N dep γ β s a w) (vs : Array Value) (ty : TypeId) (fz : Nat × Nat) (ρ : Nat → Role) (hρ : ∀ o, RoleOK vs fz o (ρ o))
    (hm : ∀ o o' d k p, ρ o = .obj d k → ρ o' = .tail p → False) :
    Inv N dep (Gh.add γ w.heap.size ρ) β s a (w.alloc (.cells vs ty fz)) where
  size := h.size
  len := h.len
  tm t := RV.perm (fun b o v e => Gh.add_old h.gh e (by simp)) (fun q _ b o e => Gh.add_old h.gh e (by simp)) _ _ (h.tm t)
  tle := h.tle
  ob d k cs hl := by
    obtain ⟨b, us, ty', fz', h1, h2, h3, h4⟩ := h.ob d k cs hl
    have hb : b < w.heap.size := by
      rcases Nat.lt_or_ge b w.heap.size with hb | hb
      · exact hb
      · rw [Array.getElem?_eq_none hb] at h2; cases h2
    refine ⟨b, us, ty', fz', h1, by rw [heap_alloc_lt _ _ _ hb]; exact h2, h3, fun i c hc => ?_⟩
    obtain ⟨h5, v, h6, h7⟩ := h4 i c hc
    exact ⟨Gh.add_old h.gh h5 (by simp), v, h6, RC.perm (fun b o v e => Gh.add_old h.gh e (by simp)) (fun q _ b o e => Gh.add_old h.gh e (by simp)) _ _ h7⟩
  ole := h.ole
  dom := h.dom
  gh := h.gh.add vs ty fz ρ hρ
  mix b o o' d k p h1 h2 := by
    simp only [Gh.add] at h1 h2
    by_cases hb : b = w.heap.size
    · rw [if_pos hb] at h1 h2
      exact hm _ _ _ _ _ h1 h2
    · rw [if_neg hb] at h1 h2
      exact h.mix _ _ _ _ _ _ h1 h2

theorem Ext.add {dep : Nat} {fs : Frames} {γ : Gh} {β : Bl} {w : World} (h : GhOK γ w) (o : Obj) (ρ : Nat → Role) :
    Ext dep fs γ β w (Gh.add γ w.heap.size ρ) β (w.alloc o) where
  perm b o v e := Gh.add_old h e (by simp)
  tail b o d t e _ := Gh.add_old h e (by simp)
  bl _ _ _ _ e := e
  size := by simp
  still b hb _ := ⟨heap_alloc_lt _ _ _ hb, by funext o; simp only [Gh.add]; rw [if_neg (by omega)]⟩
  hid b d k _ _ _ hg := by
    obtain ⟨o, ho⟩ := hg
    have hb := h.lt (b := b) (o := o) (by rw [ho]; simp)
    exact ⟨heap_alloc_lt _ _ _ hb, fun o ho => Gh.add_old h ho (by simp)⟩
  hidt b o d k i _ _ _ ho := Gh.add_old h ho (by simp)
  os := rfl
  tape := rfl
  output := rfl

/-! ### A new object -/

def Bl.add (β : Bl) (d k b : Nat) : Bl := fun d' k' => if d' = d ∧ k' = k then some b else β d' k'

theorem Bl.add_old {β : Bl} {fs : Frames} (hd : ∀ d k b, β d k = some b → ∃ cs, look fs d k = some cs) {d k b : Nat} (hn : look fs d k = none) (d' k' b' : Nat) (e : β d' k' = some b') :
    Bl.add β d k b d' k' = some b' := by
  simp only [Bl.add]
  rw [if_neg]
  · exact e
  · rintro ⟨rfl, rfl⟩
    obtain ⟨cs, hc⟩ := hd _ _ _ e
    rw [hn] at hc
    cases hc

theorem Inv.obj {N dep : Nat} {γ : Gh} {β : Bl} {s : S} {a : Act} {w : World} (h : Inv N dep γ β s a w) (fs' : Frames) (d k : Nat) (cs : List C) (b : Nat) (vs : Array Value) (ty : TypeId) (fz : Nat × Nat)
    (hn : look s.fs d k = none) (hlen : fs'.length = s.fs.length) (hl : ∀ d' k', look fs' d' k' = if d' = d ∧ k' = k then some cs else look s.fs d' k')
    (hle : C.leL d cs = true) (hb : w.heap[b]? = some (.cells vs ty fz)) (hs : vs.size = cs.length) (hdd : d ≤ dep)
    (hc : ∀ i c, cs[i]? = some c → γ b i = .obj d k ∧ ∃ v, vs[i]? = some v ∧ RC γ β (some (.obj d k i)) c v) :
    Inv N dep γ (Bl.add β d k b) { s with fs := fs' } a w where
  size := h.size
  len := by simp only []; rw [hlen]; exact h.len
  tm t := RV.mono (d := dep) (fun _ _ _ e => e) (fun d' k' b' _ e => Bl.add_old h.dom hn d' k' b' e) (fun _ _ _ _ e => e) _ _ (h.tle t) (h.tm t)
  tle := h.tle
  ob d' k' cs' hl' := by
    simp only [] at hl'
    rw [hl] at hl'
    by_cases e : d' = d ∧ k' = k
    · obtain ⟨rfl, rfl⟩ := e
      simp only [and_self, if_true, Option.some.injEq] at hl'
      subst hl'
      refine ⟨b, vs, ty, fz, by simp [Bl.add], hb, hs, fun i c hi => ?_⟩
      obtain ⟨h1, v, h2, h3⟩ := hc i c hi
      exact ⟨h1, v, h2, RC.mono (d := d') (fun _ _ _ e => e) (fun d' k' b' _ e => Bl.add_old h.dom hn d' k' b' e) (fun _ _ _ _ e => e) _ _ (C.leL_mem.1 hle c (List.mem_of_getElem? hi)) h3⟩
    · rw [if_neg e] at hl'
      obtain ⟨b', us, ty', fz', h1, h2, h3, h4⟩ := h.ob d' k' cs' hl'
      refine ⟨b', us, ty', fz', Bl.add_old h.dom hn d' k' b' h1, h2, h3, fun i c hi => ?_⟩
      obtain ⟨h5, v, h6, h7⟩ := h4 i c hi
      exact ⟨h5, v, h6, RC.mono (d := d') (fun _ _ _ e => e) (fun d' k' b' _ e => Bl.add_old h.dom hn d' k' b' e) (fun _ _ _ _ e => e) _ _ (C.leL_mem.1 (h.ole d' k' cs' hl') c (List.mem_of_getElem? hi)) h7⟩
  ole d' k' cs' hl' := by
    simp only [] at hl'
    rw [hl] at hl'
    by_cases e : d' = d ∧ k' = k
    · obtain ⟨rfl, rfl⟩ := e
      simp only [and_self, if_true, Option.some.injEq] at hl'
      subst hl'
      exact hle
    · rw [if_neg e] at hl'
      exact h.ole d' k' cs' hl'
  dom d' k' b' e := by
    simp only []
    rw [hl]
    by_cases e' : d' = d ∧ k' = k
    · exact ⟨cs, by rw [if_pos e']⟩
    · rw [if_neg e']
      simp only [Bl.add, if_neg e'] at e
      exact h.dom d' k' b' e
  gh := h.gh
  mix := h.mix

theorem Ext.obj {dep : Nat} {fs fs₂ : Frames} {γ : Gh} {β : Bl} {w : World} {d k b : Nat} (hd : ∀ d k b, β d k = some b → ∃ cs, look fs₂ d k = some cs) (hn : look fs₂ d k = none) :
    Ext dep fs γ β w γ (Bl.add β d k b) w :=
  ⟨fun _ _ _ h => h, fun _ _ _ _ h _ => h, fun d' k' b' _ h => Bl.add_old hd hn d' k' b' h, Nat.le_refl _, fun _ _ _ => ⟨rfl, rfl⟩, fun _ _ _ _ _ _ _ => ⟨rfl, fun _ h => h⟩, fun _ _ _ _ _ _ _ _ h => h, rfl, rfl, rfl⟩

/-! ### Cells that are written -/

theorem setCells_other (b : Nat) : ∀ (vs : List Value) (o : Nat) (w : World) (b' : Nat), b' ≠ b → (w.setCells b o vs).heap[b']? = w.heap[b']?
  | [], _, _, _, _ => rfl
  | v :: r, o, w, b', h => by
    rw [World.setCells, setCells_other b r (o + 1) _ b' h]
    exact Go.RowKit.Below.heap_setCell w ⟨b, o, none⟩ v b' h

theorem setCells_size (b : Nat) : ∀ (vs : List Value) (o : Nat) (w : World), (w.setCells b o vs).heap.size = w.heap.size
  | [], _, _ => rfl
  | v :: r, o, w => by rw [World.setCells, setCells_size b r (o + 1)]; simp

theorem setCells_frame (b : Nat) : ∀ (vs : List Value) (o : Nat) (w : World), (w.setCells b o vs).os = w.os ∧ (w.setCells b o vs).tape = w.tape ∧ (w.setCells b o vs).output = w.output
  | [], _, _ => ⟨rfl, rfl, rfl⟩
  | v :: r, o, w => by rw [World.setCells]; exact setCells_frame b r (o + 1) _

theorem setCells_block (b : Nat) (ty : TypeId) (fz : Nat × Nat) : ∀ (us : List Value) (o : Nat) (w : World) (vs : Array Value), w.heap[b]? = some (.cells vs ty fz) →
    ∃ vs', (w.setCells b o us).heap[b]? = some (.cells vs' ty fz) ∧ vs'.size = vs.size ∧ ∀ i, i < vs.size → vs'[i]? = if o ≤ i ∧ i < o + us.length then us[i - o]? else vs[i]?
  | [], o, w, vs, h => ⟨vs, h, rfl, fun i _ => by rw [if_neg (by simp)]⟩
  | u :: r, o, w, vs, h => by
    have h1 : (w.setCell ⟨b, o, none⟩ u).heap[b]? = some (.cells (vs.setIfInBounds o u) ty fz) := by
      simp only [World.setCell, Array.getElem?_modify, if_true, h, Option.map_some]
      simp
    obtain ⟨vs', h2, h3, h4⟩ := setCells_block b ty fz r (o + 1) _ _ h1
    refine ⟨vs', by rw [World.setCells]; exact h2, by simpa using h3, fun i hi => ?_⟩
    rw [h4 i (by simpa using hi)]
    by_cases e : i = o
    · subst e
      rw [if_neg (by omega), if_pos (by simp)]
      simp [hi]
    · by_cases hr : o + 1 ≤ i ∧ i < o + 1 + r.length
      · rw [if_pos hr, if_pos (by simp; omega)]
        rw [show i - o = (i - (o + 1)) + 1 by omega]
        simp
      · rw [if_neg hr, if_neg (by simp; omega)]
        rw [Array.getElem?_setIfInBounds_ne (fun e' => e e'.symm)]

theorem setCells_frozen (b : Nat) : ∀ (vs : List Value) (o : Nat) (w : World) (a : Addr), (w.setCells b o vs).frozen? a = w.frozen? a
  | [], _, _, _ => rfl
  | v :: r, o, w, a => by rw [World.setCells, setCells_frozen b r (o + 1), World.frozen?_setCell]

theorem setCells_cell (b : Nat) : ∀ (us : List Value) (o : Nat) (w : World), (∀ j, j < us.length → ∃ v, w.cell? ⟨b, o + j, none⟩ = some v) →
    ∀ (b' i : Nat), (w.setCells b o us).cell? ⟨b', i, none⟩ = if b' = b ∧ o ≤ i ∧ i < o + us.length then us[i - o]? else w.cell? ⟨b', i, none⟩
  | [], o, w, _, b', i => by rw [if_neg (by simp)]; rfl
  | u :: r, o, w, h, b', i => by
    rw [World.setCells, setCells_cell b r (o + 1) _ (fun j hj => by
      rw [World.cell?_setCell_other _ _ _ _ (by simp; omega)]
      have := h (j + 1) (by simp; omega)
      rwa [show o + (j + 1) = o + 1 + j by omega] at this)]
    by_cases e : b' = b ∧ i = o
    · obtain ⟨rfl, rfl⟩ := e
      rw [if_neg (by omega), if_pos (by simp)]
      obtain ⟨v, hv⟩ := h 0 (by simp)
      rw [World.cell?_setCell_same _ _ _ (by simpa using hv)]
      simp
    · by_cases hr : b' = b ∧ o + 1 ≤ i ∧ i < o + 1 + r.length
      · rw [if_pos hr, if_pos (by simp; omega), show i - o = (i - (o + 1)) + 1 by omega]
        simp
      · rw [if_neg hr, if_neg (by simp; omega), World.cell?_setCell_other _ _ _ _ (by simp; omega)]

theorem setRange_get (cs : List C) (off : Nat) (new : List C) (h : off + new.length ≤ cs.length) (i : Nat) :
    (setRange cs off new)[i]? = if off ≤ i ∧ i < off + new.length then new[i - off]? else cs[i]? := by
  unfold setRange
  rw [List.append_assoc, List.getElem?_append]
  simp only [List.length_take]
  by_cases h1 : i < off
  · rw [if_pos (by omega), if_neg (by omega), List.getElem?_take_of_lt h1]
  · rw [if_neg (by omega), List.getElem?_append, show min off cs.length = off by omega]
    by_cases h2 : i < off + new.length
    · rw [if_pos (by omega), if_pos (by omega)]
    · rw [if_neg (by omega), if_neg (by omega), List.getElem?_drop]
      congr 1
      omega

theorem setRange_length (cs : List C) (off : Nat) (new : List C) (h : off + new.length ≤ cs.length) : (setRange cs off new).length = cs.length := by
  unfold setRange
  simp
  omega

theorem Inv.congr {N dep : Nat} {γ : Gh} {β : Bl} {s : S} {a : Act} {w : World} (h : Inv N dep γ β s a w) (m' : M) (hm : ∀ t, getT m' t = getT s.m t) : Inv N dep γ β { s with m := m' } a w where
  size := h.size
  len := h.len
  tm t := by simp only []; rw [hm]; exact h.tm t
  tle t := by simp only []; rw [hm]; exact h.tle t
  ob := h.ob
  ole := h.ole
  dom := h.dom
  gh := h.gh
  mix := h.mix

/-- An object's cells are its own. -/
theorem Inv.own {N dep : Nat} {γ : Gh} {β : Bl} {s : S} {a : Act} {w : World} (h : Inv N dep γ β s a w) {d k : Nat} {cs : List C} (hl : look s.fs d k = some cs) {b : Nat} (hb : β d k = some b)
    {o : Nat} {r : Role} (hr : γ b o = r) (hn : r ≠ .none) (hp : ∀ v, r ≠ .perm v) : r = .obj d k ∧ o < cs.length := by
  obtain ⟨b', vs, ty, fz, h1, h2, h3, h4⟩ := h.ob d k cs hl
  rw [hb] at h1
  cases h1
  have hc : ∃ v, w.cell? ⟨b, o, none⟩ = some v := by
    have := h.gh.1 b o
    rw [hr] at this
    cases r with
    | none => exact absurd rfl hn
    | perm v => exact absurd rfl (hp v)
    | tail _ => exact this.1
    | obj _ _ => exact this.1
  obtain ⟨v, hv⟩ := hc
  simp only [World.cell?, h2] at hv
  have ho : o < cs.length := by
    rcases Nat.lt_or_ge o cs.length with ho | ho
    · exact ho
    · simp [Array.getElem?_eq_none (show vs.size ≤ o by omega)] at hv
  exact ⟨by rw [← hr]; exact (h4 o _ (List.getElem?_eq_getElem ho)).1, ho⟩

theorem Inv.store {N dep : Nat} {γ : Gh} {β : Bl} {s : S} {a : Act} {w : World} (h : Inv N dep γ β s a w) {d k : Nat} {cs : List C} (hl : look s.fs d k = some cs) {b : Nat} (hb : β d k = some b)
    (off : Nat) (ns : List C) (us : List Value) (hlen : us.length = ns.length) (hoff : off + ns.length ≤ cs.length) (hle : C.leL d ns = true)
    (hc : ∀ j c, ns[j]? = some c → ∃ v, us[j]? = some v ∧ RC γ β (some (.obj d k (off + j))) c v) :
    Inv N dep γ β { s with fs := setF s.fs d k (setRange cs off ns) } a (w.setCells b off us) ∧ Ext dep s.fs γ β w γ β (w.setCells b off us) := by
  obtain ⟨b', vs, ty, fz, h1, h2, h3, h4⟩ := h.ob d k cs hl
  rw [hb] at h1
  cases h1
  have hrole : ∀ i, i < cs.length → γ b i = .obj d k := fun i hi => (h4 i _ (List.getElem?_eq_getElem hi)).1
  have hex : ∀ j, j < us.length → ∃ v, w.cell? ⟨b, off + j, none⟩ = some v := fun j hj => by
    have := h.gh.1 b (off + j)
    rw [hrole _ (by omega)] at this
    exact this.1
  obtain ⟨vs', g1, g2, g3⟩ := setCells_block b ty fz us off w vs h2
  refine ⟨⟨h.size, by simp only []; rw [length_setF]; exact h.len, h.tm, h.tle, ?_, ?_, ?_, ?_, h.mix⟩, ?_⟩
  · intro d' k' cs' hl'
    simp only [look_setF, hl] at hl'
    by_cases e : d' = d ∧ k' = k
    · obtain ⟨rfl, rfl⟩ := e
      simp only [and_self, if_true, Option.some.injEq] at hl'
      subst hl'
      refine ⟨b, vs', ty, fz, hb, g1, by rw [setRange_length _ _ _ hoff]; omega, fun i c hi => ?_⟩
      rw [setRange_get _ _ _ hoff] at hi
      by_cases e : off ≤ i ∧ i < off + ns.length
      · rw [if_pos e] at hi
        obtain ⟨v, hv, hr⟩ := hc _ _ hi
        refine ⟨hrole _ (by omega), v, ?_, by rwa [show off + (i - off) = i by omega] at hr⟩
        rw [g3 i (by omega), if_pos (by omega)]
        exact hv
      · rw [if_neg e] at hi
        obtain ⟨h5, v, h6, h7⟩ := h4 i c hi
        refine ⟨h5, v, ?_, h7⟩
        rw [g3 i (by have := (List.getElem?_eq_some_iff.1 hi).1; omega), if_neg (by omega)]
        exact h6
    · rw [if_neg e] at hl'
      obtain ⟨b', us', ty', fz', k1, k2, k3, k4⟩ := h.ob d' k' cs' hl'
      refine ⟨b', us', ty', fz', k1, ?_, k3, k4⟩
      by_cases hbb : b' = b
      · subst hbb
        have hemp : cs.length = 0 ∨ cs'.length = 0 := by
          rcases Nat.eq_zero_or_pos cs.length with h0 | h0
          · exact .inl h0
          · rcases Nat.eq_zero_or_pos cs'.length with h0' | h0'
            · exact .inr h0'
            · have r1 := hrole 0 h0
              have r2 := (k4 0 _ (List.getElem?_eq_getElem h0')).1
              rw [r1] at r2
              simp only [Role.obj.injEq] at r2
              exact absurd ⟨r2.1.symm, r2.2.symm⟩ e
        have hemp : us = [] := by
          apply List.eq_nil_of_length_eq_zero
          rw [k2] at h2
          simp only [Option.some.injEq, Obj.cells.injEq] at h2
          have := h2.1
          subst this
          omega
        subst hemp
        exact k2
      · rw [setCells_other b us off w b' hbb]
        exact k2
  · intro d' k' cs' hl'
    simp only [look_setF, hl] at hl'
    by_cases e : d' = d ∧ k' = k
    · obtain ⟨rfl, rfl⟩ := e
      simp only [and_self, if_true, Option.some.injEq] at hl'
      subst hl'
      have hcs := C.leL_mem.1 (h.ole _ _ _ hl)
      refine C.leL_mem.2 fun c hc' => ?_
      unfold setRange at hc'
      simp only [List.append_assoc, List.mem_append] at hc'
      rcases hc' with hc' | hc' | hc'
      · exact hcs c (List.mem_of_mem_take hc')
      · exact C.leL_mem.1 hle c hc'
      · exact hcs c (List.mem_of_mem_drop hc')
    · rw [if_neg e] at hl'
      exact h.ole d' k' cs' hl'
  · intro d' k' b' e
    obtain ⟨cs', hc'⟩ := h.dom d' k' b' e
    simp only [look_setF, hl]
    by_cases e : d' = d ∧ k' = k
    · exact ⟨_, by rw [if_pos e]⟩
    · exact ⟨cs', by rw [if_neg e]; exact hc'⟩
  · refine ⟨fun b' o => ?_, h.gh.2.mono (fun _ _ _ h => h) fun b' cs' t' fz' e' => ?_⟩
    rotate_left
    · by_cases hb' : b' = b
      · subst hb'
        obtain ⟨vs'', g1', g2', _⟩ := setCells_block b' t' fz' us off w cs' e'
        exact ⟨vs'', t', fz', g1', g2'⟩
      · exact ⟨cs', t', fz', by rw [setCells_other b us off w b' hb']; exact e', rfl⟩
    have := h.gh.1 b' o
    have hcell := setCells_cell b us off w hex b' o
    cases e : γ b' o with
    | none => trivial
    | perm v =>
      simp only [e] at this ⊢
      rw [hcell, if_neg]
      · exact this
      · rintro ⟨rfl, h5, h6⟩
        rw [hrole o (by omega)] at e
        cases e
    | tail r =>
      simp only [e] at this ⊢
      rw [hcell, if_neg, setCells_frozen]
      · exact this
      · rintro ⟨rfl, h5, h6⟩
        rw [hrole o (by omega)] at e
        cases e
    | obj d' k' =>
      simp only [e] at this ⊢
      rw [hcell, setCells_frozen]
      refine ⟨?_, this.2⟩
      by_cases hr : b' = b ∧ off ≤ o ∧ o < off + us.length
      · rw [if_pos hr]
        exact ⟨_, List.getElem?_eq_getElem (by omega)⟩
      · rw [if_neg hr]
        exact this.1
  · refine ⟨fun _ _ _ h => h, fun _ _ _ _ h _ => h, fun _ _ _ _ h => h, by rw [setCells_size]; exact Nat.le_refl _, fun b' hb' hst => ⟨?_, rfl⟩, fun b' d' k' h0 hd hn hg => ⟨?_, fun _ h => h⟩, fun _ _ _ _ _ _ _ _ h => h, (setCells_frame b us off w).1, (setCells_frame b us off w).2.1, (setCells_frame b us off w).2.2⟩
    · by_cases e : b' = b
      · subst e
        rcases Nat.eq_zero_or_pos us.length with h0 | h0
        · rw [List.eq_nil_of_length_eq_zero h0]
          rfl
        · have := hrole off (by omega)
          rcases hst off with h5 | ⟨v, h5⟩ <;> rw [this] at h5 <;> cases h5
      · exact setCells_other b us off w b' e
    · by_cases e : b' = b
      · subst e
        obtain ⟨o, ho⟩ := hg
        obtain ⟨h5, _⟩ := h.own hl hb ho (by simp) (by simp)
        simp only [Role.obj.injEq] at h5
        rw [← h5.1, ← h5.2, hn] at hl
        cases hl
      · exact setCells_other b us off w b' e

/-- Free cells behind a slice become its elements. -/
def Gh.fill (γ : Gh) (b e : Nat) (us : List Value) : Gh := fun b' o => if b' = b ∧ e ≤ o ∧ o < e + us.length then (match us[o - e]? with | some v => .perm v | none => .none) else γ b' o

theorem Gh.fill_in {γ : Gh} {b e : Nat} {us : List Value} {j : Nat} {v : Value} (h : us[j]? = some v) : Gh.fill γ b e us b (e + j) = .perm v := by
  obtain ⟨hlt, _⟩ := List.getElem?_eq_some_iff.1 h
  simp only [Gh.fill]
  rw [if_pos ⟨trivial, by omega, by omega⟩, show e + j - e = j by omega, h]

theorem Gh.fill_out {γ : Gh} {b e : Nat} {us : List Value} {b' o : Nat} (h : ¬(b' = b ∧ e ≤ o ∧ o < e + us.length)) : Gh.fill γ b e us b' o = γ b' o := by
  simp only [Gh.fill]
  rw [if_neg h]

theorem Inv.fill {N dep : Nat} {γ : Gh} {β : Bl} {s : S} {a : Act} {w : World} (h : Inv N dep γ β s a w) (t : Nat) (ht : (getT s.m t).strip = getT s.m t) (b e : Nat) (us : List Value)
    (hr : ∀ j, j < us.length → γ b (e + j) = .tail (.tmp dep t)) :
    Inv N dep (Gh.fill γ b e us) β s a (w.setCells b e us) ∧ Ext dep s.fs γ β w (Gh.fill γ b e us) β (w.setCells b e us) := by
  have hr' : ∀ o, e ≤ o → o < e + us.length → γ b o = .tail (.tmp dep t) := fun o h1 h2 => by
    have := hr (o - e) (by omega)
    rwa [show e + (o - e) = o by omega] at this
  have hex : ∀ j, j < us.length → ∃ v, w.cell? ⟨b, e + j, none⟩ = some v := fun j hj => by
    have := h.gh.1 b (e + j)
    rw [hr j hj] at this
    exact this.1
  have hold : ∀ b' o r, γ b' o = r → r ≠ .tail (.tmp dep t) → Gh.fill γ b e us b' o = r := fun b' o r h1 h2 => by
    rw [Gh.fill_out]
    · exact h1
    · rintro ⟨rfl, h3, h4⟩
      rw [hr' o h3 h4] at h1
      exact h2 h1.symm
  have hperm : ∀ b' o v, γ b' o = .perm v → Gh.fill γ b e us b' o = .perm v := fun b' o v h1 => hold b' o _ h1 (by simp)
  refine ⟨⟨h.size, h.len, ?_, h.tle, ?_, h.ole, h.dom, ?_, ?_⟩, ?_⟩
  · intro t'
    by_cases e' : t' = t
    · subst e'
      have := RV.strip_of (q := none) _ _ (h.tm t')
      rw [ht] at this
      exact Inv.gives.RV.none_any _ (RV.perm hperm (fun q hq => by cases hq) _ _ this)
    · refine RV.perm hperm (fun q hq b' o hb => ?_) _ _ (h.tm t')
      cases hq
      exact hold b' o _ hb (by simp; exact e')
  · intro d k cs hl
    obtain ⟨b', vs, ty, fz, h1, h2, h3, h4⟩ := h.ob d k cs hl
    by_cases hb : b' = b
    · subst hb
      rcases Nat.eq_zero_or_pos us.length with h0 | h0
      · refine ⟨b', vs, ty, fz, h1, by rw [List.eq_nil_of_length_eq_zero h0]; exact h2, h3, fun i c hc => ?_⟩
        obtain ⟨h5, v, h6, h7⟩ := h4 i c hc
        refine ⟨hold _ _ _ h5 (by simp), v, h6, RC.perm hperm (fun q hq b'' o hb => ?_) _ _ h7⟩
        cases hq
        exact hold _ o _ hb (by simp)
      · have := (h.own hl h1 (hr 0 h0) (by simp) (by simp)).1
        cases this
    · refine ⟨b', vs, ty, fz, h1, by rw [setCells_other b us e w b' hb]; exact h2, h3, fun i c hc => ?_⟩
      obtain ⟨h5, v, h6, h7⟩ := h4 i c hc
      refine ⟨hold _ _ _ h5 (by simp), v, h6, RC.perm hperm (fun q hq b'' o hb => ?_) _ _ h7⟩
      cases hq
      exact hold _ o _ hb (by simp)
  · refine ⟨fun b' o => ?_, h.gh.2.mono hperm fun b' cs' t' fz' e' => ?_⟩
    rotate_left
    · by_cases hb' : b' = b
      · subst hb'
        obtain ⟨vs'', g1', g2', _⟩ := setCells_block b' t' fz' us e w cs' e'
        exact ⟨vs'', t', fz', g1', g2'⟩
      · exact ⟨cs', t', fz', by rw [setCells_other b us e w b' hb']; exact e', rfl⟩
    have := h.gh.1 b' o
    have hcell := setCells_cell b us e w hex b' o
    by_cases hin : b' = b ∧ e ≤ o ∧ o < e + us.length
    · simp only [Gh.fill]
      rw [if_pos hin]
      have hlt : o - e < us.length := by omega
      rw [List.getElem?_eq_getElem hlt]
      simp only []
      rw [hcell, if_pos hin, List.getElem?_eq_getElem hlt]
    · rw [Gh.fill_out hin]
      cases e' : γ b' o with
      | none => trivial
      | perm v => simp only [e'] at this ⊢; rw [hcell, if_neg hin]; exact this
      | tail r => simp only [e'] at this ⊢; rw [hcell, if_neg hin, setCells_frozen]; exact this
      | obj d k => simp only [e'] at this ⊢; rw [hcell, if_neg hin, setCells_frozen]; exact this
  · intro b' o o' d k p h1 h2
    have hback : ∀ o r, Gh.fill γ b e us b' o = r → (∀ v, r ≠ .perm v) → r ≠ .none → γ b' o = r := fun o r h1 h2 h3 => by
      by_cases hin : b' = b ∧ e ≤ o ∧ o < e + us.length
      · simp only [Gh.fill] at h1
        rw [if_pos hin, List.getElem?_eq_getElem (show o - e < us.length by omega)] at h1
        exact absurd h1.symm (h2 _)
      · rw [Gh.fill_out hin] at h1
        exact h1
    exact h.mix _ _ _ _ _ _ (hback _ _ h1 (by simp) (by simp)) (hback _ _ h2 (by simp) (by simp))
  · refine ⟨hperm, fun b' o d' t' h1 h2 => hold b' o _ h1 (by simp; intro; omega), fun _ _ _ _ h => h, by rw [setCells_size]; exact Nat.le_refl _, fun b' hb' hst => ?_, fun b' d' k' h0 hd hn hg => ⟨?_, fun o ho => hold _ _ _ ho (by simp)⟩, fun b' o d' k' i _ _ _ ho => hold _ _ _ ho (by simp), (setCells_frame b us e w).1, (setCells_frame b us e w).2.1, (setCells_frame b us e w).2.2⟩
    · have hne : ∀ o, e ≤ o → o < e + us.length → b' ≠ b := fun o h1 h2 e' => by
        subst e'
        rcases hst o with h5 | ⟨v, h5⟩ <;> rw [hr' o h1 h2] at h5 <;> cases h5
      rcases Nat.eq_zero_or_pos us.length with h0 | h0
      · have hn := List.eq_nil_of_length_eq_zero h0
        subst hn
        exact ⟨rfl, by funext o; exact Gh.fill_out (by rintro ⟨_, h6, h7⟩; simp at h7; omega)⟩
      · have := hne e (Nat.le_refl _) (by omega)
        exact ⟨setCells_other b us e w b' this, by funext o; exact Gh.fill_out (fun h => this h.1)⟩
    · by_cases e' : b' = b
      · subst e'
        rcases Nat.eq_zero_or_pos us.length with h0 | h0
        · rw [List.eq_nil_of_length_eq_zero h0]; rfl
        · obtain ⟨o, ho⟩ := hg
          exact (h.mix _ _ _ _ _ _ ho (hr 0 h0)).elim
      · exact setCells_other b us e w b' e'

end Go.Ev
