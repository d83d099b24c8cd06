/- A call's end. -/
import Derived.Test.YtbfllngekcckeaaGreatDoorEvW
set_option linter.unusedSimpArgs false
namespace Go.Ev

/-- The frame's objects, that nobody turns any more. -/
noncomputable def thaw (γ : Gh) (β : Bl) (d : Nat) (w : World) : Gh := fun b o => open Classical in if (∃ k, β d k = some b) then (match w.cell? ⟨b, o, none⟩ with
  | some v => .perm v
  | none => .none) else γ b o

def PosOwn (d : Nat) (p : Pos) : Prop := (∃ t, p = .tmp d t) ∨ ∃ k i, p = .obj d k i

section
variable {P : Program} {s : S} {N d : Nat} {γ : Gh} {β : Bl} {a : Act} {w : World} {own : Fr} {rest : Frames}

theorem WInv.block (h : WInv d γ β (own :: rest) w) {k b : Nat} (hb : β d k = some b) (o : Nat) : (γ b o = .obj d k ∧ ∃ v, w.cell? ⟨b, o, none⟩ = some v) ∨ (γ b o = .none ∧ w.cell? ⟨b, o, none⟩ = none) := by
  obtain ⟨cs, hc⟩ := h.dom d k b hb
  obtain ⟨b', vs, ty, fz, h1, h2, h3, h4⟩ := h.ob d k cs hc
  rw [hb] at h1
  cases h1
  have hcell : w.cell? ⟨b, o, none⟩ = vs[o]? := by simp [World.cell?, h2]
  by_cases ho : o < cs.length
  · obtain ⟨h5, v, h6, _⟩ := h4 o _ (List.getElem?_eq_getElem ho)
    exact .inl ⟨h5, v, by rw [hcell]; exact h6⟩
  · have hn : w.cell? ⟨b, o, none⟩ = none := by rw [hcell]; simp; omega
    refine .inr ⟨?_, hn⟩
    have hg := h.gh.1 b o
    cases hr : γ b o with
    | none => rfl
    | perm v => simp only [hr] at hg; rw [hn] at hg; cases hg
    | tail p => simp only [hr] at hg; obtain ⟨⟨v, hv⟩, _⟩ := hg; rw [hn] at hv; cases hv
    | obj _ _ => simp only [hr] at hg; obtain ⟨⟨v, hv⟩, _⟩ := hg; rw [hn] at hv; cases hv

theorem thaw_out {b : Nat} (hb : ¬∃ k, β d k = some b) (o : Nat) : thaw γ β d w b o = γ b o := by simp only [thaw]; rw [if_neg hb]
theorem thaw_in {b k : Nat} (hb : β d k = some b) (o : Nat) : thaw γ β d w b o = match w.cell? ⟨b, o, none⟩ with | some v => .perm v | none => .none := by simp only [thaw]; rw [if_pos ⟨k, hb⟩]

theorem WInv.thaw_same (h : WInv d γ β (own :: rest) w) {b o : Nat} {r : Role} (hr : γ b o = r) (hn : r ≠ .none) (ho : ∀ k, r ≠ .obj d k) : thaw γ β d w b o = r := by
  by_cases hb : ∃ k, β d k = some b
  · obtain ⟨k, hb⟩ := hb
    rcases h.block hb o with ⟨h1, _⟩ | ⟨h1, _⟩
    · rw [hr] at h1; exact absurd h1 (ho k)
    · rw [hr] at h1; exact absurd h1 hn
  · rw [thaw_out hb]; exact hr

theorem WInv.thaw_gh (h : WInv d γ β (own :: rest) w) : GhOK (thaw γ β d w) w := by
  refine ⟨fun b o => ?_, h.gh.2.mono (fun b o v e => h.thaw_same e (by simp) (by simp)) fun b cs t fz e => ⟨cs, t, fz, e, rfl⟩⟩
  by_cases hb : ∃ k, β d k = some b
  · obtain ⟨k, hb⟩ := hb
    rw [thaw_in hb]
    cases hc : w.cell? ⟨b, o, none⟩ with
    | none => trivial
    | some v => rfl
  · rw [thaw_out hb]
    exact h.gh.1 b o

theorem WInv.thaw_mix (h : WInv d γ β (own :: rest) w) : Mix (thaw γ β d w) := by
  intro b o o' d' k p h1 h2
  by_cases hb : ∃ k, β d k = some b
  · obtain ⟨k', hb⟩ := hb
    rw [thaw_in hb] at h1
    split at h1 <;> cases h1
  · rw [thaw_out hb] at h1 h2
    exact h.mix b o o' d' k p h1 h2

/-- The lower frames, behind a call. -/
theorem WInv.drop (h : WInv (d + 1) γ β (own :: rest) w) : WInv d (thaw γ β (d + 1) w) (Bl.hide β (d + 1)) rest w := by
  have hl : rest.length = d + 1 := by simpa using h.len
  have hlk : ∀ {d' k : Nat} {cs : List C}, look rest d' k = some cs → d' < d + 1 ∧ look (own :: rest) d' k = some cs := fun {d' k cs} e => by
    have hlt := look_lt e
    exact ⟨by omega, by rw [look_cons_ne (by omega)]; exact e⟩
  refine ⟨hl, fun d' k cs e => ?_, fun d' k cs e => h.ole d' k cs (hlk e).2, fun d' k b e => ?_, h.thaw_gh, h.thaw_mix⟩
  · obtain ⟨hlt, e'⟩ := hlk e
    obtain ⟨b, vs, ty, fz, g1, g2, g3, g4⟩ := h.ob d' k cs e'
    refine ⟨b, vs, ty, fz, by simp only [Bl.hide]; rw [if_neg (by omega)]; exact g1, g2, g3, fun i c hc => ?_⟩
    obtain ⟨g5, v, g6, g7⟩ := g4 i c hc
    refine ⟨h.thaw_same g5 (by simp) (by simp; omega), v, g6, RC.mono (d := d') (fun b o v e => h.thaw_same e (by simp) (by simp)) (fun d'' k b hd e => by simp only [Bl.hide]; rw [if_neg (by omega)]; exact e)
      (fun q hq b o hb => h.thaw_same hb (by simp) (by simp)) _ _ (C.leL_mem.1 (h.ole d' k cs e') c (List.mem_of_getElem? hc)) g7⟩
  · simp only [Bl.hide] at e
    split at e
    · cases e
    · rename_i hd
      obtain ⟨cs, hc⟩ := h.dom d' k b e
      exact ⟨cs, by rw [look_cons_ne (by omega)] at hc; exact hc⟩

theorem Ext.drop {γ₀ : Gh} {β₀ : Bl} {w₀ : World} (h : WInv (d + 1) γ β (own :: rest) w) {fs : Frames} (hfs : fs.length = d + 1) (hx : Ext (d + 1) ([] :: fs) γ₀ β₀ w₀ γ β w) : Ext (d + 1) fs γ₀ β₀ w₀ (thaw γ β (d + 1) w) (Bl.hide β (d + 1)) w where
  perm b o v e := h.thaw_same (hx.perm b o v e) (by simp) (by simp)
  tail b o d' t e hd := h.thaw_same (hx.tail b o d' t e hd) (by simp) (by simp)
  bl d' k b hd e := by simp only [Bl.hide]; rw [if_neg (by omega)]; exact hx.bl d' k b hd e
  size := hx.size
  still b hb hg := by
    obtain ⟨h1, h2⟩ := hx.still b hb hg
    refine ⟨h1, ?_⟩
    rw [← h2]
    funext o
    by_cases hbb : ∃ k, β (d + 1) k = some b
    · obtain ⟨k, hbb⟩ := hbb
      rcases h.block hbb o with ⟨h3, _⟩ | ⟨h3, h4⟩
      · rcases hg o with h5 | ⟨v, h5⟩ <;> rw [← h2, h3] at h5 <;> cases h5
      · rw [thaw_in hbb, h4, h3]
    · exact thaw_out hbb o
  hid b d' k h0 hd hn hg := by
    obtain ⟨h1, h2⟩ := hx.hid b d' k h0 hd (by rw [look_cons_ne (by omega)]; exact hn) hg
    exact ⟨h1, fun o ho => h.thaw_same (h2 o ho) (by simp) (by simp; omega)⟩
  hidt b o d' k i h0 hd hn hg := h.thaw_same (hx.hidt b o d' k i h0 hd (by rw [look_cons_ne (by omega)]; exact hn) hg) (by simp) (by simp)
  os := hx.os
  tape := hx.tape
  output := hx.output

/-- What goes out of the frame. -/
theorem freezeC_ok (h : WInv (d + 1) γ β (own :: rest) w) {x y : C} {u : Value} {p : Option Pos} (hf : freezeC own (d + 1) x = some y) (hr : RC γ β p x u) :
    RC (thaw γ β (d + 1) w) (Bl.hide β (d + 1)) p y u ∧ C.le d y = true := by
  have hl : rest.length = d + 1 := by simpa using h.len
  have keep : C.le d x = true → RC (thaw γ β (d + 1) w) (Bl.hide β (d + 1)) p x u := fun hle =>
    RC.mono (d := d) (fun b o v e => h.thaw_same e (by simp) (by simp)) (fun d'' k b hd e => by simp only [Bl.hide]; rw [if_neg (by omega)]; exact e) (fun q hq b o hb => h.thaw_same hb (by simp) (by simp)) _ _ hle hr
  have other : ∀ z : C, (if C.le d z then some z else none) = some y → z = x → RC (thaw γ β (d + 1) w) (Bl.hide β (d + 1)) p y u ∧ C.le d y = true := fun z h1 h2 => by
    subst h2
    split at h1
    · rename_i hle
      simp only [Option.some.injEq] at h1
      subst h1
      exact ⟨keep hle, hle⟩
    · cases h1
  cases x with
  | asl d' k off len cap z =>
    simp only [freezeC] at hf
    split at hf
    · rename_i hd
      subst hd
      split at hf
      · rename_i cs hcs
        split at hf
        · rename_i hle
          split at hf
          · rename_i ds hds
            simp only [Option.some.injEq] at hf
            subst hf
            simp only [RC] at hr
            obtain ⟨b, o, hb, hX, g1, g2⟩ := hr
            have hlk : look (own :: rest) (d + 1) k = some cs := by simp only [look, hl, if_true]; exact hcs
            obtain ⟨b', us, ty, fz, h1, h2, h3, h4⟩ := h.ob _ _ _ hlk
            rw [hb] at h1
            cases h1
            obtain ⟨e1, e2⟩ := toDs_get hds
            rw [cut_length _ _ _ (by omega) hle] at e1
            obtain ⟨c1, c2, c3⟩ := chunk_flatten (z := z) len ds (by omega)
            have hcell : ∀ i dd, ds[i]? = some dd → ∃ v, w.cell? ⟨b, off + i, none⟩ = some v ∧ RD γ dd v := fun i dd hdd => by
              obtain ⟨c, hc, hcd⟩ := e2 i dd hdd
              have hlt : i < len * z := by have := (List.getElem?_eq_some_iff.1 hdd).1; omega
              unfold cut at hc
              rw [List.getElem?_take_of_lt (by omega), List.getElem?_drop] at hc
              obtain ⟨_, v, hv, hrc⟩ := h4 _ c hc
              exact ⟨v, by simp only [World.cell?, h2]; simpa using hv, RC.toD hcd hrc⟩
            refine ⟨?_, rfl⟩
            simp only [RC]
            refine ⟨_, _, _, hX, ⟨c2.symm, g1, c3, (fun h => by cases h), fun ad had => ?_⟩, trivial⟩
            cases had
            refine ⟨fun _ => rfl, RRow.of _ _ _ fun i dd hdd => ?_⟩
            rw [c1] at hdd
            obtain ⟨v, hv, hrd⟩ := hcell i dd hdd
            have ho : o = off := by
              rcases g2 with h0 | h0
              · have := (List.getElem?_eq_some_iff.1 hdd).1
                rw [show len = 0 by omega] at e1
                simp at e1
                omega
              · exact h0
            subst ho
            refine ⟨v, ?_, RD.mono (fun b o v e => h.thaw_same e (by simp) (by simp)) _ _ hrd⟩
            rw [thaw_in hb, hv]
          · cases hf
        · cases hf
      · cases hf
    · split at hf
      · rename_i hlt
        simp only [Option.some.injEq] at hf
        subst hf
        have : C.le d (.asl d' k off len cap z) = true := by simp only [C.le, decide_eq_true_eq]; omega
        exact ⟨keep this, this⟩
      · cases hf
  | sl k z es =>
    simp only [freezeC, Option.some.injEq] at hf
    subst hf
    exact ⟨keep rfl, rfl⟩
  | _ => simp only [freezeC] at hf; exact other _ hf rfl

theorem freezeCs_ok (h : WInv (d + 1) γ β (own :: rest) w) : ∀ (xs ys : List C) (us : List Value), freezeCs own (d + 1) xs = some ys → RCs γ β xs us → RCs (thaw γ β (d + 1) w) (Bl.hide β (d + 1)) ys us ∧ C.leL d ys = true
  | [], ys, us, hf, hr => by
    simp only [freezeCs, Option.some.injEq] at hf
    subst hf
    cases us with
    | nil => exact ⟨by simp only [RCs], rfl⟩
    | cons _ _ => simp only [RCs] at hr
  | x :: xs, ys, us, hf, hr => by
    simp only [freezeCs] at hf
    split at hf
    · rename_i y hy
      split at hf
      · rename_i ys' hys
        simp only [Option.some.injEq] at hf
        subst hf
        cases us with
        | nil => simp only [RCs] at hr
        | cons u us =>
          simp only [RCs] at hr
          obtain ⟨h1, h2⟩ := freezeC_ok h hy hr.1
          obtain ⟨h3, h4⟩ := freezeCs_ok h xs ys' us hys hr.2
          exact ⟨by simp only [RCs]; exact ⟨h1, h3⟩, by simp only [C.leL, h2, h4, Bool.and_self]⟩
      · cases hf
    · cases hf

theorem freezeV_ok (h : WInv (d + 1) γ β (own :: rest) w) {x y : V} {u : Value} {p : Option Pos} (hf : freezeV own (d + 1) x = some y) (hr : RV γ β p x u) :
    RV (thaw γ β (d + 1) w) (Bl.hide β (d + 1)) p y u ∧ y.le d = true ∧ ((∃ c, y = .c c) ∨ ∃ cs, y = .agg cs) := by
  cases x with
  | c x =>
    simp only [freezeV] at hf
    split at hf
    · rename_i z hz
      simp only [Option.some.injEq] at hf
      subst hf
      simp only [RV] at hr ⊢
      obtain ⟨h1, h2⟩ := freezeC_ok h hz hr
      exact ⟨h1, h2, .inl ⟨_, rfl⟩⟩
    · cases hf
  | agg xs =>
    simp only [freezeV] at hf
    split at hf
    · rename_i z hz
      simp only [Option.some.injEq] at hf
      subst hf
      simp only [RV] at hr ⊢
      obtain ⟨X, hX, hr⟩ := hr
      obtain ⟨h1, h2⟩ := freezeCs_ok h _ _ _ hz hr
      exact ⟨⟨X, hX, h1⟩, h2, .inr ⟨_, rfl⟩⟩
    · cases hf
  | tup _ => simp [freezeV] at hf
  | pe _ _ _ _ => simp [freezeV] at hf
  | junk => simp [freezeV] at hf
  | raw _ => simp [freezeV] at hf

end

end Go.Ev
