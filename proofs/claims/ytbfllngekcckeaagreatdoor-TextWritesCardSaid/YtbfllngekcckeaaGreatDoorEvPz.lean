/- Library functions, as the evaluator takes them, by their contracts. -/
import Derived.Test.YtbfllngekcckeaaGreatDoorEvP
import Derived.Test.YtbfllngekcckeaaGreatDoorEvZ
import Derived.Test.YtbfllngekcckeaaGreatDoorShelf
import Derived.Lib.IndexAny
import Derived.Lib.AppendIntMem
set_option linter.unusedSimpArgs false
set_option linter.unusedVariables false
namespace Go.Ev
open Go.RowKit (Below)

section
variable {γ : Gh} {β : Bl} {w w' : World} {dep q : Nat} {fs : Frames}

theorem below_cell {a : Addr} {v : Value} (hb : Below w.heap.size w w') (h : w.cell? a = some v) : w'.cell? a = some v := by
  have hlt := World.block_lt_of_cell? w a h
  simp only [World.cell?] at h ⊢
  rw [hb.block a.block hlt]
  exact h

theorem below_frozen {a : Addr} (hb : Below w.heap.size w w') (h : a.block < w.heap.size) : w'.frozen? a = w.frozen? a := by
  simp only [World.frozen?]
  rw [hb.block a.block h]

theorem GhOK.below (hg : GhOK γ w) (hb : Below w.heap.size w w') : GhOK γ w' := by
  refine ⟨fun b o => ?_, hg.2.mono (fun _ _ _ h => h) fun b cs t fz e => ⟨cs, t, fz, ?_, rfl⟩⟩
  · have := hg.1 b o
    cases e : γ b o with
    | none => trivial
    | perm v => simp only [e] at this ⊢; exact below_cell hb this
    | tail r =>
      simp only [e] at this ⊢
      obtain ⟨⟨v, hv⟩, hf⟩ := this
      exact ⟨⟨v, below_cell hb hv⟩, by rw [below_frozen hb (World.block_lt_of_cell? w _ hv)]; exact hf⟩
    | obj d k =>
      simp only [e] at this ⊢
      obtain ⟨⟨v, hv⟩, hf⟩ := this
      exact ⟨⟨v, below_cell hb hv⟩, by rw [below_frozen hb (World.block_lt_of_cell? w _ hv)]; exact hf⟩
  · rw [hb.block b (by
      rcases Nat.lt_or_ge b w.heap.size with hb | hb
      · exact hb
      · rw [Array.getElem?_eq_none hb] at e; cases e)]
    exact e

theorem WInv.below (hw : WInv dep γ β fs w) (hb : Below w.heap.size w w') : WInv dep γ β fs w' := by
  refine ⟨hw.len, fun d k cs hl => ?_, hw.ole, hw.dom, hw.gh.below hb, hw.mix⟩
  obtain ⟨b, vs, ty, fz, h1, h2, h3⟩ := hw.ob d k cs hl
  refine ⟨b, vs, ty, fz, h1, ?_, h3⟩
  rw [hb.block b (by
    rcases Nat.lt_or_ge b w.heap.size with hb | hb
    · exact hb
    · rw [Array.getElem?_eq_none hb] at h2; cases h2)]
  exact h2

theorem Ext.below (hg : GhOK γ w) (hb : Below w.heap.size w w') : Ext dep fs γ β w γ β w' :=
  ⟨fun _ _ _ h => h, fun _ _ _ _ h _ => h, fun _ _ _ _ h => h, hb.size, fun b hlt _ => ⟨hb.block b hlt, rfl⟩, fun b d k _ _ _ ho => ⟨hb.block b (by obtain ⟨o, ho⟩ := ho; exact hg.lt (by rw [ho]; simp)), fun _ h => h⟩, fun _ _ _ _ _ _ _ _ h => h, hb.os, hb.tape, hb.output⟩

theorem prim_ends (hw : WInv dep γ β fs w) (hb : Below w.heap.size w w') {v : V} {u : Value} (hv : RV γ β (some (.tmp dep q)) v u) (hl : v.le dep = true) : Ends dep fs γ β w (some v) fs (.tmp dep q) (.returned u) w' :=
  ⟨v, γ, β, rfl, hw.below hb, Ext.below hw.gh hb, Shape.refl _ _, hv, hl⟩

end

/-! ### The functions themselves -/

theorem digs_eq : ∀ (k u : Nat), u < 10 ^ (k + 1) → digs k u = Lib.decDigits u
  | 0, u, h => by
    rw [Lib.decDigits, dif_pos (by simpa using h)]
    simp only [digs]
    rw [Nat.mod_eq_of_lt (by simpa using h)]
  | k + 1, u, h => by
    rw [Lib.decDigits]
    simp only [digs]
    split
    · rfl
    · rw [digs_eq k (u / 10) (by
        rw [Nat.div_lt_iff_lt_mul (by omega)]
        rw [Nat.pow_succ] at h
        exact h)]

theorem itoaF_eq (n : Int) (h0 : -9223372036854775808 ≤ n) (h1 : n ≤ 9223372036854775807) : itoaF n = Lib.itoa n := by
  unfold itoaF Lib.itoa
  split
  · rw [digs_eq 20 _ (by omega)]
  · rw [digs_eq 20 _ (by omega)]

theorem joinF_eq (sep : List UInt8) : ∀ l : List (List UInt8), joinF sep l = Lib.join l sep
  | [] => rfl
  | [x] => by simp [joinF, Lib.join_one]
  | x :: y :: r => by
    simp only [joinF, joinF_eq sep (y :: r)]
    simp [Lib.join, List.intercalate]

theorem strsOf_eq : ∀ {es : List (List D)} {l : List (List UInt8)}, strsOf es = some l → es = l.map fun s => [D.str s]
  | [], l, h => by
    simp only [strsOf, Option.some.injEq] at h
    subst h
    rfl
  | e :: r, l, h => by
    unfold strsOf at h
    split at h
    · rename_i h0
      cases h0
    · rename_i s r' h0
      cases h0
      split at h
      · rename_i l' hl
        simp only [Option.some.injEq] at h
        subst h
        rw [strsOf_eq hl]
        rfl
      · cases h
    · cases h

theorem str_size (s : List UInt8) : (⟨s.toArray⟩ : ByteArray).size = s.length := by simp [ByteArray.size]

end Go.Ev
