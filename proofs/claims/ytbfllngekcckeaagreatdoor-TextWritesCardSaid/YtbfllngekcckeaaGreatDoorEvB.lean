/- How the evaluator's values stand to a world: relations, and what keeps them. -/
import Derived.Test.YtbfllngekcckeaaGreatDoorEvA
import Derived.Test.YtbfllngekcckeaaGreatDoorEvTab
import Derived.Laws.World
import Derived.Below
namespace Go.Ev

inductive Pos where
  | tmp (d t : Nat) | obj (d k c : Nat)
  deriving DecidableEq

inductive Role where
  | none | perm (v : Value) | tail (p : Pos) | obj (d k : Nat)

abbrev Gh := Nat → Nat → Role
abbrev Bl := Nat → Nat → Option Nat

def SlOK (s : Nat) (es : List (List D)) (a : Option Addr) (len cap : Nat) (row : Nat → Nat → Prop) : Prop :=
  len = es.length ∧ len ≤ cap ∧ (∀ e ∈ es, e.length = s) ∧ (a = none → es = [] ∧ cap = 0) ∧ ∀ ad, a = some ad → (0 < cap → ad.spot = none) ∧ row ad.block ad.off

mutual
def RD (γ : Gh) : D → Value → Prop
  | .bool b, v => v = .bool b
  | .int k n, v => v = .int k n
  | .str s, v => v = .string ⟨s.toArray⟩
  | .sl s es, v => ∃ a len cap, v = .slice a len cap ∧ SlOK s es a len cap (fun b o => RRow γ b o es)
def RRow (γ : Gh) (b o : Nat) : List (List D) → Prop
  | [] => True
  | e :: es => REl γ b o e ∧ RRow γ b (o + e.length) es
def REl (γ : Gh) (b o : Nat) : List D → Prop
  | [] => True
  | d :: ds => (∃ v, γ b o = .perm v ∧ RD γ d v) ∧ REl γ b (o + 1) ds
end

def KOK (γ : Gh) (p : Option Pos) (k : K) (s : Nat) (a : Option Addr) (len cap : Nat) : Prop :=
  match k with
  | .nil => a = none
  | .ro => True
  | .exact => cap = len
  | .own => match p with
    | none => False
    | some p => ∀ ad, a = some ad → ∀ o, ad.off + len * s ≤ o → o < ad.off + cap * s → γ ad.block o = .tail p

mutual
def RC (γ : Gh) (β : Bl) (p : Option Pos) : C → Value → Prop
  | .bool b, v => v = .bool b
  | .int k n, v => v = .int k n
  | .str s, v => v = .string ⟨s.toArray⟩
  | .sl k s es, v => ∃ a len cap, v = .slice a len cap ∧ SlOK s es a len cap (fun b o => RRow γ b o es) ∧ KOK γ p k s a len cap
  | .asl d k off len cap _, v => ∃ b o, β d k = some b ∧ v = .slice (some ⟨b, o, none⟩) len cap ∧ len ≤ cap ∧ (cap = 0 ∨ o = off)
  | .ptr d k off, v => ∃ b, β d k = some b ∧ v = .pointer (some ⟨b, off, none⟩)
  | .nilp, v => v = .pointer none
  | .fn f a b, v => ∃ x y, v = .func f x y ∧ RCs γ β a x.toList ∧ RCs γ β b y.toList
  | .nilfn, v => v = .nilFunc
  | .ifc t agg cs, v => ∃ u, v = .iface t u ∧ ((agg = true ∧ ∃ x, u = .agg x ∧ RCs γ β cs x.toList) ∨ (agg = false ∧ RCs γ β cs [u]))
  | .nilif, v => v = .nilIface
  | .someif, v => ∃ t u, v = .iface t u
def RCs (γ : Gh) (β : Bl) : List C → List Value → Prop
  | [], [] => True
  | c :: cs, v :: vs => RC γ β none c v ∧ RCs γ β cs vs
  | _, _ => False
end

/-- A part of several results. -/
def RV1 (γ : Gh) (β : Bl) : V → Value → Prop
  | .c x, v => RC γ β none x v
  | .agg cs, v => ∃ x, v = .agg x ∧ RCs γ β cs x.toList
  | .junk, _ => True
  | _, _ => False

def RVs (γ : Gh) (β : Bl) : List V → List Value → Prop
  | [], [] => True
  | c :: cs, v :: vs => RV1 γ β c v ∧ RVs γ β cs vs
  | _, _ => False

def RV (γ : Gh) (β : Bl) (p : Option Pos) : V → Value → Prop
  | .c x, v => RC γ β p x v
  | .agg cs, v => ∃ x, v = .agg x ∧ RCs γ β cs x.toList
  | .tup vs, v => ∃ x, v = .tuple x ∧ RVs γ β vs x.toList
  | .pe _ es i j, v => ∃ b o e, v = .pointer (some ⟨b, o, none⟩) ∧ es[i]? = some e ∧ REl γ b o (e.drop j)
  | .junk, _ => True
  | .raw u, v => v = u

/-- What is known of the program's own variables: cells that nothing turns, and how many cells there are. -/
def Tab (γ : Gh) (w : World) : Prop :=
  (∀ x ∈ tabCells, ∃ v, γ x.1 x.2.1 = .perm v ∧ x.2.2 v) ∧ ∀ x ∈ tabSizes, ∃ cs t fz, w.heap[x.1]? = some (.cells cs t fz) ∧ cs.size = x.2

theorem Tab.mono {γ γ' : Gh} {w w' : World} (h : Tab γ w) (hp : ∀ b o v, γ b o = .perm v → γ' b o = .perm v)
    (hs : ∀ (b : Nat) cs t fz, w.heap[b]? = some (.cells cs t fz) → ∃ cs' t' fz', w'.heap[b]? = some (.cells cs' t' fz') ∧ cs'.size = cs.size) : Tab γ' w' := by
  refine ⟨fun x hx => ?_, fun x hx => ?_⟩
  · obtain ⟨v, h1, h2⟩ := h.1 x hx
    exact ⟨v, hp _ _ _ h1, h2⟩
  · obtain ⟨cs, t, fz, h1, h2⟩ := h.2 x hx
    obtain ⟨cs', t', fz', h3, h4⟩ := hs _ _ _ _ h1
    exact ⟨cs', t', fz', h3, h4.trans h2⟩

def GhOK (γ : Gh) (w : World) : Prop := (∀ b o, match γ b o with
  | .none => True
  | .perm v => w.cell? ⟨b, o, none⟩ = some v
  | .tail _ => (∃ v, w.cell? ⟨b, o, none⟩ = some v) ∧ w.frozen? ⟨b, o, none⟩ = false
  | .obj _ _ => (∃ v, w.cell? ⟨b, o, none⟩ = some v) ∧ w.frozen? ⟨b, o, none⟩ = false) ∧ Tab γ w

def ObjOK (γ : Gh) (β : Bl) (w : World) (d k : Nat) (cs : List C) : Prop :=
  ∃ b vs ty fz, β d k = some b ∧ w.heap[b]? = some (.cells vs ty fz) ∧ vs.size = cs.length ∧
    ∀ i c, cs[i]? = some c → γ b i = .obj d k ∧ ∃ v, vs[i]? = some v ∧ RC γ β (some (.obj d k i)) c v

/-- No block is an object's and bears free cells. -/
def Mix (γ : Gh) : Prop := ∀ b o o' d k p, γ b o = .obj d k → γ b o' = .tail p → False

structure Inv (N dep : Nat) (γ : Gh) (β : Bl) (s : S) (a : Act) (w : World) : Prop where
  size : a.tmps.size = N
  len : s.fs.length = dep + 1
  tm : ∀ t, RV γ β (some (.tmp dep t)) (getT s.m t) (a.tmps.getD t undef)
  tle : ∀ t, (getT s.m t).le dep = true
  ob : ∀ d k cs, look s.fs d k = some cs → ObjOK γ β w d k cs
  ole : ∀ d k cs, look s.fs d k = some cs → C.leL d cs = true
  dom : ∀ d k b, β d k = some b → ∃ cs, look s.fs d k = some cs
  gh : GhOK γ w
  mix : Mix γ

/-- Nothing may be written into the block. -/
def Still (γ : Gh) (b : Nat) : Prop := ∀ o, γ b o = .none ∨ ∃ v, γ b o = .perm v

structure Ext (dep : Nat) (fs : Frames) (γ : Gh) (β : Bl) (w : World) (γ' : Gh) (β' : Bl) (w' : World) : Prop where
  perm : ∀ b o v, γ b o = .perm v → γ' b o = .perm v
  tail : ∀ b o d t, γ b o = .tail (.tmp d t) → d < dep → γ' b o = .tail (.tmp d t)
  bl : ∀ d k b, d < dep → β d k = some b → β' d k = some b
  size : w.heap.size ≤ w'.heap.size
  still : ∀ b, b < w.heap.size → Still γ b → w'.heap[b]? = w.heap[b]? ∧ γ' b = γ b
  hid : ∀ b d k, 1 ≤ d → d < dep → look fs d k = none → (∃ o, γ b o = .obj d k) → w'.heap[b]? = w.heap[b]? ∧ ∀ o, γ b o = .obj d k → γ' b o = .obj d k
  hidt : ∀ b o d k i, 1 ≤ d → d < dep → look fs d k = none → γ b o = .tail (.obj d k i) → γ' b o = .tail (.obj d k i)
  os : w'.os = w.os
  tape : w'.tape = w.tape
  output : w'.output = w.output

/-- The lower frames have the objects that they had. -/
def Shape (dep : Nat) (fs fs' : Frames) : Prop := ∀ d k, 1 ≤ d → d < dep → (look fs d k = none ↔ look fs' d k = none)

theorem Shape.refl (dep : Nat) (fs : Frames) : Shape dep fs fs := fun _ _ _ _ => Iff.rfl
theorem Shape.trans {dep : Nat} {a b c : Frames} (h : Shape dep a b) (k : Shape dep b c) : Shape dep a c :=
  fun d n h1 h2 => (h d n h1 h2).trans (k d n h1 h2)

theorem Ext.refl (dep : Nat) (fs : Frames) (γ : Gh) (β : Bl) (w : World) : Ext dep fs γ β w γ β w :=
  ⟨fun _ _ _ h => h, fun _ _ _ _ h _ => h, fun _ _ _ _ h => h, Nat.le_refl _, fun _ _ _ => ⟨rfl, rfl⟩, fun _ _ _ _ _ _ _ => ⟨rfl, fun _ h => h⟩, fun _ _ _ _ _ _ _ _ h => h, rfl, rfl, rfl⟩

theorem Ext.trans {dep : Nat} {fs fs' : Frames} {γ γ₁ γ₂ : Gh} {β β₁ β₂ : Bl} {w w₁ w₂ : World} (h : Ext dep fs γ β w γ₁ β₁ w₁)
    (k : Ext dep fs' γ₁ β₁ w₁ γ₂ β₂ w₂) (hs : Shape dep fs fs') : Ext dep fs γ β w γ₂ β₂ w₂ where
  perm b o v e := k.perm b o v (h.perm b o v e)
  tail b o d t e hd := k.tail b o d t (h.tail b o d t e hd) hd
  bl d n b hd e := k.bl d n b hd (h.bl d n b hd e)
  size := Nat.le_trans h.size k.size
  still b hb hg := by
    obtain ⟨h1, h2⟩ := h.still b hb hg
    obtain ⟨k1, k2⟩ := k.still b (Nat.lt_of_lt_of_le hb h.size) (by unfold Still; rw [h2]; exact hg)
    exact ⟨k1.trans h1, k2.trans h2⟩
  hid b d n h0 hd hl hg := by
    obtain ⟨h1, h2⟩ := h.hid b d n h0 hd hl hg
    obtain ⟨o, ho⟩ := hg
    obtain ⟨k1, k2⟩ := k.hid b d n h0 hd ((hs d n h0 hd).1 hl) ⟨o, h2 o ho⟩
    exact ⟨k1.trans h1, fun o ho => k2 o (h2 o ho)⟩
  hidt b o d n i h0 hd hl hg := k.hidt b o d n i h0 hd ((hs d n h0 hd).1 hl) (h.hidt b o d n i h0 hd hl hg)
  os := k.os.trans h.os
  tape := k.tape.trans h.tape
  output := k.output.trans h.output

/-! ### What keeps values -/

mutual
theorem RD.mono {γ γ' : Gh} (h : ∀ b o v, γ b o = .perm v → γ' b o = .perm v) : ∀ (d : D) (v : Value), RD γ d v → RD γ' d v
  | .bool _, _, e => by simpa only [RD] using e
  | .int _ _, _, e => by simpa only [RD] using e
  | .str _, _, e => by simpa only [RD] using e
  | .sl s es, v, e => by
    simp only [RD] at e ⊢
    obtain ⟨a, len, cap, rfl, h1, h2, h3, h4, h5⟩ := e
    exact ⟨a, len, cap, rfl, h1, h2, h3, h4, fun ad ha => ⟨(h5 ad ha).1, RRow.mono h es _ _ (h5 ad ha).2⟩⟩
theorem RRow.mono {γ γ' : Gh} (h : ∀ b o v, γ b o = .perm v → γ' b o = .perm v) : ∀ (es : List (List D)) (b o : Nat), RRow γ b o es → RRow γ' b o es
  | [], _, _, _ => by simp only [RRow]
  | e :: es, b, o, hr => by
    simp only [RRow] at hr ⊢
    exact ⟨REl.mono h e b o hr.1, RRow.mono h es _ _ hr.2⟩
theorem REl.mono {γ γ' : Gh} (h : ∀ b o v, γ b o = .perm v → γ' b o = .perm v) : ∀ (ds : List D) (b o : Nat), REl γ b o ds → REl γ' b o ds
  | [], _, _, _ => by simp only [REl]
  | d :: ds, b, o, hr => by
    simp only [REl] at hr ⊢
    obtain ⟨⟨v, hv, hd⟩, h2⟩ := hr
    exact ⟨⟨v, h b o v hv, RD.mono h d v hd⟩, REl.mono h ds b (o + 1) h2⟩
end

theorem SlOK.mono {γ γ' : Gh} (h : ∀ b o v, γ b o = .perm v → γ' b o = .perm v) {s : Nat} {es : List (List D)} {a : Option Addr} {len cap : Nat}
    (e : SlOK s es a len cap (fun b o => RRow γ b o es)) : SlOK s es a len cap (fun b o => RRow γ' b o es) := by
  obtain ⟨h1, h2, h3, h4, h5⟩ := e
  exact ⟨h1, h2, h3, h4, fun ad ha => ⟨(h5 ad ha).1, RRow.mono h es _ _ (h5 ad ha).2⟩⟩

mutual
theorem RC.mono {γ γ' : Gh} {β β' : Bl} {p : Option Pos} {d : Nat} (h : ∀ b o v, γ b o = .perm v → γ' b o = .perm v)
    (hb : ∀ d' k b, d' ≤ d → β d' k = some b → β' d' k = some b) (ht : ∀ q, p = some q → ∀ b o, γ b o = .tail q → γ' b o = .tail q) :
    ∀ (c : C) (v : Value), C.le d c = true → RC γ β p c v → RC γ' β' p c v
  | .bool _, _, _, e => by simpa only [RC] using e
  | .int _ _, _, _, e => by simpa only [RC] using e
  | .str _, _, _, e => by simpa only [RC] using e
  | .sl k s es, v, _, e => by
    simp only [RC] at e ⊢
    obtain ⟨a, len, cap, rfl, h1, h2⟩ := e
    refine ⟨a, len, cap, rfl, h1.mono h, ?_⟩
    cases k with
    | nil => exact h2
    | ro => exact h2
    | exact => exact h2
    | own =>
      cases p with
      | none => exact h2
      | some q => exact fun ad ha o h3 h4 => ht q rfl _ _ (h2 ad ha o h3 h4)
  | .asl d' k off len cap s, v, hle, e => by
    simp only [RC] at e ⊢
    simp only [C.le, decide_eq_true_eq] at hle
    obtain ⟨b, o, h1, h2⟩ := e
    exact ⟨b, o, hb _ _ _ hle h1, h2⟩
  | .ptr d' k off, v, hle, e => by
    simp only [RC] at e ⊢
    simp only [C.le, decide_eq_true_eq] at hle
    obtain ⟨b, h1, h2⟩ := e
    exact ⟨b, hb _ _ _ hle h1, h2⟩
  | .nilp, _, _, e => by simpa only [RC] using e
  | .fn f a b, v, hle, e => by
    simp only [RC] at e ⊢
    simp only [C.le, Bool.and_eq_true] at hle
    obtain ⟨x, y, h1, h2, h3⟩ := e
    exact ⟨x, y, h1, RCs.mono h hb a _ hle.1 h2, RCs.mono h hb b _ hle.2 h3⟩
  | .nilfn, _, _, e => by simpa only [RC] using e
  | .ifc t agg cs, v, hle, e => by
    simp only [RC] at e ⊢
    simp only [C.le] at hle
    obtain ⟨u, h1, h2⟩ := e
    refine ⟨u, h1, ?_⟩
    rcases h2 with ⟨h3, x, h4, h5⟩ | ⟨h3, h4⟩
    · exact .inl ⟨h3, x, h4, RCs.mono h hb cs _ hle h5⟩
    · exact .inr ⟨h3, RCs.mono h hb cs _ hle h4⟩
  | .nilif, _, _, e => by simpa only [RC] using e
  | .someif, _, _, e => by simpa only [RC] using e
theorem RCs.mono {γ γ' : Gh} {β β' : Bl} {d : Nat} (h : ∀ b o v, γ b o = .perm v → γ' b o = .perm v)
    (hb : ∀ d' k b, d' ≤ d → β d' k = some b → β' d' k = some b) :
    ∀ (cs : List C) (vs : List Value), C.leL d cs = true → RCs γ β cs vs → RCs γ' β' cs vs
  | [], [], _, _ => by simp only [RCs]
  | [], _ :: _, _, e => by simp only [RCs] at e
  | _ :: _, [], _, e => by simp only [RCs] at e
  | c :: cs, v :: vs, hle, e => by
    simp only [RCs] at e ⊢
    simp only [C.leL, Bool.and_eq_true] at hle
    exact ⟨RC.mono h hb (fun q hq => by cases hq) c v hle.1 e.1, RCs.mono h hb cs vs hle.2 e.2⟩
end

theorem RV1.mono {γ γ' : Gh} {β β' : Bl} {d : Nat} (h : ∀ b o v, γ b o = .perm v → γ' b o = .perm v)
    (hb : ∀ d' k b, d' ≤ d → β d' k = some b → β' d' k = some b) : ∀ (x : V) (v : Value), x.le1 d = true → RV1 γ β x v → RV1 γ' β' x v
  | .c x, v, hle, e => by
    simp only [RV1] at e ⊢
    exact RC.mono h hb (fun q hq => by cases hq) x v hle e
  | .agg cs, v, hle, e => by
    simp only [RV1] at e ⊢
    obtain ⟨x, h1, h2⟩ := e
    exact ⟨x, h1, RCs.mono h hb cs _ hle h2⟩
  | .tup _, v, _, e => by simp only [RV1] at e
  | .pe .., v, _, e => by simp only [RV1] at e
  | .junk, v, _, e => by simp only [RV1]

theorem RVs.mono {γ γ' : Gh} {β β' : Bl} {d : Nat} (h : ∀ b o v, γ b o = .perm v → γ' b o = .perm v)
    (hb : ∀ d' k b, d' ≤ d → β d' k = some b → β' d' k = some b) : ∀ (xs : List V) (vs : List Value), xs.all (V.le1 d) = true → RVs γ β xs vs → RVs γ' β' xs vs
  | [], [], _, _ => by simp only [RVs]
  | [], _ :: _, _, e => by simp only [RVs] at e
  | _ :: _, [], _, e => by simp only [RVs] at e
  | x :: xs, v :: vs, hle, e => by
    simp only [RVs] at e ⊢
    simp only [List.all_cons, Bool.and_eq_true] at hle
    exact ⟨RV1.mono h hb x v hle.1 e.1, RVs.mono h hb xs vs hle.2 e.2⟩

theorem RV.mono {γ γ' : Gh} {β β' : Bl} {p : Option Pos} {d : Nat} (h : ∀ b o v, γ b o = .perm v → γ' b o = .perm v)
    (hb : ∀ d' k b, d' ≤ d → β d' k = some b → β' d' k = some b) (ht : ∀ q, p = some q → ∀ b o, γ b o = .tail q → γ' b o = .tail q) :
    ∀ (x : V) (v : Value), x.le d = true → RV γ β p x v → RV γ' β' p x v
  | .c x, v, hle, e => by
    simp only [RV] at e ⊢
    exact RC.mono h hb ht x v hle e
  | .agg cs, v, hle, e => by
    simp only [RV] at e ⊢
    obtain ⟨x, h1, h2⟩ := e
    exact ⟨x, h1, RCs.mono h hb cs _ hle h2⟩
  | .tup vs, v, hle, e => by
    simp only [RV] at e ⊢
    obtain ⟨x, h1, h2⟩ := e
    exact ⟨x, h1, RVs.mono h hb vs _ hle h2⟩
  | .pe s es i j, v, _, e => by
    simp only [RV] at e ⊢
    obtain ⟨b, o, el, h1, h2, h3⟩ := e
    exact ⟨b, o, el, h1, h2, REl.mono h _ _ _ h3⟩
  | .junk, v, _, e => by simp only [RV]
  | .raw _, v, _, e => by simpa only [RV] using e

mutual
theorem RC.perm {γ γ' : Gh} {β : Bl} {p : Option Pos} (h : ∀ b o v, γ b o = .perm v → γ' b o = .perm v)
    (ht : ∀ q, p = some q → ∀ b o, γ b o = .tail q → γ' b o = .tail q) : ∀ (c : C) (v : Value), RC γ β p c v → RC γ' β p c v
  | .bool _, _, e => by simpa only [RC] using e
  | .int _ _, _, e => by simpa only [RC] using e
  | .str _, _, e => by simpa only [RC] using e
  | .sl k s es, v, e => by
    simp only [RC] at e ⊢
    obtain ⟨a, len, cap, rfl, h1, h2⟩ := e
    refine ⟨a, len, cap, rfl, h1.mono h, ?_⟩
    cases k with
    | nil => exact h2
    | ro => exact h2
    | exact => exact h2
    | own =>
      cases p with
      | none => exact h2
      | some q => exact fun ad ha o h3 h4 => ht q rfl _ _ (h2 ad ha o h3 h4)
  | .asl .., v, e => by simpa only [RC] using e
  | .ptr .., v, e => by simpa only [RC] using e
  | .nilp, _, e => by simpa only [RC] using e
  | .fn f a b, v, e => by
    simp only [RC] at e ⊢
    obtain ⟨x, y, h1, h2, h3⟩ := e
    exact ⟨x, y, h1, RCs.perm h a _ h2, RCs.perm h b _ h3⟩
  | .nilfn, _, e => by simpa only [RC] using e
  | .ifc t agg cs, v, e => by
    simp only [RC] at e ⊢
    obtain ⟨u, h1, h2⟩ := e
    refine ⟨u, h1, ?_⟩
    rcases h2 with ⟨h3, x, h4, h5⟩ | ⟨h3, h4⟩
    · exact .inl ⟨h3, x, h4, RCs.perm h cs _ h5⟩
    · exact .inr ⟨h3, RCs.perm h cs _ h4⟩
  | .nilif, _, e => by simpa only [RC] using e
  | .someif, _, e => by simpa only [RC] using e
theorem RCs.perm {γ γ' : Gh} {β : Bl} (h : ∀ b o v, γ b o = .perm v → γ' b o = .perm v) :
    ∀ (cs : List C) (vs : List Value), RCs γ β cs vs → RCs γ' β cs vs
  | [], [], _ => by simp only [RCs]
  | [], _ :: _, e => by simp only [RCs] at e
  | _ :: _, [], e => by simp only [RCs] at e
  | c :: cs, v :: vs, e => by
    simp only [RCs] at e ⊢
    exact ⟨RC.perm h (fun q hq => by cases hq) c v e.1, RCs.perm h cs vs e.2⟩
end

theorem RV1.perm {γ γ' : Gh} {β : Bl} (h : ∀ b o v, γ b o = .perm v → γ' b o = .perm v) : ∀ (x : V) (v : Value), RV1 γ β x v → RV1 γ' β x v
  | .c x, v, e => by
    simp only [RV1] at e ⊢
    exact RC.perm h (fun q hq => by cases hq) x v e
  | .agg cs, v, e => by
    simp only [RV1] at e ⊢
    obtain ⟨x, h1, h2⟩ := e
    exact ⟨x, h1, RCs.perm h cs _ h2⟩
  | .tup _, v, e => by simp only [RV1] at e
  | .pe .., v, e => by simp only [RV1] at e
  | .junk, v, e => by simp only [RV1]

theorem RVs.perm {γ γ' : Gh} {β : Bl} (h : ∀ b o v, γ b o = .perm v → γ' b o = .perm v) : ∀ (xs : List V) (vs : List Value), RVs γ β xs vs → RVs γ' β xs vs
  | [], [], _ => by simp only [RVs]
  | [], _ :: _, e => by simp only [RVs] at e
  | _ :: _, [], e => by simp only [RVs] at e
  | x :: xs, v :: vs, e => by
    simp only [RVs] at e ⊢
    exact ⟨RV1.perm h x v e.1, RVs.perm h xs vs e.2⟩

theorem RV.perm {γ γ' : Gh} {β : Bl} {p : Option Pos} (h : ∀ b o v, γ b o = .perm v → γ' b o = .perm v)
    (ht : ∀ q, p = some q → ∀ b o, γ b o = .tail q → γ' b o = .tail q) : ∀ (x : V) (v : Value), RV γ β p x v → RV γ' β p x v
  | .c x, v, e => by
    simp only [RV] at e ⊢
    exact RC.perm h ht x v e
  | .agg cs, v, e => by
    simp only [RV] at e ⊢
    obtain ⟨x, h1, h2⟩ := e
    exact ⟨x, h1, RCs.perm h cs _ h2⟩
  | .tup vs, v, e => by
    simp only [RV] at e ⊢
    obtain ⟨x, h1, h2⟩ := e
    exact ⟨x, h1, RVs.perm h vs _ h2⟩
  | .pe s es i j, v, e => by
    simp only [RV] at e ⊢
    obtain ⟨b, o, el, h1, h2, h3⟩ := e
    exact ⟨b, o, el, h1, h2, REl.mono h _ _ _ h3⟩
  | .junk, v, e => by simp only [RV]
  | .raw _, v, e => by simpa only [RV] using e

/-! ### Rights to append -/

/-- What one place had another one has. -/
def relabel (γ : Gh) (p q : Pos) : Gh := fun b o => match γ b o with
  | .tail r => if r = p then .tail q else .tail r
  | x => x

theorem relabel_perm {γ : Gh} {p q : Pos} (b o : Nat) (v : Value) (h : γ b o = .perm v) : relabel γ p q b o = .perm v := by simp [relabel, h]
theorem relabel_obj {γ : Gh} {p q : Pos} (b o : Nat) (d k : Nat) (h : γ b o = .obj d k) : relabel γ p q b o = .obj d k := by simp [relabel, h]
theorem relabel_same {γ : Gh} {p q : Pos} (b o : Nat) (h : γ b o = .tail p) : relabel γ p q b o = .tail q := by simp [relabel, h]
theorem relabel_other {γ : Gh} {p q r : Pos} (b o : Nat) (h : γ b o = .tail r) (hr : r ≠ p) : relabel γ p q b o = .tail r := by simp [relabel, h, hr]

theorem relabel_gh {γ : Gh} {p q : Pos} {w : World} (h : GhOK γ w) : GhOK (relabel γ p q) w := by
  refine ⟨fun b o => ?_, h.2.mono relabel_perm fun b cs t fz e => ⟨cs, t, fz, e, rfl⟩⟩
  have := h.1 b o
  unfold relabel
  cases e : γ b o with
  | none => trivial
  | perm v => simpa [e] using this
  | tail r =>
    simp only [e] at this
    by_cases hr : r = p
    · simp only [hr, if_true]; exact this
    · simp only [hr, if_false]; exact this
  | obj d k => simpa [e] using this

theorem relabel_mix {γ : Gh} {p q : Pos} (h : Mix γ) : Mix (relabel γ p q) := by
  intro b o o' d k r h1 h2
  unfold relabel at h1 h2
  cases e1 : γ b o with
  | obj d' k' =>
    cases e2 : γ b o' with
    | tail r' => exact h b o o' d' k' r' e1 e2
    | none => simp [e2] at h2
    | perm v => simp [e2] at h2
    | obj _ _ => simp [e2] at h2
  | tail r' =>
    simp only [e1] at h1
    by_cases hr : r' = p
    · simp [hr] at h1
    · simp [hr] at h1
  | none => simp [e1] at h1
  | perm v => simp [e1] at h1

theorem relabel_still {γ : Gh} {p q : Pos} {b : Nat} (h : Still γ b) : relabel γ p q b = γ b := by
  funext o
  rcases h o with h | ⟨v, h⟩ <;> simp [relabel, h]

theorem RC.none_of {γ : Gh} {β : Bl} {p : Option Pos} : ∀ (c : C) (v : Value), RC γ β p c v → RC γ β none c.strip v
  | .bool _, _, e => by simpa only [RC, C.strip] using e
  | .int _ _, _, e => by simpa only [RC, C.strip] using e
  | .str _, _, e => by simpa only [RC, C.strip] using e
  | .sl k s es, v, e => by
    simp only [RC, C.strip] at e ⊢
    obtain ⟨a, len, cap, rfl, h1, h2⟩ := e
    exact ⟨a, len, cap, rfl, h1, by cases k <;> simp_all [K.strip, KOK]⟩
  | .asl .., _, e => by simpa only [RC, C.strip] using e
  | .ptr .., _, e => by simpa only [RC, C.strip] using e
  | .nilp, _, e => by simpa only [RC, C.strip] using e
  | .fn .., _, e => by simpa only [RC, C.strip] using e
  | .nilfn, _, e => by simpa only [RC, C.strip] using e
  | .ifc .., _, e => by simpa only [RC, C.strip] using e
  | .nilif, _, e => by simpa only [RC, C.strip] using e
  | .someif, _, e => by simpa only [RC, C.strip] using e

theorem RC.of_none {γ : Gh} {β : Bl} (p : Option Pos) : ∀ (c : C) (v : Value), RC γ β none c v → RC γ β p c v
  | .bool _, _, e => by simpa only [RC] using e
  | .int _ _, _, e => by simpa only [RC] using e
  | .str _, _, e => by simpa only [RC] using e
  | .sl k s es, v, e => by
    simp only [RC] at e ⊢
    obtain ⟨a, len, cap, rfl, h1, h2⟩ := e
    exact ⟨a, len, cap, rfl, h1, by cases k <;> simp_all [KOK]⟩
  | .asl .., _, e => by simpa only [RC] using e
  | .ptr .., _, e => by simpa only [RC] using e
  | .nilp, _, e => by simpa only [RC] using e
  | .fn .., _, e => by simpa only [RC] using e
  | .nilfn, _, e => by simpa only [RC] using e
  | .ifc .., _, e => by simpa only [RC] using e
  | .nilif, _, e => by simpa only [RC] using e
  | .someif, _, e => by simpa only [RC] using e

theorem C.le_strip (d : Nat) : ∀ c : C, C.le d c.strip = C.le d c
  | .sl .. => by simp [C.strip, C.le]
  | .bool _ | .int _ _ | .str _ | .asl .. | .ptr .. | .nilp | .fn .. | .nilfn | .ifc .. | .nilif | .someif => rfl

theorem C.leL_strip (d : Nat) : ∀ cs : List C, C.leL d (cs.map C.strip) = C.leL d cs
  | [] => rfl
  | c :: cs => by simp only [List.map_cons, C.leL, C.le_strip, C.leL_strip d cs]

theorem C.leL_mem {d : Nat} {cs : List C} : C.leL d cs = true ↔ ∀ c ∈ cs, C.le d c = true := by
  induction cs with
  | nil => simp [C.leL]
  | cons c cs ih => simp [C.leL, ih]

theorem RCs.get {γ : Gh} {β : Bl} : ∀ {cs : List C} {vs : List Value}, RCs γ β cs vs → cs.length = vs.length ∧ ∀ (i : Nat) (c : C), cs[i]? = some c → ∃ v, vs[i]? = some v ∧ RC γ β none c v
  | [], [], _ => ⟨rfl, fun i c h => by simp at h⟩
  | [], _ :: _, e => by simp only [RCs] at e
  | _ :: _, [], e => by simp only [RCs] at e
  | c :: cs, v :: vs, e => by
    simp only [RCs] at e
    obtain ⟨h1, h2⟩ := RCs.get e.2
    refine ⟨by simp [h1], fun i x hx => ?_⟩
    cases i with
    | zero => simp at hx; subst hx; exact ⟨v, rfl, e.1⟩
    | succ i => simp at hx ⊢; exact h2 i x hx

theorem RCs.mk {γ : Gh} {β : Bl} : ∀ {cs : List C} {vs : List Value}, cs.length = vs.length → (∀ (i : Nat) (c : C), cs[i]? = some c → ∃ v, vs[i]? = some v ∧ RC γ β none c v) → RCs γ β cs vs
  | [], [], _, _ => by simp only [RCs]
  | [], _ :: _, e, _ => by simp at e
  | _ :: _, [], e, _ => by simp at e
  | c :: cs, v :: vs, e, h => by
    simp only [RCs]
    refine ⟨?_, RCs.mk (by simpa using e) fun i x hx => ?_⟩
    · obtain ⟨u, hu, hr⟩ := h 0 c rfl
      simp at hu; subst hu; exact hr
    · exact h (i + 1) x (by simpa using hx)

theorem RV.strip_of {γ : Gh} {β : Bl} {p q : Option Pos} : ∀ (x : V) (v : Value), RV γ β p x v → RV γ β q x.strip v
  | .c x, v, e => by
    simp only [RV, V.strip] at e ⊢
    exact RC.of_none q _ _ (RC.none_of x v e)
  | .agg cs, v, e => by simpa only [RV, V.strip] using e
  | .tup vs, v, e => by simpa only [RV, V.strip] using e
  | .pe .., v, e => by simpa only [RV, V.strip] using e
  | .junk, v, e => by simp only [RV, V.strip]
  | .raw _, v, e => by simpa only [RV, V.strip] using e

theorem V.le_strip (d : Nat) : ∀ x : V, x.strip.le d = x.le d
  | .c x => by simp only [V.strip, V.le, C.le_strip]
  | .agg _ | .tup _ | .pe .. | .junk | .raw _ => rfl

theorem V.strip_id : ∀ x : V, x.hasSl = false → x.strip = x
  | .c (.sl ..), h => by simp [V.hasSl, C.isSl] at h
  | .c (.bool _), _ | .c (.int _ _), _ | .c (.str _), _ | .c (.asl ..), _ | .c (.ptr ..), _ | .c .nilp, _ | .c (.fn ..), _ | .c .nilfn, _ | .c (.ifc ..), _ | .c .nilif, _ | .c .someif, _ => rfl
  | .agg _, _ | .tup _, _ | .pe .., _ | .junk, _ | .raw _, _ => rfl

/-- A value that goes elsewhere takes its right to append along. -/
theorem RV.moves {γ : Gh} {β : Bl} {p q : Pos} : ∀ (x : V) (v : Value), RV γ β (some p) x v → RV (relabel γ p q) β (some q) x v
  | .c (.sl k s es), v, e => by
    simp only [RV, RC] at e ⊢
    obtain ⟨a, len, cap, rfl, h1, h2⟩ := e
    refine ⟨a, len, cap, rfl, h1.mono relabel_perm, ?_⟩
    cases k with
    | nil => exact h2
    | ro => exact h2
    | exact => exact h2
    | own => exact fun ad ha o h3 h4 => relabel_same _ _ (h2 ad ha o h3 h4)
  | .c (.bool _), _, e => by simpa only [RV, RC] using e
  | .c (.int _ _), _, e => by simpa only [RV, RC] using e
  | .c (.str _), _, e => by simpa only [RV, RC] using e
  | .c (.asl ..), _, e => by simpa only [RV, RC] using e
  | .c (.ptr ..), _, e => by simpa only [RV, RC] using e
  | .c .nilp, _, e => by simpa only [RV, RC] using e
  | .c (.fn f a b), v, e => by
    simp only [RV, RC] at e ⊢
    obtain ⟨x, y, h1, h2, h3⟩ := e
    exact ⟨x, y, h1, RCs.perm relabel_perm _ _ h2, RCs.perm relabel_perm _ _ h3⟩
  | .c .nilfn, _, e => by simpa only [RV, RC] using e
  | .c (.ifc t agg cs), v, e => by
    simp only [RV, RC] at e ⊢
    obtain ⟨u, h1, h2⟩ := e
    refine ⟨u, h1, ?_⟩
    rcases h2 with ⟨h3, x, h4, h5⟩ | ⟨h3, h4⟩
    · exact .inl ⟨h3, x, h4, RCs.perm relabel_perm _ _ h5⟩
    · exact .inr ⟨h3, RCs.perm relabel_perm _ _ h4⟩
  | .c .nilif, _, e => by simpa only [RV, RC] using e
  | .c .someif, _, e => by simpa only [RV, RC] using e
  | .agg cs, v, e => by
    simp only [RV] at e ⊢
    obtain ⟨x, h1, h2⟩ := e
    exact ⟨x, h1, RCs.perm relabel_perm _ _ h2⟩
  | .tup vs, v, e => by
    simp only [RV] at e ⊢
    obtain ⟨x, h1, h2⟩ := e
    exact ⟨x, h1, RVs.perm relabel_perm _ _ h2⟩
  | .pe s es i j, v, e => by
    simp only [RV] at e ⊢
    obtain ⟨b, o, el, h1, h2, h3⟩ := e
    exact ⟨b, o, el, h1, h2, REl.mono relabel_perm _ _ _ h3⟩
  | .junk, v, e => by simp only [RV]
  | .raw _, v, e => by simpa only [RV] using e

end Go.Ev
