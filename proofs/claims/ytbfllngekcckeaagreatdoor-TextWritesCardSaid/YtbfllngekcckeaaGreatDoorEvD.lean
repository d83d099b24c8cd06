/- Operations: what the evaluator gives is what the machine comes to. Operations, one by one. -/
import Derived.Test.YtbfllngekcckeaaGreatDoorEvC
import Derived.Laws.Sem
import Derived.Laws.Cells
import Derived.Laws.StructEq
import Derived.Laws.AppendOwn
import Derived.WideLaws
import Derived.Laws.Concat
import Derived.Laws.Build
namespace Go.Ev

theorem bytes_eta (s : ByteArray) : (⟨s.data.toList.toArray⟩ : ByteArray) = s := by simp

theorem constC_ok {γ : Gh} {β : Bl} : ∀ (v : Value) (c : C), constC v = some c → RC γ β none c v ∧ ∀ d, C.le d c = true := by
  intro v c h
  cases v with
  | bool b => simp only [constC, Option.some.injEq] at h; subst h; exact ⟨by simp only [RC], fun _ => rfl⟩
  | int k n => simp only [constC, Option.some.injEq] at h; subst h; exact ⟨by simp only [RC], fun _ => rfl⟩
  | string s => simp only [constC, Option.some.injEq] at h; subst h; exact ⟨by simp only [RC, bytes_eta], fun _ => rfl⟩
  | pointer a =>
    cases a with
    | none => simp only [constC, Option.some.injEq] at h; subst h; exact ⟨by simp only [RC], fun _ => rfl⟩
    | some a => simp [constC] at h
  | slice a len cap =>
    cases a with
    | some a => simp [constC] at h
    | none =>
      cases len with
      | succ n => simp [constC] at h
      | zero =>
        cases cap with
        | succ n => simp [constC] at h
        | zero =>
          simp only [constC, Option.some.injEq] at h
          subst h
          refine ⟨?_, fun _ => rfl⟩
          simp only [RC]
          exact ⟨none, 0, 0, rfl, ⟨rfl, Nat.le_refl _, by simp, fun _ => ⟨rfl, rfl⟩, fun ad h => by cases h⟩, rfl⟩
  | nilFunc => simp only [constC, Option.some.injEq] at h; subst h; exact ⟨by simp only [RC], fun _ => rfl⟩
  | nilIface => simp only [constC, Option.some.injEq] at h; subst h; exact ⟨by simp only [RC], fun _ => rfl⟩
  | _ => simp [constC] at h

theorem constCs_ok {γ : Gh} {β : Bl} : ∀ (vs : List Value) (cs : List C), constCs vs = some cs → RCs γ β cs vs ∧ ∀ d, C.leL d cs = true := by
  intro vs
  induction vs with
  | nil => intro cs h; simp only [constCs, Option.some.injEq] at h; subst h; exact ⟨by simp only [RCs], fun _ => rfl⟩
  | cons v vs ih =>
    intro cs h
    simp only [constCs] at h
    cases h1 : constC v with
    | none => simp [h1] at h
    | some c =>
      cases h2 : constCs vs with
      | none => simp [h1, h2] at h
      | some cs' =>
        simp only [h1, h2, Option.some.injEq] at h
        subst h
        obtain ⟨g1, g2⟩ := constC_ok (γ := γ) (β := β) v c h1
        obtain ⟨g3, g4⟩ := ih cs' h2
        exact ⟨by simp only [RCs]; exact ⟨g1, g3⟩, fun d => by simp only [C.leL, g2 d, g4 d, Bool.and_self]⟩

theorem constV_ok {γ : Gh} {β : Bl} (P : Program) (t : TypeId) (v : Value) : RV γ β none (constV P t v) v ∧ ∀ d, (constV P t v).le d = true := by
  have other : ∀ v : Value, (∀ c, constC v = some c → RV γ β none (.c c) v ∧ ∀ d, (V.c c).le d = true) := fun v c h => by
    obtain ⟨h1, h2⟩ := constC_ok (γ := γ) (β := β) v c h
    exact ⟨by simpa only [RV] using h1, fun d => by simpa only [V.le] using h2 d⟩
  have junk : ∀ v : Value, RV γ β none .junk v ∧ ∀ d, V.junk.le d = true := fun v => ⟨by simp only [RV], fun _ => rfl⟩
  cases v with
  | slice a len cap =>
    cases a with
    | some a => simp only [constV, constC]; exact junk _
    | none =>
      cases len with
      | succ n => simp only [constV, constC]; exact junk _
      | zero =>
        cases cap with
        | succ n => simp only [constV, constC]; exact junk _
        | zero =>
          simp only [constV]
          refine ⟨?_, fun _ => rfl⟩
          simp only [RV, RC]
          exact ⟨none, 0, 0, rfl, ⟨rfl, Nat.le_refl _, by simp, fun _ => ⟨rfl, rfl⟩, fun ad h => by cases h⟩, rfl⟩
  | agg cs =>
    simp only [constV]
    cases h : constCs cs.toList with
    | none => exact junk _
    | some x =>
      obtain ⟨h1, h2⟩ := constCs_ok (γ := γ) (β := β) _ _ h
      exact ⟨by simp only [RV]; exact ⟨cs, rfl, h1⟩, fun d => by simpa only [V.le] using h2 d⟩
  | bool b => simp only [constV, constC]; exact other _ _ rfl
  | int k n => simp only [constV, constC]; exact other _ _ rfl
  | string s => simp only [constV, constC]; exact other _ _ rfl
  | pointer a =>
    cases a with
    | none => simp only [constV, constC]; exact other _ _ rfl
    | some a => simp only [constV, constC]; exact junk _
  | nilFunc => simp only [constV, constC]; exact other _ _ rfl
  | nilIface => simp only [constV, constC]; exact other _ _ rfl
  | float k b => simp only [constV, constC]; exact junk _
  | complex k b c => simp only [constV, constC]; exact junk _
  | map r => simp only [constV, constC]; exact junk _
  | chan r => simp only [constV, constC]; exact junk _
  | func f a b => simp only [constV, constC]; exact junk _
  | iface t v => simp only [constV, constC]; exact junk _
  | tuple vs => simp only [constV, constC]; exact junk _

/-- Where an operand's value stands. -/
def opPos (dep : Nat) : Operand → Option Pos
  | .tmp t => some (.tmp dep t)
  | _ => none

section
variable {N dep : Nat} {γ : Gh} {β : Bl} {s : S} {a : Act} {w : World}

theorem Inv.ev (h : Inv N dep γ β s a w) (P : Program) (t : TypeId) (x : Operand) : RV γ β (opPos dep x) (ev P t s.m x) (a.eval x) ∧ (ev P t s.m x).le dep = true := by
  cases x with
  | tmp n => exact ⟨h.tm n, h.tle n⟩
  | const v => exact ⟨(constV_ok (γ := γ) (β := β) P t v).1, (constV_ok (γ := γ) (β := β) P t v).2 dep⟩
  | global g => exact ⟨by simp only [Ev.ev, RV], rfl⟩
  | func f =>
    refine ⟨?_, rfl⟩
    simp only [Ev.ev, RV, RC, Act.eval]
    exact ⟨#[], #[], rfl, by simp only [RCs], by simp only [RCs]⟩

/-- An operand's value, without the right to append. -/
theorem Inv.ev0 (h : Inv N dep γ β s a w) (P : Program) (t : TypeId) (x : Operand) (p : Option Pos) : RV γ β p (Ev.ev P t s.m x).strip (a.eval x) ∧ (Ev.ev P t s.m x).strip.le dep = true :=
  ⟨RV.strip_of _ _ (h.ev P t x).1, by rw [V.le_strip]; exact (h.ev P t x).2⟩

theorem RV.any {p : Option Pos} {x : V} {v : Value} (h : RV γ β none x v) : RV γ β p x v := Inv.gives.RV.none_any p h

end

def clr (dst : Option Tmp) (m : M) : M := match dst with
  | some d => (d, .junk) :: m
  | none => m

/-- The machine comes to what the evaluator gives. -/
def Land (P : Program) (N dep : Nat) (γ : Gh) (β : Bl) (s : S) (a : Act) (w : World) (o : Oper) (v : V) (s' : S) : Prop :=
  ∃ nx u w' γ' β', (execOp a.eval o).run P w = .ok nx w' ∧ (nx = .value u ∨ (nx = .skip ∧ u = undef)) ∧
    Inv N dep γ' β' { s' with m := clr o.dst s'.m } a w' ∧ (∀ d, o.dst = some d → RV γ' β' (some (.tmp dep d)) v u) ∧ v.le dep = true ∧
    Ext dep s.fs γ β w γ' β' w' ∧ Shape dep s.fs s'.fs

theorem Inv.clr {N dep : Nat} {γ : Gh} {β : Bl} {s : S} {a : Act} {w : World} (h : Inv N dep γ β s a w) (dst : Option Tmp) : Inv N dep γ β { s with m := clr dst s.m } a w := by
  cases dst with
  | none => exact h
  | some d => exact h.tmp d .junk (by simp only [RV]) rfl

theorem Inv.landed {N dep : Nat} {γ : Gh} {β : Bl} {s : S} {a : Act} {w : World} {dst : Option Tmp} (h : Inv N dep γ β { s with m := Ev.clr dst s.m } a w) (v : V) (u : Value)
    (hd : ∀ d, dst = some d → d < N) (hv : ∀ d, dst = some d → RV γ β (some (.tmp dep d)) v u) (hl : v.le dep = true) : Inv N dep γ β (Ev.put s dst v) (a.put dst u) w := by
  have := h.put dst v u (fun d e => ⟨hd d e, hv d e⟩) hl
  cases dst with
  | none => exact this
  | some d =>
    refine this.congr ((d, v) :: s.m) fun t => ?_
    simp only [Ev.put, Ev.clr, getT_cons]
    split <;> rfl

section
variable {P : Program} {N dep : Nat} {γ : Gh} {β : Bl} {s : S} {a : Act} {w : World} {o : Oper}

/-- A value, and nothing else turns. -/
theorem Land.pure (h : Inv N dep γ β s a w) {v : V} {u : Value} (hr : (execOp a.eval o).run P w = .ok (.value u) w) (hv : RV γ β none v u) (hl : v.le dep = true) :
    Land P N dep γ β s a w o v s :=
  ⟨_, u, w, γ, β, hr, .inl rfl, h.clr _, fun _ _ => RV.any hv, hl, Ext.refl _ _ _ _ _, Shape.refl _ _⟩

/-- A value goes from an operand to where the operation puts it, with its right to append. -/
theorem Land.moved (h : Inv N dep γ β s a w) {v : V} {u : Value} {x : Operand} (hr : (execOp a.eval o).run P w = .ok (.value u) w) (hv : RV γ β (opPos dep x) v u) (hl : v.le dep = true)
    (hg : ∀ t, x = .tmp t → v.hasSl = true → (getT s.m t).hasSl = true) : Land P N dep γ β s a w o v (give s x) := by
  cases x with
  | tmp t =>
    by_cases hs : (getT s.m t).hasSl = true
    · simp only [give, hs, if_true]
      cases hd : o.dst with
      | none =>
        refine ⟨_, u, w, relabel γ (.tmp dep t) (.tmp dep t), β, hr, .inl rfl, ?_, fun d e => (by rw [hd] at e; cases e), hl, Ext.relabel, Shape.refl _ _⟩
        rw [hd]
        exact h.gives t _
      | some d =>
        refine ⟨_, u, w, relabel γ (.tmp dep t) (.tmp dep d), β, hr, .inl rfl, ?_, fun d' e => ?_, hl, Ext.relabel, Shape.refl _ _⟩
        · rw [hd]
          exact (h.gives t _).clr (some d)
        · rw [hd] at e
          cases e
          exact RV.moves _ _ hv
    · simp only [give, if_neg hs]
      refine ⟨_, u, w, γ, β, hr, .inl rfl, h.clr _, fun d _ => ?_, hl, Ext.refl _ _ _ _ _, Shape.refl _ _⟩
      have hn : v.hasSl = false := by
        cases e : v.hasSl with
        | false => rfl
        | true => exact absurd (hg t rfl e) hs
      have := RV.strip_of (q := some (.tmp dep d)) _ _ hv
      rwa [V.strip_id _ hn] at this
  | const c => exact ⟨_, u, w, γ, β, hr, .inl rfl, h.clr _, fun _ _ => RV.any hv, hl, Ext.refl _ _ _ _ _, Shape.refl _ _⟩
  | global g => exact ⟨_, u, w, γ, β, hr, .inl rfl, h.clr _, fun _ _ => RV.any hv, hl, Ext.refl _ _ _ _ _, Shape.refl _ _⟩
  | func f => exact ⟨_, u, w, γ, β, hr, .inl rfl, h.clr _, fun _ _ => RV.any hv, hl, Ext.refl _ _ _ _ _, Shape.refl _ _⟩

end

end Go.Ev
set_option linter.unusedSimpArgs false
namespace Go.Ev

theorem run_sizeOf' {P : Program} {t : TypeId} {n : Nat} (h : sz P t = some n) (w : World) : (sizeOf t).run P w = .ok n w := by
  unfold sz at h
  cases hi : P.info? t with
  | none => simp [hi] at h
  | some i =>
    simp [hi] at h
    simp [sizeOf, typeInfo, hi, h]

theorem run_isAgg' {P : Program} {t : TypeId} {b : Bool} (h : aggT P t = some b) (w : World) : (isAgg t).run P w = .ok b w := by
  unfold aggT at h
  cases hu : P.underlying t with
  | none => simp [hu] at h
  | some d => cases d <;> simp_all [isAgg, run_underlying hu]

theorem lst_eq : ∀ x y : List UInt8, lst x y = Op.bytesLess x y
  | _, [] => by cases ‹List UInt8› <;> rfl
  | [], _ :: _ => rfl
  | a :: x, b :: y => by simp only [lst, Op.bytesLess, lst_eq x y]

/-- A number's, a bool's, a string's value. -/
def valC : C → Value
  | .bool b => .bool b
  | .int k n => .int k n
  | .str s => .string ⟨s.toArray⟩
  | _ => undef

def Plain (c : C) (v : Value) : Prop := (∀ (γ : Gh) (β : Bl) (p : Option Pos), RC γ β p c v) ∧ ∀ d, C.le d c = true

theorem plain_bool (b : Bool) : Plain (.bool b) (.bool b) := ⟨fun _ _ _ => by simp only [RC], fun _ => rfl⟩
theorem plain_int (k : IntKind) (n : Int) : Plain (.int k n) (.int k n) := ⟨fun _ _ _ => by simp only [RC], fun _ => rfl⟩
theorem plain_str (s : List UInt8) : Plain (.str s) (.string ⟨s.toArray⟩) := ⟨fun _ _ _ => by simp only [RC], fun _ => rfl⟩

section
variable {P : Program} {N dep : Nat} {γ : Gh} {β : Bl} {s : S} {a : Act} {w : World}

theorem intOp_ok {op : BinOp} {k : IntKind} {x y : Int} {c : C} {t : TypeId} (h : intOp op k x y = some c) (h1 : op ≠ .shl) (h2 : op ≠ .shr) :
    (binOp op t (.int k x) (.int k y)).run P w = .ok (valC c) w ∧ Plain c (valC c) := by
  cases op <;> simp only [intOp, Option.some.injEq, reduceCtorEq] at h <;> (try exact absurd rfl h1) <;> (try exact absurd rfl h2)
  case quo =>
    split at h
    · cases h
    · rename_i hy
      simp only [Option.some.injEq] at h; subst h
      exact ⟨by simp [binOp, Op.intDiv, hy, valC], plain_int _ _⟩
  case rem =>
    split at h
    · cases h
    · rename_i hy
      simp only [Option.some.injEq] at h; subst h
      exact ⟨by simp [binOp, Op.intDiv, hy, valC], plain_int _ _⟩
  all_goals
    subst h
    first
      | exact ⟨by simp [binOp, Op.intArith, Op.intBits, Op.intCmp, valC], plain_int _ _⟩
      | exact ⟨by simp [binOp, Op.intArith, Op.intBits, Op.intCmp, valC], plain_bool _⟩

theorem shiftOp_ok {op : BinOp} {k k' : IntKind} {x y : Int} {c : C} {t : TypeId} (h : shiftOp op k x y = some c) :
    (binOp op t (.int k x) (.int k' y)).run P w = .ok (valC c) w ∧ Plain c (valC c) := by
  unfold shiftOp at h
  split at h
  · cases h
  · rename_i hy
    cases op <;> simp only [Option.some.injEq, reduceCtorEq] at h
    all_goals
      subst h
      exact ⟨by simp [binOp, Op.shift, hy, valC], plain_int _ _⟩

theorem strOp_ok {op : BinOp} {x y : List UInt8} {c : C} {t : TypeId} (h : strOp op x y = some c) :
    (binOp op t (.string ⟨x.toArray⟩) (.string ⟨y.toArray⟩)).run P w = .ok (valC c) w ∧ Plain c (valC c) := by
  cases op <;> simp only [strOp, Option.some.injEq, reduceCtorEq] at h
  case add =>
    split at h
    · rename_i hl
      simp only [Option.some.injEq] at h; subst h
      refine ⟨?_, plain_str _⟩
      have := run_string_add_sum (P := P) w ⟨x.toArray⟩ ⟨y.toArray⟩ (by simpa [ByteArray.size] using hl)
      rw [ByteArray.mk_append_mk] at this
      simpa [binOp, valC] using this
    · cases h
  all_goals
    subst h
    exact ⟨by simp [binOp, Op.stringOp, ByteArray.toList_eq, lst_eq, valC], plain_bool _⟩

theorem unV_ok {op : UnOp} {x : V} {v : Value} {c : C} {p : Option Pos} (h : unV op x = some c) (hv : RV γ β p x v) :
    (Op.unary op v).run P w = .ok (valC c) w ∧ Plain c (valC c) := by
  unfold unV at h
  split at h
  · simp only [RV, RC] at hv; subst hv
    simp only [Option.some.injEq] at h; subst h
    exact ⟨by simp [Op.unary, Op.intArith, valC], plain_int _ _⟩
  · simp only [RV, RC] at hv; subst hv
    simp only [Option.some.injEq] at h; subst h
    exact ⟨by simp only [Op.unary, Op.intBits, Sem.run_pure, valC], plain_int _ _⟩
  · simp only [RV, RC] at hv; subst hv
    simp only [Option.some.injEq] at h; subst h
    exact ⟨by simp only [Op.unary, Sem.run_pure, valC], plain_bool _⟩
  · cases h

/-- What a type is, by the kind of its '=='. -/
def KD (P : Program) (t : TypeId) : Nat → Prop
  | 1 => P.underlying t = some .bool
  | 2 => ∃ e, P.underlying t = some (.pointer e)
  | 3 => ∃ a b c, P.underlying t = some (.func a b c)
  | 4 => ∃ m, P.underlying t = some (.interface m)
  | 5 => ∃ e, P.underlying t = some (.slice e)
  | _ => True

/-- '==' of what is no whole number, no string, no struct. -/
theorem eqV_ok {kd : Nat} {x y : V} {v u : Value} {p q : Option Pos} {r : Bool} {t : TypeId} (h : eqV kd x y = some r) (hv : RV γ β p x v) (hu : RV γ β q y u)
    (hkd : KD P t kd) (d : Nat) : (Op.equalIn (d + 1) t v u).run P w = .ok r w := by
  unfold eqV at h
  unfold KD at hkd
  split at h
  all_goals (try (cases h; done))
  all_goals (try simp only [RV, RC] at hv)
  all_goals (try simp only [RV, RC] at hu)
  all_goals (try simp only [Option.some.injEq] at h)
  all_goals (try subst h)
  · subst hv hu
    have hkd : P.underlying t = some .bool := hkd
    simp [Op.equalIn, run_underlying hkd]
  · subst hv hu
    obtain ⟨e, hkd⟩ := hkd
    simp [Op.equalIn, run_underlying hkd]
  · subst hv
    obtain ⟨b, _, rfl⟩ := hu
    obtain ⟨e, hkd⟩ := hkd
    simp [Op.equalIn, run_underlying hkd]
  · subst hu
    obtain ⟨b, _, rfl⟩ := hv
    obtain ⟨e, hkd⟩ := hkd
    simp [Op.equalIn, run_underlying hkd]
  · subst hv hu
    obtain ⟨e, f, g, hkd⟩ := hkd
    simp [Op.equalIn, run_underlying hkd]
  · subst hv
    obtain ⟨b, _, rfl, _⟩ := hu
    obtain ⟨e, f, g, hkd⟩ := hkd
    simp [Op.equalIn, run_underlying hkd]
  · subst hu
    obtain ⟨b, _, rfl, _⟩ := hv
    obtain ⟨e, f, g, hkd⟩ := hkd
    simp [Op.equalIn, run_underlying hkd]
  · subst hv hu
    obtain ⟨e, hkd⟩ := hkd
    simp [Op.equalIn, run_underlying hkd]
  · subst hv
    obtain ⟨b, rfl, _⟩ := hu
    obtain ⟨e, hkd⟩ := hkd
    simp [Op.equalIn, run_underlying hkd]
  · subst hv
    obtain ⟨_, b, rfl⟩ := hu
    obtain ⟨e, hkd⟩ := hkd
    simp [Op.equalIn, run_underlying hkd]
  · subst hu
    obtain ⟨b, rfl, _⟩ := hv
    obtain ⟨e, hkd⟩ := hkd
    simp [Op.equalIn, run_underlying hkd]
  · subst hu
    obtain ⟨_, b, rfl⟩ := hv
    obtain ⟨e, hkd⟩ := hkd
    simp [Op.equalIn, run_underlying hkd]
  · obtain ⟨a1, l1, c1, rfl, _, h1⟩ := hv
    obtain ⟨a2, l2, c2, rfl, _, h2⟩ := hu
    simp only [KOK] at h1 h2
    subst h1 h2
    obtain ⟨e, hkd⟩ := hkd
    simp [Op.equalIn, run_underlying hkd]
  · obtain ⟨a1, l1, c1, rfl, ⟨_, _, _, h1, _⟩, _⟩ := hv
    obtain ⟨a2, l2, c2, rfl, _, h2⟩ := hu
    simp only [KOK] at h2
    subst h2
    obtain ⟨e, hkd⟩ := hkd
    cases a1 with
    | none => have := (h1 rfl).1; cases this
    | some ad => simp [Op.equalIn, run_underlying hkd]

end

end Go.Ev
