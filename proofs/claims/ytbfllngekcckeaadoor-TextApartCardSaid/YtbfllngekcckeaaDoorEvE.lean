/- Operations, one by one. -/
import Derived.Test.YtbfllngekcckeaaDoorEvD
import Derived.Laws.Concat
import Derived.Laws.Build
set_option linter.unusedSimpArgs false
namespace Go.Ev

theorem run_sizeOf' {P : Program} {t : TypeId} {n : Nat} (h : sz P t = some n) (w : World) : (sizeOf t).run P w = .ok n w := by
  unfold sz at h
  cases hi : P.info? t with
  | none => simp [hi] at h
  | some i =>
    simp [hi] at h
    simp [sizeOf, typeInfo, hi, h]

theorem run_isAgg' {P : Program} {t : TypeId} {b : Bool} (h : aggT P t = some b) (w : World) : (isAgg t).run P w = .ok b w := by
  unfold aggT at h
  cases hu : P.underlying t with
  | none => simp [hu] at h
  | some d => cases d <;> simp_all [isAgg, run_underlying hu]

theorem lst_eq : ∀ x y : List UInt8, lst x y = Op.bytesLess x y
  | _, [] => by cases ‹List UInt8› <;> rfl
  | [], _ :: _ => rfl
  | a :: x, b :: y => by simp only [lst, Op.bytesLess, lst_eq x y]

/-- A number's, a bool's, a string's value. -/
def valC : C → Value
  | .bool b => .bool b
  | .int k n => .int k n
  | .str s => .string ⟨s.toArray⟩
  | _ => undef

def Plain (c : C) (v : Value) : Prop := (∀ (γ : Gh) (β : Bl) (p : Option Pos), RC γ β p c v) ∧ ∀ d, C.le d c = true

theorem plain_bool (b : Bool) : Plain (.bool b) (.bool b) := ⟨fun _ _ _ => by simp only [RC], fun _ => rfl⟩
theorem plain_int (k : IntKind) (n : Int) : Plain (.int k n) (.int k n) := ⟨fun _ _ _ => by simp only [RC], fun _ => rfl⟩
theorem plain_str (s : List UInt8) : Plain (.str s) (.string ⟨s.toArray⟩) := ⟨fun _ _ _ => by simp only [RC], fun _ => rfl⟩

section
variable {P : Program} {N dep : Nat} {γ : Gh} {β : Bl} {s : S} {a : Act} {w : World}

theorem intOp_ok {op : BinOp} {k : IntKind} {x y : Int} {c : C} {t : TypeId} (h : intOp op k x y = some c) (h1 : op ≠ .shl) (h2 : op ≠ .shr) :
    (binOp op t (.int k x) (.int k y)).run P w = .ok (valC c) w ∧ Plain c (valC c) := by
  cases op <;> simp only [intOp, Option.some.injEq, reduceCtorEq] at h <;> (try exact absurd rfl h1) <;> (try exact absurd rfl h2)
  case quo =>
    split at h
    · cases h
    · rename_i hy
      simp only [Option.some.injEq] at h; subst h
      exact ⟨by simp [binOp, Op.intDiv, hy, valC], plain_int _ _⟩
  case rem =>
    split at h
    · cases h
    · rename_i hy
      simp only [Option.some.injEq] at h; subst h
      exact ⟨by simp [binOp, Op.intDiv, hy, valC], plain_int _ _⟩
  all_goals
    subst h
    first
      | exact ⟨by simp [binOp, Op.intArith, Op.intBits, Op.intCmp, valC], plain_int _ _⟩
      | exact ⟨by simp [binOp, Op.intArith, Op.intBits, Op.intCmp, valC], plain_bool _⟩

theorem shiftOp_ok {op : BinOp} {k k' : IntKind} {x y : Int} {c : C} {t : TypeId} (h : shiftOp op k x y = some c) :
    (binOp op t (.int k x) (.int k' y)).run P w = .ok (valC c) w ∧ Plain c (valC c) := by
  unfold shiftOp at h
  split at h
  · cases h
  · rename_i hy
    cases op <;> simp only [Option.some.injEq, reduceCtorEq] at h
    all_goals
      subst h
      exact ⟨by simp [binOp, Op.shift, hy, valC], plain_int _ _⟩

theorem strOp_ok {op : BinOp} {x y : List UInt8} {c : C} {t : TypeId} (h : strOp op x y = some c) :
    (binOp op t (.string ⟨x.toArray⟩) (.string ⟨y.toArray⟩)).run P w = .ok (valC c) w ∧ Plain c (valC c) := by
  cases op <;> simp only [strOp, Option.some.injEq, reduceCtorEq] at h
  case add =>
    split at h
    · rename_i hl
      simp only [Option.some.injEq] at h; subst h
      refine ⟨?_, plain_str _⟩
      have := run_string_add_sum (P := P) w ⟨x.toArray⟩ ⟨y.toArray⟩ (by simpa [ByteArray.size] using hl)
      rw [ByteArray.mk_append_mk] at this
      simpa [binOp, valC] using this
    · cases h
  all_goals
    subst h
    exact ⟨by simp [binOp, Op.stringOp, ByteArray.toList_eq, lst_eq, valC], plain_bool _⟩

theorem unV_ok {op : UnOp} {x : V} {v : Value} {c : C} {p : Option Pos} (h : unV op x = some c) (hv : RV γ β p x v) :
    (Op.unary op v).run P w = .ok (valC c) w ∧ Plain c (valC c) := by
  unfold unV at h
  split at h
  · simp only [RV, RC] at hv; subst hv
    simp only [Option.some.injEq] at h; subst h
    exact ⟨by simp [Op.unary, Op.intArith, valC], plain_int _ _⟩
  · simp only [RV, RC] at hv; subst hv
    simp only [Option.some.injEq] at h; subst h
    exact ⟨by simp only [Op.unary, Op.intBits, Sem.run_pure, valC], plain_int _ _⟩
  · simp only [RV, RC] at hv; subst hv
    simp only [Option.some.injEq] at h; subst h
    exact ⟨by simp only [Op.unary, Sem.run_pure, valC], plain_bool _⟩
  · cases h

/-- What a type is, by the kind of its '=='. -/
def KD (P : Program) (t : TypeId) : Nat → Prop
  | 1 => P.underlying t = some .bool
  | 2 => ∃ e, P.underlying t = some (.pointer e)
  | 3 => ∃ a b c, P.underlying t = some (.func a b c)
  | 4 => ∃ m, P.underlying t = some (.interface m)
  | 5 => ∃ e, P.underlying t = some (.slice e)
  | _ => True

/-- '==' of what is no whole number, no string, no struct. -/
theorem eqV_ok {kd : Nat} {x y : V} {v u : Value} {p q : Option Pos} {r : Bool} {t : TypeId} (h : eqV kd x y = some r) (hv : RV γ β p x v) (hu : RV γ β q y u)
    (hkd : KD P t kd) (d : Nat) : (Op.equalIn (d + 1) t v u).run P w = .ok r w := by
  unfold eqV at h
  unfold KD at hkd
  split at h
  all_goals (try (cases h; done))
  all_goals (try simp only [RV, RC] at hv)
  all_goals (try simp only [RV, RC] at hu)
  all_goals (try simp only [Option.some.injEq] at h)
  all_goals (try subst h)
  · subst hv hu
    have hkd : P.underlying t = some .bool := hkd
    simp [Op.equalIn, run_underlying hkd]
  · subst hv hu
    obtain ⟨e, hkd⟩ := hkd
    simp [Op.equalIn, run_underlying hkd]
  · subst hv
    obtain ⟨b, _, rfl⟩ := hu
    obtain ⟨e, hkd⟩ := hkd
    simp [Op.equalIn, run_underlying hkd]
  · subst hu
    obtain ⟨b, _, rfl⟩ := hv
    obtain ⟨e, hkd⟩ := hkd
    simp [Op.equalIn, run_underlying hkd]
  · subst hv hu
    obtain ⟨e, f, g, hkd⟩ := hkd
    simp [Op.equalIn, run_underlying hkd]
  · subst hv
    obtain ⟨b, _, rfl, _⟩ := hu
    obtain ⟨e, f, g, hkd⟩ := hkd
    simp [Op.equalIn, run_underlying hkd]
  · subst hu
    obtain ⟨b, _, rfl, _⟩ := hv
    obtain ⟨e, f, g, hkd⟩ := hkd
    simp [Op.equalIn, run_underlying hkd]
  · subst hv hu
    obtain ⟨e, hkd⟩ := hkd
    simp [Op.equalIn, run_underlying hkd]
  · subst hv
    obtain ⟨b, rfl, _⟩ := hu
    obtain ⟨e, hkd⟩ := hkd
    simp [Op.equalIn, run_underlying hkd]
  · subst hv
    obtain ⟨_, b, rfl⟩ := hu
    obtain ⟨e, hkd⟩ := hkd
    simp [Op.equalIn, run_underlying hkd]
  · subst hu
    obtain ⟨b, rfl, _⟩ := hv
    obtain ⟨e, hkd⟩ := hkd
    simp [Op.equalIn, run_underlying hkd]
  · subst hu
    obtain ⟨_, b, rfl⟩ := hv
    obtain ⟨e, hkd⟩ := hkd
    simp [Op.equalIn, run_underlying hkd]
  · obtain ⟨a1, l1, c1, rfl, _, h1⟩ := hv
    obtain ⟨a2, l2, c2, rfl, _, h2⟩ := hu
    simp only [KOK] at h1 h2
    subst h1 h2
    obtain ⟨e, hkd⟩ := hkd
    simp [Op.equalIn, run_underlying hkd]
  · obtain ⟨a1, l1, c1, rfl, ⟨_, _, _, h1, _⟩, _⟩ := hv
    obtain ⟨a2, l2, c2, rfl, _, h2⟩ := hu
    simp only [KOK] at h2
    subst h2
    obtain ⟨e, hkd⟩ := hkd
    cases a1 with
    | none => have := (h1 rfl).1; cases this
    | some ad => simp [Op.equalIn, run_underlying hkd]

end

end Go.Ev
