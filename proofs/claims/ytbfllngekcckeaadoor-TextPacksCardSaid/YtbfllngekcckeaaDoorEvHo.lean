/- A loop by what holds at its head. -/
import Derived.Test.YtbfllngekcckeaaDoorEvSx
namespace Go.Ev

section
variable {c : Cfg} {call : CallF} {f : FuncId} {res : List Tmp} {b : Code}

/-- What a round is to leave: the head once more, with less to come, or what is wanted behind the loop. -/
def Round {α : Type} (l : List Nat) (σ : α → S) (μ : α → Nat) (P : α → Prop) (Q : Ex → S → Prop) (n : Nat) (y : Ex × S) : Prop :=
  (y.1 = .normal ∧ ∃ a', keep l y.2 = σ a' ∧ P a' ∧ μ a' < n) ∨ (y.1 ≠ .normal ∧ Q y.1 (keep l y.2))

theorem loopE_inv {l : List Nat} {α : Type} (σ : α → S) (μ : α → Nat) (P : α → Prop) (Q : Ex → S → Prop)
    (hstep : ∀ a, P a → ∃ y, evC c call itE f res b (σ a) = some y ∧ Round l σ μ P Q (μ a) y) (a : α) (ha : P a) : ∃ ex s, loopE c call itE f res b l (σ a) = some (ex, s) ∧ Q ex s := by
  suffices ∀ n a, μ a = n → P a → ∃ ex s, loopE c call itE f res b l (σ a) = some (ex, s) ∧ Q ex s from this _ a rfl ha
  intro n
  induction n using Nat.strongRecOn with
  | ind n ih =>
    intro a hn ha
    obtain ⟨⟨ex, s⟩, h1, h2⟩ := hstep a ha
    rcases h2 with ⟨h3, a', h4, h5, h6⟩ | ⟨h3, h4⟩
    · obtain ⟨ex', s', h7, h8⟩ := ih (μ a') (hn ▸ h6) a' rfl h5
      simp only at h3
      subst h3
      exact ⟨ex', s', loopE_step h1 (by simp only at h4; rw [h4]; exact h7), h8⟩
    · exact ⟨ex, keep l s, loopE_stop h1 h3, h4⟩

theorem Round.again {α : Type} {l : List Nat} {σ : α → S} {μ : α → Nat} {P : α → Prop} {Q : Ex → S → Prop} {n : Nat} {s : S} (a' : α) (h : keep l s = σ a') (hp : P a') (hm : μ a' < n) : Round l σ μ P Q n (.normal, s) := Or.inl ⟨rfl, a', h, hp, hm⟩
theorem Round.out {α : Type} {l : List Nat} {σ : α → S} {μ : α → Nat} {P : α → Prop} {Q : Ex → S → Prop} {n : Nat} {s : S} {id : Nat} (h : Q (.exit id) (keep l s)) : Round l σ μ P Q n (.exit id, s) := Or.inr ⟨by simp, h⟩
theorem Round.ret {α : Type} {l : List Nat} {σ : α → S} {μ : α → Nat} {P : α → Prop} {Q : Ex → S → Prop} {n : Nat} {s : S} (h : Q .ret (keep l s)) : Round l σ μ P Q n (.ret, s) := Or.inr ⟨by simp, h⟩

end

theorem kstrip_own : K.strip .own = .ro := rfl
theorem kstrip_ro : K.strip .ro = .ro := rfl
theorem kstrip_nil : K.strip .nil = .nil := rfl
theorem kstrip_exact : K.strip .exact = .exact := rfl
theorem kstrip_strip (k : K) : k.strip.strip = k.strip := by cases k <;> rfl

theorem set_last {α : Type} (l : List α) (a b : α) : (l ++ [a]).set l.length b = l ++ [b] := by simp

theorem wrap64 {n : Int} (h1 : -9223372036854775808 ≤ n) (h2 : n ≤ 9223372036854775807) : IntKind.i64.wrap n = n := by rw [IntKind.wrap_i64]; omega

end Go.Ev
