/- Rewriting rules to run code by hand. -/
import Derived.Test.YtbfllngekcckeaaGreatDoorEvLim
set_option linter.unusedSimpArgs false
namespace Go.Ev

/-- A loop, of which the body is not run yet. -/
def loopE (c : Cfg) (call : CallF) (it : (S → Out) → List Nat → S → Out) (f : FuncId) (res : List Tmp) (b : Code) (l : List Nat) (s : S) : Out := it (fun s => evC c call it f res b s) l s

section
variable {c : Cfg} {call : CallF} {it : (S → Out) → List Nat → S → Out} {f : FuncId} {res : List Tmp} {s : S} {id : Nat} {a b : Code}

theorem evC_skip : evC c call it f res .skip s = some (.normal, s) := rfl
theorem evC_label {l : Nat} : evC c call it f res (.label l) s = some (.normal, s) := rfl
theorem evC_exit : evC c call it f res (.exit id) s = some (.exit id, s) := rfl
theorem evC_ret : evC c call it f res .ret s = some (.ret, s) := rfl
theorem evC_region {r : Nat} {ops : Array Oper} : evC c call it f res (.region r ops false) s = runL c call f r ops (feedL c res ops.toList) [] 0 ops.toList s := rfl
theorem evC_draw {r : Nat} {ops : Array Oper} : evC c call it f res (.region r ops true) s = match runL c call f r ops (feedL c res ops.toList) (c.strict f r) 0 ops.toList s with
    | some (.normal, s') => some (.normal, s')
    | _ => none := rfl
theorem evC_seq : evC c call it f res (.seq a b) s = match evC c call it f res a s with
    | some (.normal, s') => evC c call it f res b s'
    | o => o := rfl
theorem evC_cond {x : Operand} : evC c call it f res (.cond x a b) s = match ev c.P 0 s.m x with
    | .c (.bool t) => match t with
      | true => evC c call it f res a s
      | false => evC c call it f res b s
    | _ => none := rfl
theorem evC_loop : evC c call it f res (.block id (.loop b)) s = blockEx id (loopE c call it f res b (c.live f id) (keep (c.live f id) s)) := rfl
theorem evC_bseq : evC c call it f res (.block id (.seq a b)) s = blockEx id (evC c call it f res (.seq a b) s) := rfl
theorem evC_bcond {x : Operand} : evC c call it f res (.block id (.cond x a b)) s = blockEx id (evC c call it f res (.cond x a b) s) := rfl
theorem evC_bregion {r : Nat} {ops : Array Oper} {d : Bool} : evC c call it f res (.block id (.region r ops d)) s = blockEx id (evC c call it f res (.region r ops d) s) := rfl
theorem evC_bblock {i : Nat} : evC c call it f res (.block id (.block i b)) s = blockEx id (evC c call it f res (.block i b) s) := rfl
theorem evC_bskip : evC c call it f res (.block id .skip) s = some (.normal, s) := rfl

theorem loopE_count {l : List Nat} (σ : Nat → S) (n : Nat) {x : Ex × S} (hs : ∀ i, i < n → ∃ s', evC c call itE f res b (σ i) = some (.normal, s') ∧ keep l s' = σ (i + 1)) (h : loopE c call itE f res b l (σ n) = some x) :
    loopE c call itE f res b l (σ 0) = some x := itE_count σ n hs h

theorem loopE_stop {l : List Nat} {s' : S} {ex : Ex} (h : evC c call itE f res b s = some (ex, s')) (hne : ex ≠ .normal) : loopE c call itE f res b l s = some (ex, keep l s') := itE_stop h hne

theorem loopE_step {l : List Nat} {s' : S} {x : Ex × S} (h : evC c call itE f res b s = some (.normal, s')) (h' : loopE c call itE f res b l (keep l s') = some x) : loopE c call itE f res b l s = some x := itE_step h h'

/-- A loop that runs through a family of states, and leaves by an exit. -/
theorem loopE_exit {l : List Nat} (σ : Nat → S) (n : Nat) {s' : S} {ex : Ex} (hs : ∀ i, i < n → ∃ s', evC c call itE f res b (σ i) = some (.normal, s') ∧ keep l s' = σ (i + 1)) (h : evC c call itE f res b (σ n) = some (ex, s')) (hne : ex ≠ .normal) :
    loopE c call itE f res b l (σ 0) = some (ex, keep l s') := loopE_count σ n hs (loopE_stop h hne)

end

theorem bb_tt : (true == true) = true := rfl
theorem bb_ft : (false == true) = false := rfl
theorem bb_tf : (true == false) = false := rfl
theorem bb_ff : (false == false) = true := rfl

end Go.Ev
namespace Go.Ev

section
variable {c : Cfg} {call : CallF} {f : FuncId} {res : List Tmp} {b : Code}

/-- What a round is to leave: the head once more, with less to come, or what is wanted behind the loop. -/
def Round {α : Type} (l : List Nat) (σ : α → S) (μ : α → Nat) (P : α → Prop) (Q : Ex → S → Prop) (n : Nat) (y : Ex × S) : Prop :=
  (y.1 = .normal ∧ ∃ a', keep l y.2 = σ a' ∧ P a' ∧ μ a' < n) ∨ (y.1 ≠ .normal ∧ Q y.1 (keep l y.2))

theorem loopE_inv {l : List Nat} {α : Type} (σ : α → S) (μ : α → Nat) (P : α → Prop) (Q : Ex → S → Prop)
    (hstep : ∀ a, P a → ∃ y, evC c call itE f res b (σ a) = some y ∧ Round l σ μ P Q (μ a) y) (a : α) (ha : P a) : ∃ ex s, loopE c call itE f res b l (σ a) = some (ex, s) ∧ Q ex s := by
  suffices ∀ n a, μ a = n → P a → ∃ ex s, loopE c call itE f res b l (σ a) = some (ex, s) ∧ Q ex s from this _ a rfl ha
  intro n
  induction n using Nat.strongRecOn with
  | ind n ih =>
    intro a hn ha
    obtain ⟨⟨ex, s⟩, h1, h2⟩ := hstep a ha
    rcases h2 with ⟨h3, a', h4, h5, h6⟩ | ⟨h3, h4⟩
    · obtain ⟨ex', s', h7, h8⟩ := ih (μ a') (hn ▸ h6) a' rfl h5
      simp only at h3
      subst h3
      exact ⟨ex', s', loopE_step h1 (by simp only at h4; rw [h4]; exact h7), h8⟩
    · exact ⟨ex, keep l s, loopE_stop h1 h3, h4⟩

theorem Round.again {α : Type} {l : List Nat} {σ : α → S} {μ : α → Nat} {P : α → Prop} {Q : Ex → S → Prop} {n : Nat} {s : S} (a' : α) (h : keep l s = σ a') (hp : P a') (hm : μ a' < n) : Round l σ μ P Q n (.normal, s) := Or.inl ⟨rfl, a', h, hp, hm⟩
theorem Round.out {α : Type} {l : List Nat} {σ : α → S} {μ : α → Nat} {P : α → Prop} {Q : Ex → S → Prop} {n : Nat} {s : S} {id : Nat} (h : Q (.exit id) (keep l s)) : Round l σ μ P Q n (.exit id, s) := Or.inr ⟨by simp, h⟩
theorem Round.ret {α : Type} {l : List Nat} {σ : α → S} {μ : α → Nat} {P : α → Prop} {Q : Ex → S → Prop} {n : Nat} {s : S} (h : Q .ret (keep l s)) : Round l σ μ P Q n (.ret, s) := Or.inr ⟨by simp, h⟩

end

theorem kstrip_own : K.strip .own = .ro := rfl
theorem kstrip_ro : K.strip .ro = .ro := rfl
theorem kstrip_nil : K.strip .nil = .nil := rfl
theorem kstrip_exact : K.strip .exact = .exact := rfl
theorem kstrip_strip (k : K) : k.strip.strip = k.strip := by cases k <;> rfl

theorem set_last {α : Type} (l : List α) (a b : α) : (l ++ [a]).set l.length b = l ++ [b] := by simp

theorem wrap64 {n : Int} (h1 : -9223372036854775808 ≤ n) (h2 : n ≤ 9223372036854775807) : IntKind.i64.wrap n = n := by rw [IntKind.wrap_i64]; omega

end Go.Ev
