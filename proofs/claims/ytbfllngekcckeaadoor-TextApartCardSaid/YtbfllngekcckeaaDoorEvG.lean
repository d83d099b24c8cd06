/- Operations on values alone. -/
import Derived.Test.YtbfllngekcckeaaDoorEvF
import Derived.Lib.ConvBytes
set_option linter.unusedSimpArgs false
namespace Go.Ev

section
variable {P : Program} {N dep : Nat} {γ : Gh} {β : Bl} {s : S} {a : Act} {w : World} {o : Oper}

theorem eqKind_ok {t : TypeId} {kd : Nat} (lit : Bool) (h : litKind lit (eqKind P t) = kd) : KD P t kd := by
  unfold eqKind at h
  cases hu : P.underlying t with
  | none => simp [hu, litKind] at h; subst h; trivial
  | some d =>
    cases d <;> simp [hu, litKind] at h
    case interface m =>
      cases lit <;> simp at h <;> subst h
      · trivial
      · exact ⟨_, hu⟩
    all_goals
      subst h
      first
        | trivial
        | exact hu
        | exact ⟨_, hu⟩
        | exact ⟨_, _, _, hu⟩

theorem lit_of {lit : Bool} {t : TypeId} (h : litKind lit (eqKind P t) = 4) : lit = true := by
  cases lit with
  | true => rfl
  | false =>
    generalize eqKind P t = k at h
    unfold litKind at h
    split at h
    · cases h
    · rename_i hk; exact absurd h hk

theorem eqGuard_ok {op : BinOp} {t : TypeId} {x y : Operand} {v u : Value} (h : (isLit x || isLit y) = true ∨ v ≠ .nilIface ∨ u ≠ .nilIface) (h2 : (∀ z, v ≠ .agg z) ∨ ∀ z, u ≠ .agg z) :
    (eqGuard op t x y v u).run P w = .ok () w := by
  have e : eqGuard op t x y v u = pure () := by
    cases op <;> first
      | rfl
      | (cases v <;> first
        | rfl
        | (cases u <;> first
          | rfl
          | (exfalso; rcases h2 with h2 | h2 <;> exact h2 _ rfl)
          | (cases x <;> cases y <;> first
            | rfl
            | (exfalso; rcases h with h | h | h
               · simp [isLit] at h
               · exact h rfl
               · exact h rfl))))
  rw [e]
  rfl

theorem binV_ok {op : BinOp} {t : TypeId} {x y : Operand} {vx vy : V} {u v : Value} {p q : Option Pos} {c : C} (h : binV P op t (isLit x || isLit y) vx vy = some c) (hu : RV γ β p vx u) (hv : RV γ β q vy v) :
    (do eqGuard op t x y u v; binOp op t u v : Sem Value).run P w = .ok (valC c) w ∧ Plain c (valC c) := by
  unfold binV at h
  split at h
  · -- whole numbers
    rename_i k i k' j
    simp only [RV, RC] at hu hv
    subst hu hv
    have hg : (eqGuard op t x y (.int k i) (.int k' j)).run P w = .ok () w := eqGuard_ok (.inr (.inl (by simp))) (.inl (by simp))
    simp only [Sem.run_bind, hg, Result.andThen_ok]
    split at h
    · exact shiftOp_ok h
    · exact shiftOp_ok h
    · rename_i h1 h2
      split at h
      · rename_i hk
        subst hk
        exact intOp_ok h (by rintro rfl; exact h1 rfl) (by rintro rfl; exact h2 rfl)
      · cases h
  · -- strings
    rename_i i j
    simp only [RV, RC] at hu hv
    subst hu hv
    have hg : (eqGuard op t x y (.string ⟨i.toArray⟩) (.string ⟨j.toArray⟩)).run P w = .ok () w := eqGuard_ok (.inr (.inl (by simp))) (.inl (by simp))
    simp only [Sem.run_bind, hg, Result.andThen_ok]
    exact strOp_ok h
  · -- structs
    rename_i i j
    simp only [RV] at hu hv
    obtain ⟨X, rfl, hX⟩ := hu
    obtain ⟨Y, rfl, hY⟩ := hv
    split at h
    · rename_i ks hks
      split at h
      · rename_i r hr
        unfold eqFlat at hks
        split at hks
        · rename_i fs ht
          split at hks
          · cases hks
          · rename_i hgt
            have hgt : P.eqGuardType P.depth t = false := by simpa using hgt
            have heq := eq_flat 20 t ks 10000 i j X.toList Y.toList (.agg X) (.agg Y) r w hks (by decide) hX hY hr (.inl ⟨by simp [aggT, ht], by simp⟩) (.inl ⟨by simp [aggT, ht], by simp⟩)
            cases op <;> simp only [Option.some.injEq, reduceCtorEq] at h
            · subst h
              refine ⟨?_, plain_bool _⟩
              simp only [Sem.run_bind, run_eqGuard_agg w _ t x y X Y hgt, Result.andThen_ok, binOp, Op.equal, Op.maxDepth, heq, Sem.run_pure, valC]
            · subst h
              refine ⟨?_, plain_bool _⟩
              simp only [Sem.run_bind, run_eqGuard_agg w _ t x y X Y hgt, Result.andThen_ok, binOp, Op.equal, Op.maxDepth, heq, Sem.run_pure, valC]
        · cases hks
      · cases h
    · cases h
  · -- the others
    rename_i h1 h2 h3
    have key : ∀ r, eqV (litKind (isLit x || isLit y) (eqKind P t)) vx vy = some r → (eqGuard op t x y u v).run P w = .ok () w ∧ (Op.equal t u v).run P w = .ok r w ∧
        (binOp .eql t u v = do pure (.bool (← Op.equal t u v))) ∧ (binOp .neq t u v = do pure (.bool (!(← Op.equal t u v)))) := by
      intro r hr
      have he := eqV_ok (w := w) hr hu hv (eqKind_ok _ rfl) 9999
      have hsh : ((isLit x || isLit y) = true ∨ u ≠ .nilIface ∨ v ≠ .nilIface) ∧ ((∀ z, u ≠ .agg z) ∨ ∀ z, v ≠ .agg z) ∧
          (binOp .eql t u v = do pure (.bool (← Op.equal t u v))) ∧ (binOp .neq t u v = do pure (.bool (!(← Op.equal t u v)))) := by
        generalize hkd : litKind (isLit x || isLit y) (eqKind P t) = kd at hr
        unfold eqV at hr
        split at hr
        all_goals (try (cases hr; done))
        all_goals (try simp only [RV, RC] at hu)
        all_goals (try simp only [RV, RC] at hv)
        · subst hu hv; exact ⟨.inr (.inl (by simp)), .inl (by simp), rfl, rfl⟩
        · subst hu hv; exact ⟨.inr (.inl (by simp)), .inl (by simp), rfl, rfl⟩
        · obtain ⟨_, _, rfl⟩ := hv; subst hu; exact ⟨.inr (.inl (by simp)), .inl (by simp), rfl, rfl⟩
        · obtain ⟨_, _, rfl⟩ := hu; subst hv; exact ⟨.inr (.inl (by simp)), .inl (by simp), rfl, rfl⟩
        · subst hu hv; exact ⟨.inr (.inl (by simp)), .inl (by simp), rfl, rfl⟩
        · obtain ⟨_, _, rfl, _⟩ := hv; subst hu; exact ⟨.inr (.inl (by simp)), .inl (by simp), rfl, rfl⟩
        · obtain ⟨_, _, rfl, _⟩ := hu; subst hv; exact ⟨.inr (.inl (by simp)), .inl (by simp), rfl, rfl⟩
        · subst hu hv; exact ⟨.inl (lit_of hkd), .inl (by simp), rfl, rfl⟩
        · obtain ⟨_, rfl, _⟩ := hv; subst hu; exact ⟨.inr (.inr (by simp)), .inl (by simp), rfl, rfl⟩
        · obtain ⟨_, _, rfl⟩ := hv; subst hu; exact ⟨.inr (.inr (by simp)), .inl (by simp), rfl, rfl⟩
        · obtain ⟨_, rfl, _⟩ := hu; subst hv; exact ⟨.inr (.inl (by simp)), .inl (by simp), rfl, rfl⟩
        · obtain ⟨_, _, rfl⟩ := hu; subst hv; exact ⟨.inr (.inl (by simp)), .inl (by simp), rfl, rfl⟩
        · obtain ⟨_, _, _, rfl, _⟩ := hu; obtain ⟨_, _, _, rfl, _⟩ := hv; exact ⟨.inr (.inl (by simp)), .inl (by simp), rfl, rfl⟩
        · obtain ⟨_, _, _, rfl, _⟩ := hu; obtain ⟨_, _, _, rfl, _⟩ := hv; exact ⟨.inr (.inl (by simp)), .inl (by simp), rfl, rfl⟩
      exact ⟨eqGuard_ok hsh.1 hsh.2.1, he, hsh.2.2⟩
    split at h
    · split at h
      · rename_i r hr
        simp only [Option.some.injEq] at h; subst h
        obtain ⟨k1, k2, k3, _⟩ := key r hr
        refine ⟨?_, plain_bool _⟩
        rw [Sem.run_bind, k1, Result.andThen_ok, k3]
        simp only [Sem.run_bind, k2, Result.andThen_ok, Sem.run_pure, valC]
      · cases h
    · split at h
      · rename_i r hr
        simp only [Option.some.injEq] at h; subst h
        obtain ⟨k1, k2, _, k3⟩ := key r hr
        refine ⟨?_, plain_bool _⟩
        rw [Sem.run_bind, k1, Result.andThen_ok, k3]
        simp only [Sem.run_bind, k2, Result.andThen_ok, Sem.run_pure, valC]
      · cases h
    · cases h

end

end Go.Ev
