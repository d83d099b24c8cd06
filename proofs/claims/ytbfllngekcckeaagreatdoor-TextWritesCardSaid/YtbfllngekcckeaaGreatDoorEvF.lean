/- '==' of structs. Operations on values alone. -/
import Derived.Test.YtbfllngekcckeaaGreatDoorEvD
import Derived.Lib.ConvBytes
set_option linter.unusedSimpArgs false
namespace Go.Ev

theorem run_part' {P : Program} {t : TypeId} {n : Nat} (X : Array Value) (off : Nat) (w : World) (h : aggT P t = some true) (hs : sz P t = some n) :
    (part t X off).run P w = .ok (.agg (X.extract off (off + n))) w := by
  simp [part, run_isAgg' h, run_sizeOf' hs]

theorem run_part1 {P : Program} {t : TypeId} {v : Value} (X : Array Value) (off : Nat) (w : World) (h : aggT P t = some false) (hx : X[off]? = some v) :
    (part t X off).run P w = .ok v w := by
  simp [part, run_isAgg' h, hx]

theorem eqCs_split : ∀ (ks : List Nat) (a a' b b' : List C) (ls : List Nat) (r : Bool), ks.length = a.length → a.length = a'.length → eqCs (ks ++ ls) (a ++ b) (a' ++ b') = some r →
    ∃ r1 r2, eqCs ks a a' = some r1 ∧ eqCs ls b b' = some r2 ∧ r = (r1 && r2) := by
  intro ks
  induction ks with
  | nil =>
    intro a a' b b' ls r hl hl' h
    have : a = [] := by simpa using hl.symm
    subst this
    have : a' = [] := by simpa using hl'.symm
    subst this
    exact ⟨true, r, rfl, h, by simp⟩
  | cons k ks ih =>
    intro a a' b b' ls r hl hl' h
    cases a with
    | nil => simp at hl
    | cons x a =>
      cases a' with
      | nil => simp at hl'
      | cons y a' =>
        simp only [List.length_cons, Nat.add_right_cancel_iff] at hl hl'
        have key : ∀ (e : Bool) (q : Option Bool), q = eqCs (ks ++ ls) (a ++ b) (a' ++ b') → (match q with | some r => some (e && r) | none => none) = some r →
            ∃ r1 r2, (match eqCs ks a a' with | some r => some (e && r) | none => none) = some r1 ∧ eqCs ls b b' = some r2 ∧ r = (r1 && r2) := by
          intro e q hq h
          cases q with
          | none => simp at h
          | some r' =>
            simp only [Option.some.injEq] at h
            obtain ⟨r1, r2, h1, h2, h3⟩ := ih a a' b b' ls r' hl hl' hq.symm
            exact ⟨e && r1, r2, by rw [h1], h2, by rw [← h, h3, Bool.and_assoc]⟩
        simp only [List.cons_append] at h
        unfold eqCs at h
        split at h
        · rename_i e; cases e
        · rename_i e1 e2 e3
          cases e1; cases e2; cases e3
          simp only [eqCs]
          exact key _ _ rfl h
        · rename_i e1 e2 e3
          cases e1; cases e2; cases e3
          split at h
          · rename_i hk
            simp only [eqCs, hk, if_true]
            exact key _ _ rfl h
          · cases h
        · rename_i e1 e2 e3
          cases e1; cases e2; cases e3
          simp only [eqCs]
          exact key _ _ rfl h
        · cases h

theorem eqCs_length : ∀ (ks : List Nat) (a b : List C) (r : Bool), eqCs ks a b = some r → ks.length = a.length ∧ a.length = b.length := by
  intro ks
  induction ks with
  | nil =>
    intro a b r h
    unfold eqCs at h
    split at h <;> simp_all
  | cons k ks ih =>
    intro a b r h
    unfold eqCs at h
    split at h
    · rename_i e; cases e
    · rename_i e1
      cases e1
      split at h
      · rename_i r' e; simp [ih _ _ r' e]
      · cases h
    · rename_i e1
      cases e1
      split at h
      · split at h
        · rename_i r' e; simp [ih _ _ r' e]
        · cases h
      · cases h
    · rename_i e1
      cases e1
      split at h
      · rename_i r' e; simp [ih _ _ r' e]
      · cases h
    · cases h

section
variable {P : Program} {γ : Gh} {β : Bl}

theorem RCs.drop : ∀ (n : Nat) {cs : List C} {vs : List Value}, RCs γ β cs vs → RCs γ β (cs.drop n) (vs.drop n)
  | 0, _, _, h => by simpa using h
  | n + 1, [], [], h => by simpa using h
  | n + 1, [], _ :: _, h => by simp only [RCs] at h
  | n + 1, _ :: _, [], h => by simp only [RCs] at h
  | n + 1, c :: cs, v :: vs, h => by
    simp only [RCs] at h
    simpa using RCs.drop n h.2

theorem RCs.take : ∀ (n : Nat) {cs : List C} {vs : List Value}, RCs γ β cs vs → RCs γ β (cs.take n) (vs.take n)
  | 0, _, _, _ => by simp only [List.take_zero, RCs]
  | n + 1, [], [], _ => by simp only [List.take_nil, RCs]
  | n + 1, [], _ :: _, h => by simp only [RCs] at h
  | n + 1, _ :: _, [], h => by simp only [RCs] at h
  | n + 1, c :: cs, v :: vs, h => by
    simp only [RCs] at h
    simp only [List.take_succ_cons, RCs]
    exact ⟨h.1, RCs.take n h.2⟩

theorem toArray_extract (X : List Value) (o n : Nat) : X.toArray.extract o (o + n) = ((X.drop o).take n).toArray := by
  simp

/-- Cells as a value of a type that is flat. -/
def asV (P : Program) (t : TypeId) (X : List Value) (u : Value) : Prop := (aggT P t = some true ∧ u = .agg X.toArray) ∨ (aggT P t = some false ∧ X = [u])

theorem flatK_sz {n : Nat} {t : TypeId} {ks : List Nat} (h : flatK P n t = some ks) : sz P t = some ks.length := by
  cases n with
  | zero => simp [flatK] at h
  | succ n =>
    unfold flatK at h
    split at h
    · split at h
      · rename_i hs; simp only [Option.some.injEq] at h; subst h; exact hs
      · cases h
    · split at h
      · rename_i hs; simp only [Option.some.injEq] at h; subst h; exact hs
      · cases h
    · split at h
      · rename_i hs; simp only [Option.some.injEq] at h; subst h; exact hs
      · cases h
    · split at h
      · cases h
      · split at h
        · split at h
          · rename_i hs; simp only [Option.some.injEq] at h; subst h; exact hs
          · cases h
        · cases h
    · cases h

theorem flatK_agg {n : Nat} {t : TypeId} {ks : List Nat} (h : flatK P n t = some ks) : ∃ b, aggT P t = some b ∧ (b = false → ks.length = 1) := by
  cases n with
  | zero => simp [flatK] at h
  | succ n =>
    unfold flatK at h
    split at h
    · rename_i hu
      split at h
      · simp only [Option.some.injEq] at h; subst h; exact ⟨false, by simp [aggT, hu], fun _ => rfl⟩
      · cases h
    · rename_i hu
      split at h
      · simp only [Option.some.injEq] at h; subst h; exact ⟨false, by simp [aggT, hu], fun _ => rfl⟩
      · cases h
    · rename_i hu
      split at h
      · simp only [Option.some.injEq] at h; subst h; exact ⟨false, by simp [aggT, hu], fun _ => rfl⟩
      · cases h
    · rename_i hu
      exact ⟨true, by simp [aggT, hu], fun h => by cases h⟩
    · cases h

theorem eq_flat : ∀ (n : Nat) (t : TypeId) (ks : List Nat) (d : Nat) (xs ys : List C) (X Y : List Value) (u v : Value) (r : Bool) (w : World), flatK P n t = some ks → n ≤ d → RCs γ β xs X → RCs γ β ys Y →
    eqCs ks xs ys = some r → asV P t X u → asV P t Y v → (Op.equalIn d t u v).run P w = .ok r w := by
  intro n
  induction n with
  | zero => intro t ks d xs ys X Y u v r w h; simp [flatK] at h
  | succ n ih =>
    intro t ks d xs ys X Y u v r w hf hd hx hy he hu hv
    obtain ⟨d, rfl⟩ : ∃ e, d = e + 1 := ⟨d - 1, by omega⟩
    have one : ∀ ks : List Nat, ks.length = 1 → aggT P t = some false → eqCs ks xs ys = some r → ∃ x y, xs = [x] ∧ ys = [y] ∧ RC γ β none x u ∧ RC γ β none y v := by
      intro ks hk ha he
      obtain ⟨h1, h2⟩ := eqCs_length _ _ _ _ he
      rcases hu with ⟨e, _⟩ | ⟨_, rfl⟩
      · rw [ha] at e; cases e
      · rcases hv with ⟨e, _⟩ | ⟨_, rfl⟩
        · rw [ha] at e; cases e
        · obtain ⟨x, rfl⟩ : ∃ x, xs = [x] := List.length_eq_one_iff.1 (by omega)
          obtain ⟨y, rfl⟩ : ∃ y, ys = [y] := List.length_eq_one_iff.1 (by omega)
          simp only [RCs] at hx hy
          exact ⟨x, y, rfl, rfl, hx.1, hy.1⟩
    unfold flatK at hf
    split at hf
    · rename_i ht
      split at hf
      · simp only [Option.some.injEq] at hf; subst hf
        obtain ⟨x, y, rfl, rfl, h1, h2⟩ := one _ rfl (by simp [aggT, ht]) he
        cases x <;> cases y <;> simp only [eqCs, Option.some.injEq, reduceCtorEq] at he
        simp only [RC] at h1 h2
        subst h1 h2 he
        simp [Op.equalIn, run_underlying ht]
      · cases hf
    · rename_i ht
      split at hf
      · simp only [Option.some.injEq] at hf; subst hf
        obtain ⟨x, y, rfl, rfl, h1, h2⟩ := one _ rfl (by simp [aggT, ht]) he
        cases x <;> cases y <;> simp only [eqCs, reduceCtorEq] at he
        simp only [RC] at h1 h2
        subst h1 h2
        split at he
        · rename_i hk
          simp only [Option.some.injEq] at he
          subst he hk
          simp [Op.equalIn, run_underlying ht]
        · cases he
      · cases hf
    · rename_i ht
      split at hf
      · simp only [Option.some.injEq] at hf; subst hf
        obtain ⟨x, y, rfl, rfl, h1, h2⟩ := one _ rfl (by simp [aggT, ht]) he
        cases x <;> cases y <;> simp only [eqCs, Option.some.injEq, reduceCtorEq] at he
        simp only [RC] at h1 h2
        subst h1 h2 he
        rw [run_equalIn_string _ _ _ _ _ ht]
        simp [ByteArray.toList_eq]
      · cases hf
    · rename_i fs ht
      split at hf
      · cases hf
      · rename_i hst
        split at hf
        · rename_i ks' hff
          split at hf
          · simp only [Option.some.injEq] at hf; subst hf
            obtain ⟨_, rfl⟩ := hu.resolve_right (by rintro ⟨e, _⟩; simp [aggT, ht] at e)
            obtain ⟨_, rfl⟩ := hv.resolve_right (by rintro ⟨e, _⟩; simp [aggT, ht] at e)
            have hfo : P.fieldsOf t = fs := by simp [Program.fieldsOf, ht]
            rw [run_equalIn_struct w d t _ _ (by rw [hfo]; exact ht) (by simpa using hst), hfo]
            -- the fields
            have key : ∀ (l : List Field) (o : Nat) (ls : List Nat) (r : Bool), flatF (flatK P n) o l = some ls → eqCs ls (xs.drop o) (ys.drop o) = some r →
                (Op.eqFields d X.toArray Y.toArray l).run P w = .ok r w := by
              intro l
              induction l with
              | nil =>
                intro o ls r h1 h2
                simp only [flatF, Option.some.injEq] at h1
                subst h1
                obtain ⟨h3, h4⟩ := eqCs_length _ _ _ _ h2
                have h5 : xs.drop o = [] := List.eq_nil_of_length_eq_zero h3.symm
                have h6 : ys.drop o = [] := List.eq_nil_of_length_eq_zero (by rw [← h4, ← h3]; rfl)
                rw [h5, h6] at h2
                simp only [eqCs, Option.some.injEq] at h2
                subst h2
                simp [Op.eqFields]
              | cons f l ihl =>
                intro o ls r h1 h2
                simp only [flatF] at h1
                split at h1
                · rename_i hc
                  split at h1
                  · rename_i kf hkf
                    split at h1
                    · rename_i kr hkr
                      simp only [Option.some.injEq] at h1
                      subst h1
                      obtain ⟨h3, h4⟩ := eqCs_length _ _ _ _ h2
                      have hs := flatK_sz hkf
                      rw [← List.take_append_drop kf.length (xs.drop o), ← List.take_append_drop kf.length (ys.drop o)] at h2
                      simp only [List.length_append] at h3
                      obtain ⟨r1, r2, h5, h6, h7⟩ := eqCs_split kf _ _ _ _ _ _ (by rw [List.length_take]; omega) (by rw [List.length_take, List.length_take]; omega) h2
                      rw [List.drop_drop, List.drop_drop] at h6
                      have hrest := ihl (o + kf.length) kr r2 hkr h6
                      obtain ⟨bb, hagg, hone⟩ := flatK_agg hkf
                      have hX : (X.drop o).length = (xs.drop o).length := by have := (RCs.get (hx.drop o)).1; omega
                      have hY : (Y.drop o).length = (ys.drop o).length := by have := (RCs.get (hy.drop o)).1; omega
                      have hpart : ∃ u' v', (part f.type X.toArray f.offset).run P w = .ok u' w ∧ (part f.type Y.toArray f.offset).run P w = .ok v' w ∧
                          asV P f.type ((X.drop o).take kf.length) u' ∧ asV P f.type ((Y.drop o).take kf.length) v' := by
                        cases bb with
                        | true =>
                          refine ⟨_, _, run_part' _ _ w hagg hs, run_part' _ _ w hagg hs, .inl ⟨hagg, ?_⟩, .inl ⟨hagg, ?_⟩⟩
                          · rw [hc.2, toArray_extract]
                          · rw [hc.2, toArray_extract]
                        | false =>
                          have h1' := hone rfl
                          obtain ⟨u', hu'⟩ : ∃ u', (X.drop o).take kf.length = [u'] := List.length_eq_one_iff.1 (by rw [List.length_take]; omega)
                          obtain ⟨v', hv'⟩ : ∃ v', (Y.drop o).take kf.length = [v'] := List.length_eq_one_iff.1 (by rw [List.length_take]; omega)
                          have gu : X.toArray[f.offset]? = some u' := by
                            have := congrArg (fun l => l[0]?) hu'
                            simpa [h1', hc.2] using this
                          have gv : Y.toArray[f.offset]? = some v' := by
                            have := congrArg (fun l => l[0]?) hv'
                            simpa [h1', hc.2] using this
                          exact ⟨u', v', run_part1 _ _ w hagg gu, run_part1 _ _ w hagg gv, .inr ⟨hagg, hu'⟩, .inr ⟨hagg, hv'⟩⟩
                      obtain ⟨u', v', p1, p2, p3, p4⟩ := hpart
                      have heq := ih f.type kf d _ _ _ _ u' v' r1 w hkf (by omega) ((hx.drop o).take kf.length) ((hy.drop o).take kf.length) h5 p3 p4
                      simp only [Op.eqFields, if_pos hc.1, Sem.run_bind, p1, p2, heq, Result.andThen_ok]
                      subst h7
                      cases r1
                      · simp
                      · simpa using hrest
                    · cases h1
                  · cases h1
                · cases h1
            exact key _ 0 _ r hff (by simpa using he)
          · cases hf
        · cases hf
    · cases hf

end

end Go.Ev
set_option linter.unusedSimpArgs false
namespace Go.Ev

section
variable {P : Program} {N dep : Nat} {γ : Gh} {β : Bl} {s : S} {a : Act} {w : World} {o : Oper}

theorem eqKind_ok {t : TypeId} {kd : Nat} (lit : Bool) (h : litKind lit (eqKind P t) = kd) : KD P t kd := by
  unfold eqKind at h
  cases hu : P.underlying t with
  | none => simp [hu, litKind] at h; subst h; trivial
  | some d =>
    cases d <;> simp [hu, litKind] at h
    case interface m =>
      cases lit <;> simp at h <;> subst h
      · trivial
      · exact ⟨_, hu⟩
    all_goals
      subst h
      first
        | trivial
        | exact hu
        | exact ⟨_, hu⟩
        | exact ⟨_, _, _, hu⟩

theorem lit_of {lit : Bool} {t : TypeId} (h : litKind lit (eqKind P t) = 4) : lit = true := by
  cases lit with
  | true => rfl
  | false =>
    generalize eqKind P t = k at h
    unfold litKind at h
    split at h
    · cases h
    · rename_i hk; exact absurd h hk

theorem eqGuard_ok {op : BinOp} {t : TypeId} {x y : Operand} {v u : Value} (h : (isLit x || isLit y) = true ∨ v ≠ .nilIface ∨ u ≠ .nilIface) (h2 : (∀ z, v ≠ .agg z) ∨ ∀ z, u ≠ .agg z) :
    (eqGuard op t x y v u).run P w = .ok () w := by
  have e : eqGuard op t x y v u = pure () := by
    cases op <;> first
      | rfl
      | (cases v <;> first
        | rfl
        | (cases u <;> first
          | rfl
          | (exfalso; rcases h2 with h2 | h2 <;> exact h2 _ rfl)
          | (cases x <;> cases y <;> first
            | rfl
            | (exfalso; rcases h with h | h | h
               · simp [isLit] at h
               · exact h rfl
               · exact h rfl))))
  rw [e]
  rfl

theorem binV_ok {op : BinOp} {t : TypeId} {x y : Operand} {vx vy : V} {u v : Value} {p q : Option Pos} {c : C} (h : binV P op t (isLit x || isLit y) vx vy = some c) (hu : RV γ β p vx u) (hv : RV γ β q vy v) :
    (do eqGuard op t x y u v; binOp op t u v : Sem Value).run P w = .ok (valC c) w ∧ Plain c (valC c) := by
  unfold binV at h
  split at h
  · -- whole numbers
    rename_i k i k' j
    simp only [RV, RC] at hu hv
    subst hu hv
    have hg : (eqGuard op t x y (.int k i) (.int k' j)).run P w = .ok () w := eqGuard_ok (.inr (.inl (by simp))) (.inl (by simp))
    simp only [Sem.run_bind, hg, Result.andThen_ok]
    split at h
    · exact shiftOp_ok h
    · exact shiftOp_ok h
    · rename_i h1 h2
      split at h
      · rename_i hk
        subst hk
        exact intOp_ok h (by rintro rfl; exact h1 rfl) (by rintro rfl; exact h2 rfl)
      · cases h
  · -- strings
    rename_i i j
    simp only [RV, RC] at hu hv
    subst hu hv
    have hg : (eqGuard op t x y (.string ⟨i.toArray⟩) (.string ⟨j.toArray⟩)).run P w = .ok () w := eqGuard_ok (.inr (.inl (by simp))) (.inl (by simp))
    simp only [Sem.run_bind, hg, Result.andThen_ok]
    exact strOp_ok h
  · -- structs
    rename_i i j
    simp only [RV] at hu hv
    obtain ⟨X, rfl, hX⟩ := hu
    obtain ⟨Y, rfl, hY⟩ := hv
    split at h
    · rename_i ks hks
      split at h
      · rename_i r hr
        unfold eqFlat at hks
        split at hks
        · rename_i fs ht
          split at hks
          · cases hks
          · rename_i hgt
            have hgt : P.eqGuardType P.depth t = false := by simpa using hgt
            have heq := eq_flat 20 t ks 10000 i j X.toList Y.toList (.agg X) (.agg Y) r w hks (by decide) hX hY hr (.inl ⟨by simp [aggT, ht], by simp⟩) (.inl ⟨by simp [aggT, ht], by simp⟩)
            cases op <;> simp only [Option.some.injEq, reduceCtorEq] at h
            · subst h
              refine ⟨?_, plain_bool _⟩
              simp only [Sem.run_bind, run_eqGuard_agg w _ t x y X Y hgt, Result.andThen_ok, binOp, Op.equal, Op.maxDepth, heq, Sem.run_pure, valC]
            · subst h
              refine ⟨?_, plain_bool _⟩
              simp only [Sem.run_bind, run_eqGuard_agg w _ t x y X Y hgt, Result.andThen_ok, binOp, Op.equal, Op.maxDepth, heq, Sem.run_pure, valC]
        · cases hks
      · cases h
    · cases h
  · -- the others
    rename_i h1 h2 h3
    have key : ∀ r, eqV (litKind (isLit x || isLit y) (eqKind P t)) vx vy = some r → (eqGuard op t x y u v).run P w = .ok () w ∧ (Op.equal t u v).run P w = .ok r w ∧
        (binOp .eql t u v = do pure (.bool (← Op.equal t u v))) ∧ (binOp .neq t u v = do pure (.bool (!(← Op.equal t u v)))) := by
      intro r hr
      have he := eqV_ok (w := w) hr hu hv (eqKind_ok _ rfl) 9999
      have hsh : ((isLit x || isLit y) = true ∨ u ≠ .nilIface ∨ v ≠ .nilIface) ∧ ((∀ z, u ≠ .agg z) ∨ ∀ z, v ≠ .agg z) ∧
          (binOp .eql t u v = do pure (.bool (← Op.equal t u v))) ∧ (binOp .neq t u v = do pure (.bool (!(← Op.equal t u v)))) := by
        generalize hkd : litKind (isLit x || isLit y) (eqKind P t) = kd at hr
        unfold eqV at hr
        split at hr
        all_goals (try (cases hr; done))
        all_goals (try simp only [RV, RC] at hu)
        all_goals (try simp only [RV, RC] at hv)
        · subst hu hv; exact ⟨.inr (.inl (by simp)), .inl (by simp), rfl, rfl⟩
        · subst hu hv; exact ⟨.inr (.inl (by simp)), .inl (by simp), rfl, rfl⟩
        · obtain ⟨_, _, rfl⟩ := hv; subst hu; exact ⟨.inr (.inl (by simp)), .inl (by simp), rfl, rfl⟩
        · obtain ⟨_, _, rfl⟩ := hu; subst hv; exact ⟨.inr (.inl (by simp)), .inl (by simp), rfl, rfl⟩
        · subst hu hv; exact ⟨.inr (.inl (by simp)), .inl (by simp), rfl, rfl⟩
        · obtain ⟨_, _, rfl, _⟩ := hv; subst hu; exact ⟨.inr (.inl (by simp)), .inl (by simp), rfl, rfl⟩
        · obtain ⟨_, _, rfl, _⟩ := hu; subst hv; exact ⟨.inr (.inl (by simp)), .inl (by simp), rfl, rfl⟩
        · subst hu hv; exact ⟨.inl (lit_of hkd), .inl (by simp), rfl, rfl⟩
        · obtain ⟨_, rfl, _⟩ := hv; subst hu; exact ⟨.inr (.inr (by simp)), .inl (by simp), rfl, rfl⟩
        · obtain ⟨_, _, rfl⟩ := hv; subst hu; exact ⟨.inr (.inr (by simp)), .inl (by simp), rfl, rfl⟩
        · obtain ⟨_, rfl, _⟩ := hu; subst hv; exact ⟨.inr (.inl (by simp)), .inl (by simp), rfl, rfl⟩
        · obtain ⟨_, _, rfl⟩ := hu; subst hv; exact ⟨.inr (.inl (by simp)), .inl (by simp), rfl, rfl⟩
        · obtain ⟨_, _, _, rfl, _⟩ := hu; obtain ⟨_, _, _, rfl, _⟩ := hv; exact ⟨.inr (.inl (by simp)), .inl (by simp), rfl, rfl⟩
        · obtain ⟨_, _, _, rfl, _⟩ := hu; obtain ⟨_, _, _, rfl, _⟩ := hv; exact ⟨.inr (.inl (by simp)), .inl (by simp), rfl, rfl⟩
      exact ⟨eqGuard_ok hsh.1 hsh.2.1, he, hsh.2.2⟩
    split at h
    · split at h
      · rename_i r hr
        simp only [Option.some.injEq] at h; subst h
        obtain ⟨k1, k2, k3, _⟩ := key r hr
        refine ⟨?_, plain_bool _⟩
        rw [Sem.run_bind, k1, Result.andThen_ok, k3]
        simp only [Sem.run_bind, k2, Result.andThen_ok, Sem.run_pure, valC]
      · cases h
    · split at h
      · rename_i r hr
        simp only [Option.some.injEq] at h; subst h
        obtain ⟨k1, k2, _, k3⟩ := key r hr
        refine ⟨?_, plain_bool _⟩
        rw [Sem.run_bind, k1, Result.andThen_ok, k3]
        simp only [Sem.run_bind, k2, Result.andThen_ok, Sem.run_pure, valC]
      · cases h
    · cases h

end

end Go.Ev
