/- Code: what the evaluator gives is what the machine comes to. -/
import Derived.Test.YtbfllngekcckeaaGreatDoorEvV
import Derived.LoopN
set_option linter.unusedSimpArgs false
namespace Go.Ev

/-- A loop comes to its end. -/
def ItOK (it : (S → Out) → List Nat → S → Out) : Prop := ∀ stp l s out, it stp l s = some out → ∃ n, iterK stp l n s = some out

/-- What is asked of a function's code: closed. -/
def codeOK (c : Cfg) (f : FuncId) (res : List Tmp) (N : Nat) : Code → Bool
  | .region r ops d => ops.toList.all (fun o => match o.dst with | some d => decide (d < N) | none => true) && (!d || drawOK c f r ops (feedL c res ops.toList) (c.strict f r))
  | .seq a b => codeOK c f res N a && codeOK c f res N b
  | .cond _ a b => codeOK c f res N a && codeOK c f res N b
  | .block _ b => codeOK c f res N b
  | .loop b => codeOK c f res N b
  | _ => true

section
variable {c : Cfg} {call : CallF} {it : (S → Out) → List Nat → S → Out} {f r : Nat} {res : List Tmp} {s s1 : S} {N dep : Nat} {γ : Gh} {β : Bl} {a : Act} {w : World} {Q : Exit → Act → World → Prop}

theorem getT_keep (l : List Nat) (s : S) (t : Nat) : getT (keep l s).m t = getT s.m t ∨ getT (keep l s).m t = .junk := by
  unfold keep
  simp only []
  induction l with
  | nil => exact .inr rfl
  | cons x l ih =>
    simp only [List.map_cons, getT_cons]
    split
    · rename_i e; subst e; exact .inl rfl
    · exact ih

theorem Inv.keep (hi : Inv N dep γ β s a w) (l : List Nat) : Inv N dep γ β (Ev.keep l s) a w where
  size := hi.size
  len := hi.len
  tm t := by
    rcases getT_keep l s t with h | h
    · rw [h]; exact hi.tm t
    · rw [h]; simp only [RV]
  tle t := by
    rcases getT_keep l s t with h | h
    · rw [h]; exact hi.tle t
    · rw [h]; rfl
  ob := hi.ob
  ole := hi.ole
  dom := hi.dom
  gh := hi.gh
  mix := hi.mix

def Sound (P : Program) (N dep : Nat) (stp : S → Out) (b : Code) : Prop := ∀ (s s1 : S) (ex : Ex) (γ : Gh) (β : Bl) (a : Act) (w : World) (Q : Exit → Act → World → Prop),
  stp s = some (ex, s1) → Inv N dep γ β s a w → Post N dep γ β s a w ex s1 Q → b.wp P Q a w

theorem exOf_ne {ex : Ex} {e : Exit} (h : exOf ex e) (hn : ex ≠ .normal) : e ≠ .normal := by
  intro he
  subst he
  cases ex <;> simp_all [exOf]

theorem iter_ok {P : Program} {stp : S → Out} {b : Code} (hb : Sound P N dep stp b) (l : List Nat) : ∀ (n : Nat) {s s1 : S} {ex : Ex} {γ : Gh} {β : Bl} {a : Act} {w : World}, iterK stp l n s = some (ex, s1) → Inv N dep γ β s a w → Post N dep γ β s a w ex s1 Q →
    Code.rounds P b Q n a w
  | 0, s, s1, ex, γ, β, a, w, h, _, _ => by simp [iterK] at h
  | n + 1, s, s1, ex, γ, β, a, w, h, hi, hp => by
    simp only [iterK] at h
    split at h
    · rename_i s' hs
      refine hb s s' .normal γ β a w _ hs hi fun e γ' β' a' w' k1 k2 k3 k4 k5 => ?_
      cases e with
      | normal => exact iter_ok hb l n h (k2.keep l) (hp.trans (s' := Ev.keep l s') k3 k4 k5)
      | exit _ => exact k1.elim
      | goto _ => exact k1.elim
      | ret => exact k1.elim
      | panic _ => exact k1.elim
      | outgrown => exact k1.elim
    · rename_i ex' s' hne hs
      simp only [Option.some.injEq, Prod.mk.injEq] at h
      obtain ⟨rfl, rfl⟩ := h
      refine hb s s' ex' γ β a w _ hs hi fun e γ' β' a' w' k1 k2 k3 k4 k5 => ?_
      have he := exOf_ne k1 (fun e => hne (by rw [e]))
      have := hp e γ' β' a' w' k1 (k2.keep l) k3 k4 k5
      cases e with
      | normal => exact absurd rfl he
      | exit _ => exact this
      | goto _ => exact this
      | ret => exact this
      | panic _ => exact this
      | outgrown => exact this
    · cases h

theorem blockEx_ok {P : Program} {id : Nat} {b : Code} {out : Out} {ex : Ex} (h : blockEx id out = some (ex, s1)) (hb : ∀ ex' s', out = some (ex', s') → ∀ Q, Post N dep γ β s a w ex' s' Q → b.wp P Q a w) (hp : Post N dep γ β s a w ex s1 Q) :
    (Code.block id b).wp P Q a w := by
  refine wp_block ?_
  unfold blockEx at h
  split at h
  · rename_i id' s'
    refine hb _ _ rfl _ fun e γ' β' a' w' k1 k2 k3 k4 k5 => ?_
    cases e with
    | exit j =>
      have hj : id' = j := k1
      subst hj
      simp only [Exit.inBlock]
      split at h
      · rename_i hid
        subst hid
        simp only [Option.some.injEq, Prod.mk.injEq] at h
        obtain ⟨rfl, rfl⟩ := h
        simp only [if_true]
        exact hp .normal γ' β' a' w' trivial k2 k3 k4 k5
      · rename_i hid
        simp only [Option.some.injEq, Prod.mk.injEq] at h
        obtain ⟨rfl, rfl⟩ := h
        simp only [hid, if_false]
        exact hp (.exit id') γ' β' a' w' rfl k2 k3 k4 k5
    | normal => exact k1.elim
    | goto _ => exact k1.elim
    | ret => exact k1.elim
    | panic _ => exact k1.elim
    | outgrown => exact k1.elim
  · rename_i hne
    refine hb _ _ h _ fun e γ' β' a' w' k1 k2 k3 k4 k5 => ?_
    have := hp e γ' β' a' w' k1 k2 k3 k4 k5
    cases e with
    | exit j =>
      cases ex with
      | exit i => exact absurd h (hne i s1)
      | normal => exact k1.elim
      | ret => exact k1.elim
      | panic => exact k1.elim
    | _ => exact this

theorem evC_ok' (hcall : CallOK c.P call) (hc : Even call) (hit : ItOK it) (hdep : 1 ≤ dep) (hm : c.P.follows .mixedOrders = true) :
    ∀ (code : Code), (codeOK c f res N code = true → Sound c.P N dep (fun s => evC c call it f res code s) code) ∧
      ∀ b, code = .loop b → codeOK c f res N b = true → Sound c.P N dep (fun s => evC c call it f res b s) b := by
  intro code
  induction code with
  | skip =>
    refine ⟨?_, fun b e => by cases e⟩
    intro _ s s1 ex γ β a w Q h hi hp
    simp only [evC, Option.some.injEq, Prod.mk.injEq] at h
    obtain ⟨rfl, rfl⟩ := h
    exact wp_skip (hp .normal γ β a w trivial hi (Ext.refl _ _ _ _ _) (Shape.refl _ _) rfl)
  | label l =>
    refine ⟨?_, fun b e => by cases e⟩
    intro _ s s1 ex γ β a w Q h hi hp
    simp only [evC, Option.some.injEq, Prod.mk.injEq] at h
    obtain ⟨rfl, rfl⟩ := h
    exact wp_label (hp .normal γ β a w trivial hi (Ext.refl _ _ _ _ _) (Shape.refl _ _) rfl)
  | region r ops d =>
    refine ⟨?_, fun b e => by cases e⟩
    intro hok s s1 ex γ β a w Q h hi hp
    simp only [codeOK, Bool.and_eq_true, List.all_eq_true] at hok
    have hd : ∀ (i : Nat) o, ops[i]? = some o → ∀ d, o.dst = some d → d < N := fun i o ho d' hd' => by
      have := hok.1 o (by rw [Array.mem_toList_iff]; exact Array.mem_of_getElem? ho)
      rw [hd'] at this
      simpa using this
    cases d with
    | false =>
      simp only [evC] at h
      exact region_ok hcall hdep hd hi h hp
    | true =>
      simp only [evC] at h
      split at h
      · rename_i s' hs
        simp only [Option.some.injEq, Prod.mk.injEq] at h
        obtain ⟨rfl, rfl⟩ := h
        have hdr : drawOK c f r ops (feedL c res ops.toList) (c.strict f r) = true := by simpa using hok.2
        exact region_any_ok hcall hc hdep hm hd hdr hi hs hp
      · cases h
  | seq x y ihx ihy =>
    refine ⟨?_, fun b e => by cases e⟩
    intro hok s s1 ex γ β a w Q h hi hp
    simp only [codeOK, Bool.and_eq_true] at hok
    simp only [evC] at h
    refine wp_seq ?_
    split at h
    · rename_i s' hs
      refine ihx.1 hok.1 s s' .normal γ β a w _ hs hi fun e γ' β' a' w' k1 k2 k3 k4 k5 => ?_
      cases e with
      | normal => exact ihy.1 hok.2 s' s1 ex γ' β' a' w' Q h k2 (hp.trans k3 k4 k5)
      | exit _ => exact k1.elim
      | goto _ => exact k1.elim
      | ret => exact k1.elim
      | panic _ => exact k1.elim
      | outgrown => exact k1.elim
    · rename_i hne
      refine ihx.1 hok.1 s s1 ex γ β a w _ h hi fun e γ' β' a' w' k1 k2 k3 k4 k5 => ?_
      have he := exOf_ne k1 (fun e => hne s1 (by rw [← e]; exact h))
      have := hp e γ' β' a' w' k1 k2 k3 k4 k5
      cases e with
      | normal => exact absurd rfl he
      | exit _ => exact this
      | goto _ => exact this
      | ret => exact this
      | panic _ => exact this
      | outgrown => exact this
  | cond x y z ihy ihz =>
    refine ⟨?_, fun b e => by cases e⟩
    intro hok s s1 ex γ β a w Q h hi hp
    simp only [codeOK, Bool.and_eq_true] at hok
    simp only [evC] at h
    split at h
    · rename_i t hx
      have hv := (hi.ev c.P 0 x).1
      rw [hx] at hv
      simp only [RV, RC] at hv
      refine wp_cond hv ?_
      cases t with
      | true => exact ihy.1 hok.1 s s1 ex γ β a w Q h hi hp
      | false => exact ihz.1 hok.2 s s1 ex γ β a w Q h hi hp
    · cases h
  | block id b ih =>
    refine ⟨?_, fun b e => by cases e⟩
    intro hok s s1 ex γ β a w Q h hi hp
    simp only [codeOK] at hok
    by_cases hl : ∃ b', b = .loop b'
    · obtain ⟨b', rfl⟩ := hl
      simp only [evC] at h
      refine blockEx_ok h (fun ex' s' ho Q hp' => ?_) hp
      obtain ⟨n, hn⟩ := hit _ _ _ _ ho
      refine wp_loop_rounds n ?_
      have hb : Sound c.P N dep (fun s => evC c call it f res b' s) b' := ih.2 b' rfl (by simpa only [codeOK] using hok)
      exact iter_ok hb _ n hn (hi.keep _) hp'
    · have e : evC c call it f res (.block id b) s = blockEx id (evC c call it f res b s) := by
        cases b <;> first | rfl | exact absurd ⟨_, rfl⟩ hl
      simp only [e] at h
      exact blockEx_ok h (fun ex' s' ho Q hp' => ih.1 hok s s' ex' γ β a w Q ho hi hp') hp
  | exit id =>
    refine ⟨?_, fun b e => by cases e⟩
    intro _ s s1 ex γ β a w Q h hi hp
    simp only [evC, Option.some.injEq, Prod.mk.injEq] at h
    obtain ⟨rfl, rfl⟩ := h
    exact wp_exit (hp (.exit id) γ β a w rfl hi (Ext.refl _ _ _ _ _) (Shape.refl _ _) rfl)
  | ret =>
    refine ⟨?_, fun b e => by cases e⟩
    intro _ s s1 ex γ β a w Q h hi hp
    simp only [evC, Option.some.injEq, Prod.mk.injEq] at h
    obtain ⟨rfl, rfl⟩ := h
    exact wp_ret (hp .ret γ β a w trivial hi (Ext.refl _ _ _ _ _) (Shape.refl _ _) rfl)
  | loop b ih => exact ⟨fun _ s s1 ex γ β a w Q h => by simp [evC] at h, fun b' e => by cases e; exact ih.1⟩
  | _ => exact ⟨fun _ s s1 ex γ β a w Q h => by simp [evC] at h, fun b' e => by cases e⟩

theorem evC_ok (hcall : CallOK c.P call) (hc : Even call) (hit : ItOK it) (hdep : 1 ≤ dep) (hm : c.P.follows .mixedOrders = true) (code : Code) (hok : codeOK c f res N code = true) :
    Sound c.P N dep (fun s => evC c call it f res code s) code := (evC_ok' hcall hc hit hdep hm code).1 hok

end

end Go.Ev
