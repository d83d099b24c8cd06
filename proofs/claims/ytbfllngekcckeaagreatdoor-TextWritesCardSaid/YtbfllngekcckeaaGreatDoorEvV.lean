/- Regions, whatever order they draw. -/
import Derived.Test.YtbfllngekcckeaaGreatDoorEvU
set_option linter.unusedSimpArgs false
namespace Go.Ev

def exOf : Ex → Exit → Prop
  | .normal, .normal => True
  | .exit i, .exit j => i = j
  | .ret, .ret => True
  | .panic, .panic _ => True
  | _, _ => False

/-- What a piece of code is to leave. -/
def Post (N dep : Nat) (γ : Gh) (β : Bl) (s : S) (a : Act) (w : World) (ex : Ex) (s1 : S) (Q : Exit → Act → World → Prop) : Prop :=
  ∀ e γ' β' a' w', exOf ex e → Inv N dep γ' β' s1 a' w' → Ext dep s.fs γ β w γ' β' w' → Shape dep s.fs s1.fs → a'.defers = a.defers → Q e a' w'

def preds (ops : Array Oper) (j : Nat) : List Nat := match ops[j]? with
  | some o => (o.after.toList.filter (Region.binds .any)).map (·.on)
  | none => []

def reach (ops : Array Oper) : Nat → Nat → Nat → Bool
  | 0, _, _ => false
  | n + 1, j, i => (preds ops j).any fun p => p == i || reach ops n p i

/-- Whatever two of a region's operations may stand either way round, none of them looks at what the other one turns. -/
def drawOK (c : Cfg) (f r : Nat) (ops : Array Oper) (fd st : List Nat) : Bool :=
  (List.range ops.size).all fun j => (preds ops j).all (fun p => decide (p < j)) && (List.range j).all fun i => reach ops j j i || match ops[i]?, ops[j]? with
    | some oi, some oj => indep c f r ops fd (st.contains i) (st.contains j) oi oj
    | _, _ => true

def runI (c : Cfg) (call : CallF) (f r : Nat) (ops : Array Oper) (fd st : List Nat) : List Nat → S → Option S
  | [], s => some s
  | i :: l, s => match ops[i]? with
    | some o => match stepW c call f r ops fd (st.contains i) o s with
      | some (.normal, s') => runI c call f r ops fd st l s'
      | _ => none
    | none => none

def rest (ops : Array Oper) (listed : Array Bool) : List Nat := (List.range ops.size).filter fun i => !listed.getD i true

section
variable {c : Cfg} {call : CallF} {f r : Nat} {ops : Array Oper} {fd st : List Nat} {strict : Bool} {o : Oper} {s s' s1 : S} {N dep : Nat} {γ : Gh} {β : Bl} {a : Act} {w : World} {Q : Exit → Act → World → Prop}

theorem Post.trans {γ₁ : Gh} {β₁ : Bl} {a₁ : Act} {w₁ : World} {ex : Ex} (h : Post N dep γ β s a w ex s1 Q) (hx : Ext dep s.fs γ β w γ₁ β₁ w₁) (hs : Shape dep s.fs s'.fs) (hd : a₁.defers = a.defers) :
    Post N dep γ₁ β₁ s' a₁ w₁ ex s1 Q :=
  fun e γ' β' a' w' h1 h2 h3 h4 h5 => h e γ' β' a' w' h1 h2 (hx.trans h3 hs) (hs.trans h4) (h5.trans hd)

theorem stepW_ok (hcall : CallOK c.P call) (hdep : 1 ≤ dep) {i : Nat} (ho : ops[i]? = some o) (hd : ∀ d, o.dst = some d → d < N) (hi : Inv N dep γ β s a w) {ex : Ex} (h : stepW c call f r ops fd strict o s = some (ex, s1)) {K : Act → World → Prop}
    (hn : Next_ N dep γ β s a w ex s1 K Q) : wpOp c.P ops Q i K a w := by
  unfold stepW at h
  unfold wpOp
  simp only [ho]
  split at h
  · rename_i hw
    rw [wanted_ok hi hw, if_pos rfl]
    exact .inl (step_ok hcall hdep hd hi h hn)
  · rename_i hw
    rw [wanted_ok hi hw]
    simp only [Bool.false_eq_true, if_false]
    simp only [Option.some.injEq, Prod.mk.injEq] at h
    obtain ⟨rfl, rfl⟩ := h
    exact hn γ β _ w (put_skip hi hd) (Ext.refl _ _ _ _ _) (by rw [put_fs]; exact Shape.refl _ _) (put_defers _ _ _)
  · cases h

theorem Post.next {ex : Ex} (h : Post N dep γ β s a w ex s1 Q) (hne : ex ≠ .normal) {K : Act → World → Prop} : Next_ N dep γ β s a w ex s1 K Q := by
  cases ex with
  | normal => exact absurd rfl hne
  | exit i => trivial
  | ret => trivial
  | panic => exact fun γ' β' w' chain h1 h2 h3 => h (.panic chain) γ' β' a w' trivial h1 h2 h3 rfl

theorem runL_ok (hcall : CallOK c.P call) (hdep : 1 ≤ dep) (hd : ∀ (i : Nat) o, ops[i]? = some o → ∀ d, o.dst = some d → d < N) : ∀ (l : List Oper) (k : Nat) {s : S} {γ : Gh} {β : Bl} {a : Act} {w : World} {ex : Ex}, (∀ j, l[j]? = ops[k + j]?) → Inv N dep γ β s a w →
    runL c call f r ops fd st k l s = some (ex, s1) → Post N dep γ β s a w ex s1 Q → wpOps c.P ops Q (List.range' k l.length) a w
  | [], k, s, γ, β, a, w, ex, _, hi, h, hp => by
    simp only [runL, Option.some.injEq, Prod.mk.injEq] at h
    obtain ⟨rfl, rfl⟩ := h
    simp only [List.length_nil, List.range'_zero, wpOps]
    exact hp .normal γ β a w trivial hi (Ext.refl _ _ _ _ _) (Shape.refl _ _) rfl
  | o :: l, k, s, γ, β, a, w, ex, hl, hi, h, hp => by
    have ho : ops[k]? = some o := by have := hl 0; simpa using this.symm
    simp only [runL] at h
    rw [List.length_cons, List.range'_succ, wpOps_cons]
    split at h
    · rename_i s' hs
      refine stepW_ok hcall hdep ho (hd k o ho) hi hs fun γ' β' a' w' k1 k2 k3 k4 => ?_
      exact runL_ok hcall hdep hd l (k + 1) (fun j => by have := hl (j + 1); simp only [List.getElem?_cons_succ] at this; rw [this]; congr 1; omega) k1 h (hp.trans k2 k3 k4)
    · rename_i ex' s' hne hs
      simp only [Option.some.injEq, Prod.mk.injEq] at h
      obtain ⟨rfl, rfl⟩ := h
      exact stepW_ok hcall hdep ho (hd k o ho) hi hs (hp.next (fun e => hne (by rw [e])))
    · cases h

theorem region_ok (hcall : CallOK c.P call) (hdep : 1 ≤ dep) (hd : ∀ (i : Nat) o, ops[i]? = some o → ∀ d, o.dst = some d → d < N) (hi : Inv N dep γ β s a w) {ex : Ex}
    (h : runL c call f r ops fd st 0 ops.toList s = some (ex, s1)) (hp : Post N dep γ β s a w ex s1 Q) {id : Nat} : (Code.region id ops false).wp c.P Q a w := by
  refine wp_region ?_
  have := runL_ok hcall hdep hd ops.toList 0 (fun j => by simp) hi h hp
  rwa [← List.range_eq_range', Array.length_toList] at this

/-! ### Any order -/

theorem runL_runI : ∀ (l : List Oper) (k : Nat) {s : S}, (∀ j, l[j]? = ops[k + j]?) → runL c call f r ops fd st k l s = some (.normal, s1) → runI c call f r ops fd st (List.range' k l.length) s = some s1
  | [], k, s, _, h => by
    simp only [runL, Option.some.injEq, Prod.mk.injEq, true_and] at h
    simp [runI, h]
  | o :: l, k, s, hl, h => by
    have ho : ops[k]? = some o := by have := hl 0; simpa using this.symm
    simp only [runL] at h
    rw [List.length_cons, List.range'_succ]
    simp only [runI, ho]
    split at h
    · rename_i s' hs
      rw [hs]
      exact runL_runI l (k + 1) (fun j => by have := hl (j + 1); simp only [List.getElem?_cons_succ] at this; rw [this]; congr 1; omega) h
    · rename_i ex' s' hne hs
      simp only [Option.some.injEq, Prod.mk.injEq] at h
      exact absurd (by rw [h.1]) (hne · )
    · cases h

theorem runI_eqv (hc : Even call) : ∀ (l : List Nat) {s s' s1 : S}, Eqv s s' → s.fs ≠ [] → runI c call f r ops fd st l s = some s1 → ∃ s1', runI c call f r ops fd st l s' = some s1' ∧ Eqv s1 s1'
  | [], s, s', s1, he, _, h => by
    simp only [runI, Option.some.injEq] at h
    subst h
    exact ⟨s', rfl, he⟩
  | i :: l, s, s', s1, he, hne, h => by
    simp only [runI] at h ⊢
    split at h
    · rename_i o ho
      split at h
      · rename_i s2 hs
        obtain ⟨s2', h1, h2, h3⟩ := stepW_eqv hc he hne hs
        rw [h1]
        exact runI_eqv hc l h2 h3 h
      · cases h
    · cases h

theorem bubble (hc : Even call) : ∀ (c1 c2 : List Nat) (i : Nat) {s s1 : S},
    (∀ j ∈ c1, ∀ oj oi, ops[j]? = some oj → ops[i]? = some oi → indep c f r ops fd (st.contains j) (st.contains i) oj oi = true) → s.fs ≠ [] → runI c call f r ops fd st (c1 ++ i :: c2) s = some s1 →
    ∃ oi s' s1', ops[i]? = some oi ∧ stepW c call f r ops fd (st.contains i) oi s = some (.normal, s') ∧ runI c call f r ops fd st (c1 ++ c2) s' = some s1' ∧ Eqv s1 s1'
  | [], c2, i, s, s1, _, _, h => by
    simp only [List.nil_append, runI] at h
    split at h
    · rename_i o ho
      split at h
      · rename_i s' hs
        exact ⟨o, s', s1, ho, hs, h, Eqv.refl _⟩
      · cases h
    · cases h
  | j :: c1, c2, i, s, s1, hind, hne, h => by
    simp only [List.cons_append, runI] at h
    split at h
    · rename_i oj hoj
      split at h
      · rename_i sj hsj
        have hnej : sj.fs ≠ [] := (stepW_eqv hc (Eqv.refl s) hne hsj).choose_spec.2.2
        obtain ⟨oi, sji, s1', hoi, h1, h2, h3⟩ := bubble hc c1 c2 i (fun k hk => hind k (by simp [hk])) hnej h
        obtain ⟨si, sij, h4, h5, h6, h7⟩ := stepW_swap hc (hind j (by simp) oj oi hoj hoi) hne hsj h1
        have hnes : sji.fs ≠ [] := (stepW_eqv hc (Eqv.refl sj) hnej h1).choose_spec.2.2
        obtain ⟨s1'', h8, h9⟩ := runI_eqv hc (c1 ++ c2) h6 hnes h2
        refine ⟨oi, si, s1'', hoi, h4, ?_, h3.trans h9⟩
        simp only [List.cons_append, runI, hoj, h5]
        exact h8
      · cases h
    · cases h

theorem preds_spec {j p : Nat} (ho : ops[j]? = some o) : p ∈ preds ops j ↔ ∃ e ∈ o.after, Region.binds .any e = true ∧ e.on = p := by
  simp only [preds, ho, List.mem_map, List.mem_filter, Array.mem_toList_iff]
  constructor
  · rintro ⟨e, ⟨h1, h2⟩, h3⟩; exact ⟨e, h1, h2, h3⟩
  · rintro ⟨e, h1, h2, h3⟩; exact ⟨e, ⟨h1, h2⟩, h3⟩

/-- What is listed is listed with what it stands behind. -/
def Down (ops : Array Oper) (listed : Array Bool) : Prop := ∀ j, listed.getD j false = true → ∀ p ∈ preds ops j, listed.getD p false = true

theorem reach_listed {listed : Array Bool} (hd : Down ops listed) : ∀ (n j i : Nat), (∀ p ∈ preds ops j, listed.getD p false = true) → reach ops n j i = true → listed.getD i false = true
  | 0, _, _, _, h => by cases h
  | n + 1, j, i, hp, h => by
    simp only [reach, List.any_eq_true, Bool.or_eq_true, beq_iff_eq] at h
    obtain ⟨p, hpm, rfl | h⟩ := h
    · exact hp p hpm
    · exact reach_listed hd n p i (hd p (hp p hpm)) h

theorem getD_lt {listed : Array Bool} {i : Nat} (h : i < listed.size) (d d' : Bool) : listed.getD i d = listed.getD i d' := by simp [h]

theorem mem_rest {listed : Array Bool} {i : Nat} : i ∈ rest ops listed ↔ i < ops.size ∧ listed.getD i true = false := by
  simp [rest]

theorem rest_set {listed : Array Bool} (hsz : listed.size = ops.size) {i : Nat} (hi : i ∈ rest ops listed) :
    ∃ c1 c2, rest ops listed = c1 ++ i :: c2 ∧ rest ops (listed.setIfInBounds i true) = c1 ++ c2 ∧ ∀ j ∈ c1, j < i ∧ j ∈ rest ops listed := by
  obtain ⟨h1, h2⟩ := mem_rest.1 hi
  refine ⟨(List.range i).filter fun j => !listed.getD j true, (List.range' (i + 1) (ops.size - (i + 1))).filter fun j => !listed.getD j true, ?_, ?_, ?_⟩
  · have e : List.range ops.size = List.range i ++ i :: List.range' (i + 1) (ops.size - (i + 1)) := by
      rw [List.range_eq_range', List.range_eq_range', ← List.range'_succ]
      have := List.range'_append_1 (s := 0) (m := i) (n := ops.size - (i + 1) + 1)
      rw [Nat.zero_add] at this
      rw [this]
      congr 1
      omega
    rw [rest, e, List.filter_append, List.filter_cons, if_pos (by simpa using h2)]
  · have e : List.range ops.size = List.range i ++ i :: List.range' (i + 1) (ops.size - (i + 1)) := by
      rw [List.range_eq_range', List.range_eq_range', ← List.range'_succ]
      have := List.range'_append_1 (s := 0) (m := i) (n := ops.size - (i + 1) + 1)
      rw [Nat.zero_add] at this
      rw [this]
      congr 1
      omega
    have hs : (listed.setIfInBounds i true).getD i true = true := by
      rw [getD_lt (by simp; omega) true false]
      simp [show i < listed.size by omega]
    rw [rest, e, List.filter_append, List.filter_cons, if_neg (by simp [hs])]
    congr 1
    · refine List.filter_congr fun j hj => ?_
      rw [getD_set_ne true (by simp at hj; omega)]
    · refine List.filter_congr fun j hj => ?_
      rw [getD_set_ne true (by simp [List.mem_range'_1] at hj; omega)]
  · intro j hj
    simp only [List.mem_filter, List.mem_range] at hj
    exact ⟨hj.1, mem_rest.2 ⟨by omega, by simpa using hj.2⟩⟩

theorem ready_sub {listed : Array Bool} {i : Nat} (h : i ∈ Region.ready .any ops listed) : i ∈ rest ops listed ∧ ∀ p ∈ preds ops i, listed.getD p false = true := by
  obtain ⟨h1, o, h2, h3⟩ := mem_ready.1 h
  refine ⟨mem_rest.2 ⟨(Array.getElem?_eq_some_iff.1 h2).1, h1⟩, fun p hp => ?_⟩
  obtain ⟨e, h4, h5, rfl⟩ := (preds_spec h2).1 hp
  exact h3 e h4 h5

theorem head_ready (hok : drawOK c f r ops fd st = true) {listed : Array Bool} (hsz : listed.size = ops.size) {i : Nat} {l : List Nat} (h : rest ops listed = i :: l) : i ∈ Region.ready .any ops listed := by
  have hm : i ∈ rest ops listed := by rw [h]; simp
  obtain ⟨h1, h2⟩ := mem_rest.1 hm
  refine mem_ready.2 ⟨h2, ops[i], Array.getElem?_eq_getElem h1, fun e he hb => ?_⟩
  have hp : e.on ∈ preds ops i := (preds_spec (Array.getElem?_eq_getElem h1)).2 ⟨e, he, hb, rfl⟩
  simp only [drawOK, List.all_eq_true, List.mem_range, Bool.and_eq_true, decide_eq_true_eq] at hok
  have hlt := (hok i h1).1 _ hp
  cases hx : listed.getD e.on true with
  | true => rwa [getD_lt (by omega) false true]
  | false =>
    obtain ⟨c1, c2, g1, _, g3⟩ := rest_set hsz hm
    have hin : e.on ∈ rest ops listed := mem_rest.2 ⟨by omega, hx⟩
    -- the head is the least
    have hsorted : ∀ j ∈ rest ops listed, i ≤ j := by
      intro j hj
      have : (rest ops listed).Pairwise (· < ·) := List.Pairwise.filter _ List.pairwise_lt_range
      rw [h] at this hj
      rcases List.mem_cons.1 hj with rfl | hj
      · exact Nat.le_refl _
      · exact Nat.le_of_lt ((List.pairwise_cons.1 this).1 j hj)
    have := hsorted _ hin
    omega

theorem Inv.eqv (hi : Inv N dep γ β s a w) (h : Eqv s s') : Inv N dep γ β s' a w := by
  have := hi.congr s'.m (fun t => (h.2 t).symm)
  obtain ⟨h1, _⟩ := h
  rw [h1] at this
  exact this

theorem wpAny_ok (hcall : CallOK c.P call) (hc : Even call) (hdep : 1 ≤ dep) (hd : ∀ (i : Nat) o, ops[i]? = some o → ∀ d, o.dst = some d → d < N) (hok : drawOK c f r ops fd st = true) :
    ∀ (fuel : Nat) {listed : Array Bool} {s s1 : S} {γ : Gh} {β : Bl} {a : Act} {w : World}, listed.size = ops.size → Down ops listed → (rest ops listed).length ≤ fuel → Inv N dep γ β s a w →
      runI c call f r ops fd st (rest ops listed) s = some s1 → Post N dep γ β s a w .normal s1 Q → wpAny c.P .any ops Q fuel listed a w := by
  intro fuel
  have last : ∀ {listed : Array Bool} {s s1 : S} {γ : Gh} {β : Bl} {a : Act} {w : World}, listed.size = ops.size → Inv N dep γ β s a w → runI c call f r ops fd st (rest ops listed) s = some s1 → Post N dep γ β s a w .normal s1 Q →
      Region.ready .any ops listed = [] → Q .normal a w := fun {listed s s1 γ β a w} hsz hi hr hp hempty => by
    cases hrest : rest ops listed with
    | nil =>
      rw [hrest] at hr
      simp only [runI, Option.some.injEq] at hr
      subst hr
      exact hp .normal γ β a w trivial hi (Ext.refl _ _ _ _ _) (Shape.refl _ _) rfl
    | cons i l =>
      have := head_ready hok hsz hrest
      rw [hempty] at this
      cases this
  induction fuel with
  | zero =>
    intro listed s s1 γ β a w hsz hdn hlen hi hr hp
    have hnil : rest ops listed = [] := List.eq_nil_of_length_eq_zero (by omega)
    have hready : Region.ready .any ops listed = [] := by
      cases h : Region.ready .any ops listed with
      | nil => rfl
      | cons i l =>
        have := (ready_sub (i := i) (by rw [h]; simp)).1
        rw [hnil] at this
        cases this
    exact ⟨hready, last hsz hi hr hp hready⟩
  | succ fuel ih =>
    intro listed s s1 γ β a w hsz hdn hlen hi hr hp
    refine ⟨last hsz hi hr hp, fun i hir => ?_⟩
    obtain ⟨him, hpr⟩ := ready_sub hir
    obtain ⟨c1, c2, g1, g2, g3⟩ := rest_set hsz him
    have hne : s.fs ≠ [] := fun e => by have := hi.len; rw [e] at this; simp at this
    have hok' := hok
    simp only [drawOK, List.all_eq_true, List.mem_range, Bool.and_eq_true, Bool.or_eq_true, decide_eq_true_eq] at hok'
    have hilt := (mem_rest.1 him).1
    have hind : ∀ j ∈ c1, ∀ oj oi, ops[j]? = some oj → ops[i]? = some oi → indep c f r ops fd (st.contains j) (st.contains i) oj oi = true := fun j hj oj oi hoj hoi => by
      obtain ⟨h1, h2⟩ := g3 j hj
      rcases (hok' i hilt).2 j h1 with h | h
      · have := reach_listed hdn i i j hpr h
        have hj2 := (mem_rest.1 h2).2
        rw [getD_lt (by omega) true false, this] at hj2
        cases hj2
      · rw [hoj, hoi] at h
        exact h
    rw [g1] at hr
    obtain ⟨oi, s', s1', hoi, h1, h2, h3⟩ := bubble hc c1 c2 i hind hne hr
    refine stepW_ok hcall hdep hoi (hd i oi hoi) hi h1 fun γ' β' a' w' k1 k2 k3 k4 => ?_
    have hdn' : Down ops (listed.setIfInBounds i true) := fun j hj p hp => by
      by_cases e : i = j
      · subst e; exact getD_set_true (hpr p hp)
      · rw [getD_set_ne false e] at hj
        exact getD_set_true (hdn j hj p hp)
    refine ih (by simpa using hsz) hdn' ?_ k1 (by rw [g2]; exact h2) ?_
    · rw [g2]
      rw [g1] at hlen
      simp at hlen ⊢
      omega
    · have hp' := hp.trans (s' := s') (a₁ := a') k2 k3 k4
      intro e γ'' β'' a'' w'' j1 j2 j3 j4 j5
      exact hp' e γ'' β'' a'' w'' j1 (j2.eqv h3.symm) j3 (by rw [h3.1]; exact j4) j5

theorem region_any_ok (hcall : CallOK c.P call) (hc : Even call) (hdep : 1 ≤ dep) (hm : c.P.follows .mixedOrders = true) (hd : ∀ (i : Nat) o, ops[i]? = some o → ∀ d, o.dst = some d → d < N) (hok : drawOK c f r ops fd st = true) (hi : Inv N dep γ β s a w)
    (h : runL c call f r ops fd st 0 ops.toList s = some (.normal, s1)) (hp : Post N dep γ β s a w .normal s1 Q) {id : Nat} : (Code.region id ops true).wp c.P Q a w := by
  refine wp_region_any hm ?_
  have h1 := runL_runI ops.toList 0 (fun j => by simp) h
  rw [← List.range_eq_range', Array.length_toList] at h1
  have hrest : rest ops (Array.replicate ops.size false) = List.range ops.size := by
    rw [rest, List.filter_eq_self]
    intro i hi'
    simp at hi'
    simp [hi']
  have hI := hi.heap (w' := { w with drawn := w.drawn + 1 }) rfl
  refine wpAny_ok hcall hc hdep hd hok ops.size (by simp) (fun j hj => ?_) (by rw [hrest]; simp) hI (by rw [hrest]; exact h1) (hp.trans (Ext.heap rfl rfl rfl rfl) (Shape.refl _ _) rfl)
  exfalso
  rw [Array.getD_eq_getD_getElem?, Array.getElem?_replicate] at hj
  split at hj <;> simp at hj

end

end Go.Ev
