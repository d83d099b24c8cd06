/- The limit of the evaluator over its fuel. -/
import Derived.Test.YtbfllngekcckeaaGreatDoorEvZ
set_option linter.unusedSimpArgs false
namespace Go.Ev

def LeC (call call' : CallF) : Prop := ∀ g a fs r, call g a fs = some r → call' g a fs = some r
def LeS (stp stp' : S → Out) : Prop := ∀ s o, stp s = some o → stp' s = some o

section
variable {c : Cfg} {call call' : CallF} {f r : Nat} {ops : Array Oper} {fd st : List Nat} {strict : Bool} {o : Oper} {s : S} {res : List Tmp}

theorem doCall_mono (h : LeC call call') {g : FuncId} {args : List V} {x : Option V × S} (hd : doCall c call g args s = some x) : doCall c call' g args s = some x := by
  unfold doCall at hd ⊢
  split at hd
  · rename_i hs
    rw [if_pos hs]
    split at hd
    · rename_i own rest hfs
      split at hd
      · rename_i hl
        rw [if_pos hl]
        split at hd
        · rename_i r rest' hc
          rw [h _ _ _ _ hc]
          exact hd
        · cases hd
      · cases hd
    · cases hd
  · rename_i hs
    rw [if_neg hs]
    split at hd
    · rename_i r fs hc
      rw [h _ _ _ _ hc]
      exact hd
    · cases hd

theorem step_mono (h : LeC call call') {x : Ex × S} (hd : step c call f r fd strict o s = some x) : step c call' f r fd strict o s = some x := by
  unfold step at hd ⊢
  cases hop : o.op with
  | call k =>
    simp only [hop] at hd ⊢
    cases hk : k.callee with
    | value z =>
      simp only [hk] at hd ⊢
      split at hd
      · rename_i g a b ht
        split at hd
        · rename_i hc
          rw [if_pos hc]
          split at hd
          · rename_i hdc
            rw [doCall_mono h hdc]
            exact hd
          · rename_i hdc
            rw [doCall_mono h hdc]
            exact hd
          · cases hd
        · rename_i hc
          rw [if_neg hc]
          split at hd
          · rename_i hdc
            rw [doCall_mono h hdc]
            exact hd
          · rename_i hdc
            rw [doCall_mono h hdc]
            exact hd
          · cases hd
      · cases hd
    | _ => simp only [hk] at hd ⊢; exact hd
  | _ => simp only [hop] at hd ⊢; exact hd

theorem stepW_mono (h : LeC call call') {x : Ex × S} (hd : stepW c call f r ops fd strict o s = some x) : stepW c call' f r ops fd strict o s = some x := by
  unfold stepW at hd ⊢
  split at hd
  · exact step_mono h hd
  · exact hd
  · cases hd

theorem runL_mono (h : LeC call call') : ∀ (l : List Oper) (k : Nat) {s : S} {x : Ex × S}, runL c call f r ops fd st k l s = some x → runL c call' f r ops fd st k l s = some x
  | [], k, s, x, hd => hd
  | o :: l, k, s, x, hd => by
    simp only [runL] at hd ⊢
    split at hd
    · rename_i s' hs
      rw [stepW_mono h hs]
      exact runL_mono h l (k + 1) hd
    · rename_i ex s' hne hs
      rw [stepW_mono h hs]
      cases ex with
      | normal => exact absurd rfl (hne · )
      | _ => exact hd
    · cases hd

theorem iterK_mono {stp stp' : S → Out} (h : LeS stp stp') (l : List Nat) : ∀ (n m : Nat) {s : S} {x : Ex × S}, n ≤ m → iterK stp l n s = some x → iterK stp' l m s = some x
  | 0, m, s, x, _, hd => by simp [iterK] at hd
  | n + 1, 0, s, x, hm, _ => by omega
  | n + 1, m + 1, s, x, hm, hd => by
    simp only [iterK] at hd ⊢
    split at hd
    · rename_i s' hs
      rw [h _ _ hs]
      exact iterK_mono h l n m (by omega) hd
    · rename_i ex s' hne hs
      rw [h _ _ hs]
      cases ex with
      | normal => exact absurd rfl (hne · )
      | _ => exact hd
    · cases hd

def itK (n : Nat) : (S → Out) → List Nat → S → Out := fun stp l s => iterK stp l n s

theorem evC_mono (h : LeC call call') {n m : Nat} (hnm : n ≤ m) : ∀ (code : Code), LeS (fun s => evC c call (itK n) f res code s) (fun s => evC c call' (itK m) f res code s) ∧
    ∀ b, code = .loop b → LeS (fun s => evC c call (itK n) f res b s) (fun s => evC c call' (itK m) f res b s) := by
  intro code
  induction code with
  | region r ops d =>
    refine ⟨fun s x hd => ?_, fun b e => by cases e⟩
    cases d with
    | false => simp only [evC] at hd ⊢; exact runL_mono h _ _ hd
    | true =>
      simp only [evC] at hd ⊢
      split at hd
      · rename_i hs
        rw [runL_mono h _ _ hs]
        exact hd
      · cases hd
  | seq x y ihx ihy =>
    refine ⟨fun s x' hd => ?_, fun b e => by cases e⟩
    simp only [evC] at hd ⊢
    split at hd
    · rename_i s' hs
      have h1 : evC c call' (itK m) f res x s = _ := ihx.1 _ _ hs
      rw [h1]
      exact ihy.1 _ _ hd
    · rename_i hne
      have h1 : evC c call' (itK m) f res x s = _ := ihx.1 _ _ hd
      rw [h1]
      split
      · rename_i hx
        simp only [Option.some.injEq] at hx
        subst hx
        exact absurd hd (hne _)
      · rfl
  | cond x y z ihy ihz =>
    refine ⟨fun s x' hd => ?_, fun b e => by cases e⟩
    simp only [evC] at hd ⊢
    split at hd
    · rename_i t _
      cases t with
      | true => exact ihy.1 _ _ hd
      | false => exact ihz.1 _ _ hd
    · cases hd
  | block id b ih =>
    refine ⟨fun s x hd => ?_, fun b e => by cases e⟩
    have lift : ∀ {a a' : Out}, (∀ o, a = some o → a' = some o) → blockEx id a = some x → blockEx id a' = some x := fun {a a'} h1 h2 => by
      cases a with
      | none => simp [blockEx] at h2
      | some o => rw [h1 o rfl]; exact h2
    by_cases hl : ∃ b', b = .loop b'
    · obtain ⟨b', rfl⟩ := hl
      simp only [evC] at hd ⊢
      exact lift (fun o ho => iterK_mono (ih.2 b' rfl) _ n m hnm ho) hd
    · have e : ∀ (call : CallF) (it : (S → Out) → List Nat → S → Out), evC c call it f res (.block id b) s = blockEx id (evC c call it f res b s) := fun _ _ => by
        cases b <;> first | rfl | exact absurd ⟨_, rfl⟩ hl
      simp only [e] at hd ⊢
      exact lift (fun o ho => ih.1 _ _ ho) hd
  | loop b ih => exact ⟨fun s x hd => by simp [evC] at hd, fun b' e => by cases e; exact ih.1⟩
  | _ => exact ⟨fun s x hd => by first | exact hd | simp [evC] at hd, fun b e => by cases e⟩

theorem callN_mono : ∀ n, LeC (callN c n) (callN c (n + 1))
  | 0 => fun g a fs r h => by simp [callN] at h
  | n + 1 => fun g a fs r h => by
    have ih := callN_mono n
    rw [callN] at h ⊢
    split at h
    · exact h
    · split at h
      · rename_i hok
        rw [if_pos hok]
        split at h
        · rename_i fn hf
          split at h
          · rename_i b hb
            split at h
            · rename_i hn
              rw [if_pos hn]
              have hm := (evC_mono (c := c) (f := g) (res := resTmps fn) ih (Nat.le_succ n) b).1
              generalize hx : evC c (callN c n) (fun stp l s => iterK stp l n s) g (resTmps fn) b { m := params 0 a, fs := [] :: fs } = out at h
              cases out with
              | none => simp [finish] at h
              | some o =>
                have : evC c (callN c (n + 1)) (fun stp l s => iterK stp l (n + 1) s) g (resTmps fn) b { m := params 0 a, fs := [] :: fs } = some o := hm _ _ hx
                rw [this]
                exact h
            · cases h
          · cases h
        · cases h
      · cases h

theorem callN_le {n m : Nat} (h : n ≤ m) : LeC (callN c n) (callN c m) := by
  induction h with
  | refl => exact fun _ _ _ _ h => h
  | step _ ih => exact fun g a fs r hr => callN_mono _ g a fs r (ih g a fs r hr)

end

/-! ### The limit -/

noncomputable def lim {α : Type} (p : Nat → Option α) : Option α := open Classical in if h : ∃ n r, p n = some r then p h.choose else none

theorem lim_get {α : Type} {p : Nat → Option α} {r : α} (h : lim p = some r) : ∃ n, p n = some r := by
  unfold lim at h
  split at h
  · exact ⟨_, h⟩
  · cases h

theorem lim_of {α : Type} {p : Nat → Option α} (hm : ∀ n m x, n ≤ m → p n = some x → p m = some x) {n : Nat} {r : α} (h : p n = some r) : lim p = some r := by
  have hex : ∃ n r, p n = some r := ⟨n, r, h⟩
  unfold lim
  rw [dif_pos hex]
  obtain ⟨r', hr'⟩ := hex.choose_spec
  rw [hr']
  rcases Nat.le_total n hex.choose with hle | hle
  · rw [hm _ _ _ hle h] at hr'
    exact hr'.symm
  · rw [hm _ _ _ hle hr'] at h
    exact h

noncomputable def callE (c : Cfg) : CallF := fun g a fs => lim fun n => callN c n g a fs
noncomputable def itE : (S → Out) → List Nat → S → Out := fun stp l s => lim fun n => iterK stp l n s

theorem itE_get {stp : S → Out} {l : List Nat} {s : S} {o : Ex × S} (h : itE stp l s = some o) : ∃ n, iterK stp l n s = some o := lim_get h
theorem itE_of {stp : S → Out} {l : List Nat} {s : S} {o : Ex × S} {n : Nat} (h : iterK stp l n s = some o) : itE stp l s = some o :=
  lim_of (fun _ _ _ hle h => iterK_mono (fun _ _ h => h) l _ _ hle h) h

theorem callE_get {c : Cfg} {g : FuncId} {a : List V} {fs : Frames} {r : Option V × Frames} (h : callE c g a fs = some r) : ∃ n, callN c n g a fs = some r := lim_get h
theorem callE_at {c : Cfg} {g : FuncId} {a : List V} {fs : Frames} {r : Option V × Frames} {n : Nat} (h : callN c n g a fs = some r) : callE c g a fs = some r :=
  lim_of (fun _ _ _ hle h => callN_le hle _ _ _ _ h) h

section
variable {c : Cfg} {f r : Nat} {ops : Array Oper} {fd st : List Nat} {strict : Bool} {o : Oper} {s : S} {res : List Tmp}

theorem doCall_cont {g : FuncId} {args : List V} {x : Option V × S} (hd : doCall c (callE c) g args s = some x) : ∃ n, doCall c (callN c n) g args s = some x := by
  unfold doCall at hd
  split at hd
  · rename_i hs
    split at hd
    · rename_i own rest hfs
      split at hd
      · rename_i hl
        split at hd
        · rename_i r rest' hc
          obtain ⟨n, hn⟩ := callE_get hc
          exact ⟨n, by unfold doCall; rw [if_pos hs, hfs]; simp only [if_pos hl, hn]; exact hd⟩
        · cases hd
      · cases hd
    · cases hd
  · rename_i hs
    split at hd
    · rename_i r fs hc
      obtain ⟨n, hn⟩ := callE_get hc
      exact ⟨n, by unfold doCall; rw [if_neg hs, hn]; exact hd⟩
    · cases hd

theorem step_cont {x : Ex × S} (hd : step c (callE c) f r fd strict o s = some x) : ∃ n, step c (callN c n) f r fd strict o s = some x := by
  unfold step at hd
  cases hop : o.op with
  | call k =>
    simp only [hop] at hd
    cases hk : k.callee with
    | value z =>
      simp only [hk] at hd
      split at hd
      · rename_i g a b ht
        split at hd
        · rename_i hc
          split at hd
          · rename_i hdc
            obtain ⟨n, hn⟩ := doCall_cont hdc
            exact ⟨n, by unfold step; simp only [hop, hk, ht, if_pos hc, hn]; exact hd⟩
          · rename_i hdc
            obtain ⟨n, hn⟩ := doCall_cont hdc
            exact ⟨n, by unfold step; simp only [hop, hk, ht, if_pos hc, hn]; exact hd⟩
          · cases hd
        · rename_i hc
          split at hd
          · rename_i hdc
            obtain ⟨n, hn⟩ := doCall_cont hdc
            exact ⟨n, by unfold step; simp only [hop, hk, ht, if_neg hc, hn]; exact hd⟩
          · rename_i hdc
            obtain ⟨n, hn⟩ := doCall_cont hdc
            exact ⟨n, by unfold step; simp only [hop, hk, ht, if_neg hc, hn]; exact hd⟩
          · cases hd
      · cases hd
    | _ => exact ⟨0, by unfold step; simp only [hop, hk] at hd ⊢; exact hd⟩
  | _ => exact ⟨0, by unfold step; simp only [hop] at hd ⊢; exact hd⟩

theorem stepW_cont {x : Ex × S} (hd : stepW c (callE c) f r ops fd strict o s = some x) : ∃ n, stepW c (callN c n) f r ops fd strict o s = some x := by
  unfold stepW at hd
  split at hd
  · rename_i hw
    obtain ⟨n, hn⟩ := step_cont hd
    exact ⟨n, by unfold stepW; rw [hw]; exact hn⟩
  · rename_i hw
    exact ⟨0, by unfold stepW; rw [hw]; exact hd⟩
  · cases hd

theorem runL_cont : ∀ (l : List Oper) (k : Nat) {s : S} {x : Ex × S}, runL c (callE c) f r ops fd st k l s = some x → ∃ n, runL c (callN c n) f r ops fd st k l s = some x
  | [], k, s, x, hd => ⟨0, hd⟩
  | o :: l, k, s, x, hd => by
    simp only [runL] at hd
    split at hd
    · rename_i s' hs
      obtain ⟨n, hn⟩ := stepW_cont hs
      obtain ⟨m, hm⟩ := runL_cont l (k + 1) hd
      refine ⟨max n m, ?_⟩
      simp only [runL, stepW_mono (callN_le (Nat.le_max_left n m)) hn]
      exact runL_mono (callN_le (Nat.le_max_right n m)) l (k + 1) hm
    · rename_i ex s' hne hs
      obtain ⟨n, hn⟩ := stepW_cont hs
      refine ⟨n, ?_⟩
      simp only [runL, hn]
      cases ex with
      | normal => exact absurd rfl (hne · )
      | _ => exact hd
    · cases hd

theorem iterK_cont {stp : S → Out} {stpN : Nat → S → Out} (hm : ∀ n m, n ≤ m → LeS (stpN n) (stpN m)) (hc : ∀ s o, stp s = some o → ∃ n, stpN n s = some o) (l : List Nat) : ∀ (k : Nat) {s : S} {x : Ex × S}, iterK stp l k s = some x →
    ∃ n, ∀ m, n ≤ m → iterK (stpN m) l k s = some x
  | 0, s, x, hd => by simp [iterK] at hd
  | k + 1, s, x, hd => by
    simp only [iterK] at hd
    split at hd
    · rename_i s' hs
      obtain ⟨n, hn⟩ := hc _ _ hs
      obtain ⟨n', hn'⟩ := iterK_cont hm hc l k hd
      refine ⟨max n n', fun m hle => ?_⟩
      simp only [iterK, hm n m (by omega) _ _ hn]
      exact hn' m (by omega)
    · rename_i ex s' hne hs
      obtain ⟨n, hn⟩ := hc _ _ hs
      refine ⟨n, fun m hle => ?_⟩
      simp only [iterK, hm n m hle _ _ hn]
      cases ex with
      | normal => exact absurd rfl (hne · )
      | _ => exact hd
    · cases hd

theorem evC_cont : ∀ (code : Code), (∀ (s : S) (x : Ex × S), evC c (callE c) itE f res code s = some x → ∃ n, evC c (callN c n) (itK n) f res code s = some x) ∧
    ∀ b, code = .loop b → ∀ (s : S) (x : Ex × S), evC c (callE c) itE f res b s = some x → ∃ n, evC c (callN c n) (itK n) f res b s = some x := by
  intro code
  induction code with
  | region r ops d =>
    refine ⟨fun s x hd => ?_, fun b e => by cases e⟩
    cases d with
    | false => simp only [evC] at hd ⊢; exact runL_cont _ _ hd
    | true =>
      simp only [evC] at hd ⊢
      split at hd
      · rename_i hs
        obtain ⟨n, hn⟩ := runL_cont _ _ hs
        exact ⟨n, by rw [hn]; exact hd⟩
      · cases hd
  | seq x y ihx ihy =>
    refine ⟨fun s x' hd => ?_, fun b e => by cases e⟩
    simp only [evC] at hd ⊢
    split at hd
    · rename_i s' hs
      obtain ⟨n, hn⟩ := ihx.1 _ _ hs
      obtain ⟨m, hm⟩ := ihy.1 _ _ hd
      refine ⟨max n m, ?_⟩
      have h1 : evC c (callN c (max n m)) (itK (max n m)) f res x s = _ := (evC_mono (callN_le (Nat.le_max_left n m)) (Nat.le_max_left n m) x).1 _ _ hn
      rw [h1]
      exact (evC_mono (callN_le (Nat.le_max_right n m)) (Nat.le_max_right n m) y).1 _ _ hm
    · rename_i hne
      obtain ⟨n, hn⟩ := ihx.1 _ _ hd
      refine ⟨n, ?_⟩
      rw [hn]
      split
      · rename_i hx
        simp only [Option.some.injEq] at hx
        subst hx
        exact absurd hd (hne _)
      · rfl
  | cond x y z ihy ihz =>
    refine ⟨fun s x' hd => ?_, fun b e => by cases e⟩
    simp only [evC] at hd ⊢
    split at hd
    · rename_i t _
      cases t with
      | true => exact ihy.1 _ _ hd
      | false => exact ihz.1 _ _ hd
    · cases hd
  | block id b ih =>
    refine ⟨fun s x hd => ?_, fun b e => by cases e⟩
    by_cases hl : ∃ b', b = .loop b'
    · obtain ⟨b', rfl⟩ := hl
      simp only [evC] at hd ⊢
      cases hx : itE (fun s => evC c (callE c) itE f res b' s) (c.live f id) (keep (c.live f id) s) with
      | none => rw [hx] at hd; simp [blockEx] at hd
      | some o =>
        rw [hx] at hd
        obtain ⟨k, hk⟩ := itE_get hx
        obtain ⟨n, hn⟩ := iterK_cont (stpN := fun n s => evC c (callN c n) (itK n) f res b' s) (fun n m hle => (evC_mono (callN_le hle) hle b').1) (ih.2 b' rfl) _ k hk
        refine ⟨max n k, ?_⟩
        have := iterK_mono (fun _ _ h => h) _ k (max n k) (Nat.le_max_right n k) (hn (max n k) (Nat.le_max_left n k))
        simp only [itK] at this ⊢
        rw [this]
        exact hd
    · have e : ∀ (call : CallF) (it : (S → Out) → List Nat → S → Out), evC c call it f res (.block id b) s = blockEx id (evC c call it f res b s) := fun _ _ => by
        cases b <;> first | rfl | exact absurd ⟨_, rfl⟩ hl
      simp only [e] at hd ⊢
      cases hx : evC c (callE c) itE f res b s with
      | none => rw [hx] at hd; simp [blockEx] at hd
      | some o =>
        rw [hx] at hd
        obtain ⟨n, hn⟩ := ih.1 _ _ hx
        exact ⟨n, by rw [hn]; exact hd⟩
  | loop b ih => exact ⟨fun s x hd => by simp [evC] at hd, fun b' e => by cases e; exact ih.1⟩
  | _ => exact ⟨fun s x hd => by first | exact ⟨0, hd⟩ | simp [evC] at hd, fun b e => by cases e⟩

/-- A call, through its code. -/
theorem callE_of {g : FuncId} {fn : Func} {b : Code} {args : List V} {fs : Frames} {x : Option V × Frames} (hp : c.prim g = none) (hok : c.ok g = true) (hf : c.P.funcs[g]? = some fn) (hb : fn.body = some b) (hn : args.length ≤ fn.ntmps)
    (h : finish c fn (evC c (callE c) itE g (resTmps fn) b { m := params 0 args, fs := [] :: fs }) = some x) : callE c g args fs = some x := by
  cases hx : evC c (callE c) itE g (resTmps fn) b { m := params 0 args, fs := [] :: fs } with
  | none => rw [hx] at h; simp [finish] at h
  | some o =>
    rw [hx] at h
    obtain ⟨n, hn'⟩ := (evC_cont b).1 _ _ hx
    refine callE_at (n := n + 1) ?_
    simp only [callN, hp, hok, if_true, hf, hb, if_pos hn]
    have hn2 : evC c (callN c n) (fun stp l s => iterK stp l n s) g (resTmps fn) b { m := params 0 args, fs := [] :: fs } = some o := hn'
    rw [hn2]
    exact h

theorem callE_prim {g : FuncId} {p : List V → Frames → Option (Option V × Frames)} {args : List V} {fs : Frames} {x : Option V × Frames} (hp : c.prim g = some p) (h : p args fs = some x) : callE c g args fs = some x :=
  callE_at (n := 1) (by simp only [callN, hp]; exact h)

/-! ### Loops -/

theorem itE_step {stp : S → Out} {l : List Nat} {s s' : S} {x : Ex × S} (h : stp s = some (.normal, s')) (h' : itE stp l (keep l s') = some x) : itE stp l s = some x := by
  obtain ⟨n, hn⟩ := itE_get h'
  exact itE_of (n := n + 1) (by simp only [iterK, h]; exact hn)

theorem itE_stop {stp : S → Out} {l : List Nat} {s s' : S} {ex : Ex} (h : stp s = some (ex, s')) (hne : ex ≠ .normal) : itE stp l s = some (ex, keep l s') := by
  refine itE_of (n := 1) ?_
  cases ex with
  | normal => exact absurd rfl hne
  | _ => simp only [iterK, h]

/-- A loop that runs through a family of states. -/
theorem itE_count {stp : S → Out} {l : List Nat} (σ : Nat → S) (n : Nat) {x : Ex × S} (hs : ∀ i, i < n → ∃ s', stp (σ i) = some (.normal, s') ∧ keep l s' = σ (i + 1)) (h : itE stp l (σ n) = some x) : itE stp l (σ 0) = some x := by
  have key : ∀ k, k ≤ n → itE stp l (σ (n - k)) = some x := by
    intro k
    induction k with
    | zero => intro _; exact h
    | succ k ih =>
      intro hk
      obtain ⟨s', h1, h2⟩ := hs (n - (k + 1)) (by omega)
      refine itE_step h1 ?_
      rw [h2, show n - (k + 1) + 1 = n - k by omega]
      exact ih (by omega)
  have := key n (Nat.le_refl _)
  rwa [Nat.sub_self] at this

end

/-- What the evaluator gives in the end, the machine comes to. -/
theorem callE_ok {c : Cfg} (hcfg : CfgOK c) : CallOK c.P (callE c) := fun g args fs r fs' h =>
  let ⟨n, hn⟩ := callE_get h
  (callN_ok hcfg n).1 g args fs r fs' hn

end Go.Ev
set_option linter.unusedSimpArgs false
namespace Go.Ev

def fnOK (c : Cfg) (f : FuncId) : Bool := match c.P.funcs[f]? with
  | some fn => (match fn.body with
    | some b => !(fn.name == "runtime.NumGoroutine") && codeOK c f (resTmps fn) fn.ntmps b
    | none => true)
  | none => true

def allOK (c : Cfg) (n : Nat) : Bool := (List.range n).all fun f => !c.ok f || fnOK c f

theorem fns_of {c : Cfg} {n : Nat} (hn : ∀ f, c.ok f = true → f < n) (h : allOK c n = true) : ∀ f, c.ok f = true → ∀ fn b, c.P.funcs[f]? = some fn → fn.body = some b → (fn.name == "runtime.NumGoroutine") = false ∧ codeOK c f (resTmps fn) fn.ntmps b = true := by
  intro f hf fn b h1 h2
  simp only [allOK, List.all_eq_true, List.mem_range] at h
  have := h f (hn f hf)
  rw [hf] at this
  simp only [Bool.not_true, Bool.false_or, fnOK, h1, h2, Bool.and_eq_true, Bool.not_eq_true'] at this
  exact this

theorem mask_lt {m n : Nat} (h : m < 2 ^ n) (f : Nat) (hf : Nat.testBit m f = true) : f < n := by
  rcases Nat.lt_or_ge f n with h1 | h1
  · exact h1
  · rw [Nat.testBit_lt_two_pow (Nat.lt_of_lt_of_le h (Nat.pow_le_pow_right (by omega) h1))] at hf
    cases hf

/-! ### A call, of which the record of its function is not in the way -/

def finishR (c : Cfg) (rs : List ResultVar) : Out → Option (Option V × Frames)
  | some (.panic, { fs := _ :: rest, .. }) => some (none, rest)
  | some (.normal, s) | some (.ret, s) => match s.fs with
    | own :: rest => match resVs c.P s rs with
      | some vs => match freezeVs own rest.length vs with
        | some [v] => some (some v, rest)
        | some vs => some (some (.tup (vs.map V.strip)), rest)
        | none => none
      | none => none
    | [] => none
  | _ => none

theorem finishR_eq (c : Cfg) (fn : Func) (o : Out) : finish c fn o = finishR c fn.results.toList o := by
  cases o with
  | none => rfl
  | some x =>
    obtain ⟨ex, m, fs⟩ := x
    cases ex <;> rfl

def resTmpsR (rs : List ResultVar) : List Tmp := rs.filterMap fun | .tmp t => some t | .cell _ _ => none

theorem callE_code {c : Cfg} {g : FuncId} {fn : Func} {b : Code} {rs : List ResultVar} {n : Nat} {args : List V} {fs : Frames} {x : Option V × Frames} (hf : c.P.funcs[g]? = some fn) (hp : c.prim g = none) (hok : c.ok g = true) (hb : fn.body = some b) (hr : fn.results.toList = rs)
    (ht : fn.ntmps = n) (hn : args.length ≤ n) (h : finishR c rs (evC c (callE c) itE g (resTmpsR rs) b { m := params 0 args, fs := [] :: fs }) = some x) : callE c g args fs = some x := by
  refine callE_of hp hok hf hb (by rw [ht]; exact hn) ?_
  rw [finishR_eq, hr]
  have : resTmps fn = resTmpsR rs := by
    unfold resTmps resTmpsR
    rw [hr]
    congr 1
  rw [this]
  exact h

end Go.Ev
