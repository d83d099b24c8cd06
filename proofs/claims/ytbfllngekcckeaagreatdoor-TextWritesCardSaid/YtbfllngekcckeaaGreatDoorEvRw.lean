/- From a row's start to the evaluator, and back. -/
import Derived.Test.YtbfllngekcckeaaGreatDoorEvLim
import Derived.ProofKit
import Derived.OpenShut
import Derived.Carry
import Derived.Deep.Slices
import Derived.Deep.SlicePairs
import Derived.SizedLaws
import Derived.ChangeSame
set_option linter.unusedSimpArgs false
set_option linter.unusedVariables false
namespace Go.Ev
open Go.RowKit (Below)
open Go.ChangeShapes Go.WideShapes Go.ChangeAt

section
variable {P : Program} {W W' : World}

/-- Whatever lies there at the start is never turned. -/
noncomputable def startG (W : World) : Gh := fun b o => match W.cell? ⟨b, o, none⟩ with
  | some v => .perm v
  | none => .none

theorem startG_perm {b o : Nat} {v : Value} (h : W.cell? ⟨b, o, none⟩ = some v) : startG W b o = .perm v := by simp only [startG, h]

theorem start_gh (ht : Tab (startG W) W) : GhOK (startG W) W := by
  refine ⟨fun b o => ?_, ht⟩
  unfold startG
  cases h : W.cell? ⟨b, o, none⟩ with
  | none => trivial
  | some v => rfl

theorem start_mix {b o d k : Nat} (h : startG W b o = .obj d k) : False := by
  unfold startG at h
  split at h <;> cases h

theorem exists_list {α : Type} {p : Nat → α → Prop} : ∀ n, (∀ i, i < n → ∃ x, p i x) → ∃ l : List α, l.length = n ∧ ∀ i x, l[i]? = some x → i < n ∧ p i x
  | 0, _ => ⟨[], rfl, fun i x h => by simp at h⟩
  | n + 1, h => by
    obtain ⟨l, h1, h2⟩ := exists_list n fun i hi => h i (by omega)
    obtain ⟨x, hx⟩ := h n (by omega)
    refine ⟨l ++ [x], by simp [h1], fun i y hi => ?_⟩
    rw [List.getElem?_append] at hi
    split at hi
    · obtain ⟨h3, h4⟩ := h2 i y hi
      exact ⟨by omega, h4⟩
    · rename_i hlt
      have hi0 : i - l.length = 0 := by
        have := (List.getElem?_eq_some_iff.1 hi).1
        simp at this
        omega
      rw [hi0] at hi
      simp at hi
      subst hi
      have : i = n := by omega
      subst this
      exact ⟨by omega, hx⟩

theorem look_two (d k : Nat) : look [[], []] d k = none := by
  simp only [look]
  split
  · rfl
  · split <;> rfl

theorem start_winv (ht : Tab (startG W) W) : WInv 1 (startG W) (fun _ _ => none) [[], []] W :=
  ⟨rfl, (fun d k cs h => by rw [look_two] at h; cases h), (fun d k cs h => by rw [look_two] at h; cases h), (fun d k b h => by cases h), start_gh ht, fun b o o' d k p h1 h2 => start_mix h1⟩

/-- A law's call, as the evaluator gives it, at the machine. -/
theorem run_law {c : Cfg} (hc : CallOK c.P (callE c)) {g : FuncId} {args : List V} {vals : List Value} {fs' : Frames} {b : Bool} (h : callE c g args [[], []] = some (some (.c (.bool b)), fs')) (ht : Tab (startG W) W)
    (ha : RArgs (startG W) (fun _ _ => none) 2 0 args vals) (hl : ∀ x ∈ args, x.le 1 = true) : Calls c.P g vals.toArray W fun e W' => e = .returned (.bool b) ∧ Below W.heap.size W W' := by
  refine ((hc g args [[], []] _ _ h).2 1 (startG W) (fun _ _ => none) W vals 0 (Nat.le_refl _) (start_winv ht) ha hl).mono fun e W' he => ?_
  cases e with
  | returned u =>
    obtain ⟨v, γ', β', h1, h2, h3, h4, h5, h6⟩ := he
    cases h1
    simp only [RV, RC] at h5
    refine ⟨by rw [h5], h3.os, h3.tape, h3.output, h3.size, fun k hk => (h3.still k hk fun o => ?_).1⟩
    unfold startG
    split
    · exact .inr ⟨_, rfl⟩
    · exact .inl rfl
  | panicked _ =>
    obtain ⟨γ', β', h1, _⟩ := he
    cases h1
  | outgrown => exact he.elim

/-- What such a call leaves: true, and the arguments read as they did. -/
theorem post_true {H : Type} {enc : TypeId × Value → H} {f : Func} {s : ChangeSpec} {args : Array Value} {ds gs : List (DataW H)} {before : List MemPlace} {tb : TypeId} (hlaid : laidOutB P = true)
    (hts : ∀ t ∈ f.params.toList, P.readableRec t = true ∧ t < P.types.size)
    (hW : DataW.Whole enc P f.params.toList s.vars false W args.toList ds gs before) (hv : s.vars = []) (hr : f.resultTypes = #[tb]) (htb : P.underlying tb = some .bool)
    (h1 : (s.fn H (ds ++ gs)).results = [.lit (.bool true)]) (h2 : (s.fn H (ds ++ gs)).args = ds) (h3 : (s.fn H (ds ++ gs)).vars = []) (hb : Below W.heap.size W W') :
    s.post enc P f false true false false W args (.bool true) W' := by
  have hlt := hW.lt
  have hW' := hW
  obtain ⟨p, q, hA, hV, rfl, hfz, hnd⟩ := hW
  rw [hv] at hV
  obtain ⟨rfl, rfl⟩ := trodVars_none hV
  refine ⟨ds, [], _, [], p, [], hW', ?_, ?_, ?_, hb.frame _, fun h => by cases h⟩
  · rw [h1, hr]
    exact trodAll_mk1 (Go.RowKit.shut_bool htb _)
  · rw [h2]
    simp only [List.append_nil] at hlt
    have carry : ∀ {ts : List TypeId} {vs : List Value} {ds : List (DataW H)} {ps : List MemPlace}, (∀ t ∈ ts, P.readableRec t = true ∧ t < P.types.size) → DataW.TrodAll enc P W 0 (fun _ => true) true ts vs ds ps → (∀ x ∈ ps, x.block < W.heap.size) →
        DataW.TrodAll enc P W' 0 (fun b => decide (b < W.heap.size)) true ts vs ds ps := by
      intro ts
      induction ts with
      | nil =>
        intro vs ds ps _ h _
        cases vs <;> cases ds <;> exact h
      | cons t ts ih =>
        intro vs ds ps ht h hl
        cases vs with
        | nil => exact h.elim
        | cons v vs =>
          cases ds with
          | nil => exact h.elim
          | cons d ds =>
            obtain ⟨p, q, g1, g2, rfl⟩ := h
            obtain ⟨r1, r2⟩ := ht t (by simp)
            exact ⟨p, q, Below.trod hlaid r1 r2 g1 hb fun x hx => hl x (by simp [hx]), ih (fun t ht' => ht t (by simp [ht'])) g2 fun x hx => hl x (by simp [hx]), rfl⟩
    exact carry hts hA hlt
  · rw [h3, hv]
    rfl

/-! ### What came in -/

theorem rrow1 {γ : Gh} {α : Type} (f : α → D) {b : Nat} : ∀ (l : List α) (o : Nat), (∀ i a, l[i]? = some a → ∃ v, γ b (o + i) = .perm v ∧ RD γ (f a) v) → RRow γ b o (l.map fun a => [f a])
  | [], _, _ => by simp only [List.map_nil, RRow]
  | a :: l, o, h => by
    simp only [List.map_cons, RRow, REl, and_true, List.length_cons, List.length_nil]
    refine ⟨h 0 a rfl, rrow1 f l _ fun i x hi => ?_⟩
    have := h (i + 1) x hi
    rwa [show o + (i + 1) = o + (0 + 1) + i by omega] at this

theorem rrow2 {γ : Gh} {α : Type} (f g : α → D) {b : Nat} : ∀ (l : List α) (o : Nat), (∀ i a, l[i]? = some a → (∃ v, γ b (o + i * 2) = .perm v ∧ RD γ (f a) v) ∧ ∃ v, γ b (o + i * 2 + 1) = .perm v ∧ RD γ (g a) v) → RRow γ b o (l.map fun a => [f a, g a])
  | [], _, _ => by simp only [List.map_nil, RRow]
  | a :: l, o, h => by
    simp only [List.map_cons, RRow, REl, and_true, List.length_cons, List.length_nil]
    refine ⟨by simpa using h 0 a rfl, rrow2 f g l _ fun i x hi => ?_⟩
    have := h (i + 1) x hi
    rwa [show o + (i + 1) * 2 = o + (0 + 1 + 1) + i * 2 by omega] at this

theorem cell_add {a : Addr} {i : Nat} {v : Value} (h : W.cell? (a.add i) = some v) (h0 : ∃ v, W.cell? (a.add 0) = some v) : a.spot = none ∧ W.cell? ⟨a.block, a.off + i, none⟩ = some v := by
  obtain ⟨b, o, sp⟩ := a
  obtain ⟨v0, h0⟩ := h0
  have hs : sp = none := by
    simp only [Addr.add, if_true, World.cell?] at h0
    split at h0
    · cases sp with
      | none => rfl
      | some _ => simp at h0
    · cases h0
  subst hs
  refine ⟨rfl, ?_⟩
  unfold Addr.add at h
  split at h
  · rename_i hi
    subst hi
    simpa using h
  · exact h

theorem weights_all {H : Type} {e : TypeId} {x : Nat} {d : DataW H} : ∀ {l : List (DataW H)}, d ∈ l → x ∈ d.weights P e → x ∈ DataW.weightsAll P e l
  | y :: l, hd, hx => by
    simp only [DataW.weightsAll, List.mem_append]
    rcases List.mem_cons.1 hd with rfl | hd
    · exact .inl hx
    · exact .inr (weights_all hd hx)

variable {H : Type} {enc : TypeId × Value → H}

/-- A slice whose elements take one cell each. -/
theorem open_sl1 {α : Type} {t e : TypeId} (f : α → D) (R : α → Prop) (ht : P.underlying t = some (.slice e)) (hc : P.cellsOf e = 1) (hb : 1 ≤ P.bytesOf e)
    (hE : ∀ n v d ps, DataW.trod enc P W 0 (fun _ => true) true n e [v] = some (d, ps) → (∀ x ∈ d.weights P e, x ≤ reachBytes) → ∃ a, R a ∧ RD (startG W) (f a) v)
    {fuel : Nat} {cs : List Value} {d : DataW H} {ps : List MemPlace} (h : DataW.trod enc P W 0 (fun _ => true) true fuel t cs = some (d, ps)) (hw : ∀ x ∈ d.weights P t, x ≤ reachBytes) :
    ∃ (l : List α) (v : Value), cs = [v] ∧ l.length ≤ reachBytes ∧ (∀ a ∈ l, R a) ∧ RD (startG W) (.sl 1 (l.map fun a => [f a])) v := by
  rcases Go.Deep.open_slice1 ht hc h with ⟨rfl, hx⟩ | ⟨a, len, cap, m, n, V, D, Pl, rfl, _, hl, hm, hmm, hx, hel⟩
  · refine ⟨[], _, rfl, by simp, fun a ha => by simp at ha, ?_⟩
    simp only [RD]
    exact ⟨none, 0, 0, rfl, rfl, Nat.le_refl _, fun e he => by simp at he, fun _ => ⟨rfl, rfl⟩, fun ad had => by cases had⟩
  · simp only [if_true] at hmm
    subst hmm
    simp only [Prod.mk.injEq] at hx
    obtain ⟨rfl, _⟩ := hx
    simp only [DataW.weights, ht, List.mem_cons, List.mem_append, List.length_map, List.length_range] at hw
    have hlen : len ≤ reachBytes := by
      have := hw _ (.inl rfl)
      have h2 : len * 1 ≤ (len + (m - len)) * P.bytesOf e := Nat.mul_le_mul (by omega) hb
      omega
    have each : ∀ i, i < len → ∃ x : α, R x ∧ RD (startG W) (f x) (V i) := fun i hi => by
      obtain ⟨h1, h2⟩ := hel i (by omega)
      exact hE n (V i) (D i) (Pl i) h2 fun x hx => hw x (.inr (.inl (weights_all (List.mem_map.2 ⟨i, List.mem_range.2 hi, rfl⟩) hx)))
    obtain ⟨l, hll, hl2⟩ := exists_list len each
    refine ⟨l, _, rfl, by rw [hll]; exact hlen, fun x hx => ?_, ?_⟩
    · obtain ⟨i, hi⟩ := List.getElem?_of_mem hx
      exact (hl2 i x hi).2.1
    · simp only [RD]
      refine ⟨some a, len, m, rfl, by simp [hll], hl, fun e he => ?_, (fun h => by cases h), fun ad had => ?_⟩
      · obtain ⟨x, _, rfl⟩ := List.mem_map.1 he
        rfl
      · cases had
        refine ⟨fun hpos => (cell_add (hel 0 hpos).1 ⟨_, (hel 0 hpos).1⟩).1, rrow1 f _ _ fun i x hi => ?_⟩
        obtain ⟨h1, _, h2⟩ := hl2 i x hi
        exact ⟨V i, startG_perm (cell_add (hel i (by omega)).1 ⟨_, (hel 0 (by omega)).1⟩).2, h2⟩

/-- A slice of pairs of whole numbers. -/
theorem open_sl2 {t e : TypeId} {f0 f1 : Field} {k0 k1 : IntKind} (ht : P.underlying t = some (.slice e)) (he : P.underlying e = some (.struct #[f0, f1])) (ce : P.cellsOf e = 2) (o0 : f0.offset = 0) (o1 : f1.offset = 1) (c0 : P.cellsOf f0.type = 1) (c1 : P.cellsOf f1.type = 1)
    (u0 : P.underlying f0.type = some (.int k0)) (u1 : P.underlying f1.type = some (.int k1)) (hb : 1 ≤ P.bytesOf e)
    {fuel : Nat} {cs : List Value} {d : DataW H} {ps : List MemPlace} (h : DataW.trod enc P W 0 (fun _ => true) true fuel t cs = some (d, ps)) (hw : ∀ x ∈ d.weights P t, x ≤ reachBytes) :
    ∃ (l : List (Int × Int)) (v : Value), cs = [v] ∧ l.length ≤ reachBytes ∧ RD (startG W) (.sl 2 (l.map fun p => [.int k0 p.1, .int k1 p.2])) v := by
  rcases Go.Deep.open_slice_pairs ht he ce o0 o1 c0 c1 h with ⟨rfl, hx⟩ | ⟨a, len, cap, m, n, V0, V1, D0, D1, P0, P1, rfl, _, hl, hm, hmm, hx, hel⟩
  · refine ⟨[], _, rfl, by simp, ?_⟩
    simp only [RD]
    exact ⟨none, 0, 0, rfl, rfl, Nat.le_refl _, fun e he => by simp at he, fun _ => ⟨rfl, rfl⟩, fun ad had => by cases had⟩
  · simp only [if_true] at hmm
    subst hmm
    simp only [Prod.mk.injEq] at hx
    obtain ⟨rfl, _⟩ := hx
    simp only [DataW.weights, ht, List.mem_cons, List.mem_append, List.length_map, List.length_range] at hw
    have hlen : len ≤ reachBytes := by
      have := hw _ (.inl rfl)
      have h2 : len * 1 ≤ (len + (m - len)) * P.bytesOf e := Nat.mul_le_mul (by omega) hb
      omega
    have each : ∀ i, i < m → ∃ x : Int × Int, V0 i = .int k0 x.1 ∧ V1 i = .int k1 x.2 := fun i hi => by
      obtain ⟨_, _, h3, h4⟩ := hel i hi
      obtain ⟨a0, g0, _⟩ := DataW.trod_int u0 h3
      obtain ⟨a1, g1, _⟩ := DataW.trod_int u1 h4
      exact ⟨(a0, a1), by simpa using g0, by simpa using g1⟩
    obtain ⟨l, hll, hl2⟩ := exists_list len fun i hi => each i (by omega)
    refine ⟨l, _, rfl, by rw [hll]; exact hlen, ?_⟩
    simp only [RD]
    refine ⟨some a, len, m, rfl, by simp [hll], hl, fun e he => ?_, (fun h => by cases h), fun ad had => ?_⟩
    · obtain ⟨x, _, rfl⟩ := List.mem_map.1 he
      rfl
    · cases had
      have h00 : 0 < m → ∃ v, W.cell? (a.add 0) = some v := fun hpos => ⟨_, by simpa using (hel 0 hpos).1⟩
      refine ⟨fun hpos => ?_, rrow2 (fun p : Int × Int => D.int k0 p.1) (fun p => D.int k1 p.2) _ _ fun i x hi => ?_⟩
      · obtain ⟨v, hv⟩ := h00 hpos
        exact (cell_add hv ⟨v, hv⟩).1
      · obtain ⟨h1, e1, e2⟩ := hl2 i x hi
        obtain ⟨g1, g2, _, _⟩ := hel i (by omega)
        have g3 := (cell_add g1 (h00 (by omega))).2
        have g4 := (cell_add g2 (h00 (by omega))).2
        exact ⟨⟨V0 i, startG_perm g3, by simp only [RD]; exact e1⟩, ⟨V1 i, startG_perm (by rw [show a.off + i * 2 + 1 = a.off + (i * 2 + 1) by omega]; exact g4), by simp only [RD]; exact e2⟩⟩

/-- A cell of an interface type. -/
theorem trod_iface {t : TypeId} {ms} {w : World} {base : Nat} {spare : Nat → Bool} {held : Bool} {fuel : Nat} {cs : List Value} {x : DataW H × List MemPlace} (ht : P.underlying t = some (.interface ms)) (h : DataW.trod enc P w base spare held fuel t cs = some x) : ∃ v, cs = [v] ∧ IsErr v := by
  cases fuel with
  | zero => simp [DataW.trod] at h
  | succ n =>
    unfold DataW.trod at h
    rw [ht] at h
    match cs, h with
    | [], h => simp at h
    | [v], h =>
      refine ⟨v, rfl, ?_⟩
      cases v with
      | nilIface => exact .inl rfl
      | iface t p => exact .inr ⟨t, p, rfl⟩
      | _ => simp at h
    | _ :: _ :: _, h => simp at h

end

end Go.Ev
