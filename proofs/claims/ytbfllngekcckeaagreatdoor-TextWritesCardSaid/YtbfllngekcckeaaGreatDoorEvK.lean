/- append. -/
import Derived.Test.YtbfllngekcckeaaGreatDoorEvJ
import Derived.Deep.AppendSrc
set_option linter.unusedSimpArgs false
namespace Go.Ev

/-- Values that stand for data. -/
def VR (γ : Gh) (ds : List D) (vs : List Value) : Prop := vs.length = ds.length ∧ ∀ (i : Nat) (d : D), ds[i]? = some d → ∃ v, vs[i]? = some v ∧ RD γ d v

theorem VR.mono {γ γ' : Gh} (h : ∀ b o v, γ b o = .perm v → γ' b o = .perm v) {ds : List D} {vs : List Value} (e : VR γ ds vs) : VR γ' ds vs :=
  ⟨e.1, fun i d hd => let ⟨v, h1, h2⟩ := e.2 i d hd; ⟨v, h1, RD.mono h d v h2⟩⟩

theorem VR.app {γ : Gh} {ds es : List D} {vs us : List Value} (h : VR γ ds vs) (k : VR γ es us) : VR γ (ds ++ es) (vs ++ us) := by
  refine ⟨by simp [h.1, k.1], fun i d hd => ?_⟩
  rw [List.getElem?_append] at hd ⊢
  rw [h.1]
  split at hd
  · rename_i hlt; rw [if_pos hlt]; exact h.2 i d hd
  · rename_i hlt; rw [if_neg hlt]; exact k.2 _ d hd

theorem RD.one {γ : Gh} {d : D} {v : Value} (h : RD γ d v) : v.oneCell' = true := by
  cases d with
  | bool b => simp only [RD] at h; subst h; rfl
  | int k n => simp only [RD] at h; subst h; rfl
  | str s => simp only [RD] at h; subst h; rfl
  | sl z es => simp only [RD] at h; obtain ⟨a, l, c, rfl, _⟩ := h; rfl

theorem VR.ones {γ : Gh} {ds : List D} {vs : List Value} (h : VR γ ds vs) : ∀ u ∈ vs, u.oneCell' = true := by
  intro u hu
  obtain ⟨i, hi, hu'⟩ := List.getElem_of_mem hu
  have hlt : i < ds.length := by rw [← h.1]; exact hi
  obtain ⟨v, h1, h2⟩ := h.2 i _ (List.getElem?_eq_getElem hlt)
  rw [List.getElem?_eq_getElem hi, hu'] at h1
  cases h1
  exact RD.one h2

theorem RRow.vr {γ : Gh} {es : List (List D)} {b o : Nat} (h : RRow γ b o es) : ∃ vs, VR γ es.flatten vs ∧ ∀ (i : Nat) (v : Value), vs[i]? = some v → γ b (o + i) = .perm v := by
  obtain ⟨vs, h1, h2⟩ := REl.vals _ _ _ (RRow.flat _ _ _ h)
  refine ⟨vs, ⟨h1, fun i d hd => let ⟨v, h3, _, h4⟩ := h2 i d hd; ⟨v, h3, h4⟩⟩, fun i v hv => ?_⟩
  have hlt := (List.getElem?_eq_some_iff.1 hv).1
  obtain ⟨u, h3, h4, _⟩ := h2 i _ (List.getElem?_eq_getElem (by omega))
  rw [hv] at h3
  cases h3
  exact h4

theorem REl.of {γ : Gh} : ∀ (ds : List D) (b o : Nat), (∀ (i : Nat) (d : D), ds[i]? = some d → ∃ v, γ b (o + i) = .perm v ∧ RD γ d v) → REl γ b o ds
  | [], _, _, _ => by simp only [REl]
  | d :: ds, b, o, h => by
    simp only [REl]
    refine ⟨by simpa using h 0 d rfl, REl.of ds b (o + 1) fun i x hx => ?_⟩
    rw [show o + 1 + i = o + (i + 1) by omega]
    exact h (i + 1) x (by simpa using hx)

theorem RRow.of {γ : Gh} : ∀ (es : List (List D)) (b o : Nat), (∀ (i : Nat) (d : D), es.flatten[i]? = some d → ∃ v, γ b (o + i) = .perm v ∧ RD γ d v) → RRow γ b o es
  | [], _, _, _ => by simp only [RRow]
  | e :: es, b, o, h => by
    simp only [RRow]
    refine ⟨REl.of e b o fun i d hd => h i d ?_, RRow.of es b (o + e.length) fun i d hd => ?_⟩
    · simp only [List.flatten_cons]
      rw [List.getElem?_append_left (List.getElem?_eq_some_iff.1 hd).1]
      exact hd
    · rw [show o + e.length + i = o + (e.length + i) by omega]
      refine h _ d ?_
      simp only [List.flatten_cons]
      rw [List.getElem?_append_right (by omega), show e.length + i - e.length = i by omega]
      exact hd

theorem RRow.of_vr {γ : Gh} {es : List (List D)} {b o : Nat} {vs : List Value} (h : VR γ es.flatten vs) (hp : ∀ (i : Nat) (v : Value), vs[i]? = some v → γ b (o + i) = .perm v) : RRow γ b o es :=
  RRow.of es b o fun i d hd => let ⟨v, h1, h2⟩ := h.2 i d hd; ⟨v, hp i v h1, h2⟩

theorem flatten_length {z : Nat} : ∀ (es : List (List D)), (∀ e ∈ es, e.length = z) → es.flatten.length = es.length * z
  | [], _ => by simp
  | e :: es, h => by
    rw [List.flatten_cons, List.length_append, flatten_length es (fun x hx => h x (by simp [hx])), h e (by simp), List.length_cons, Nat.succ_mul]
    omega

theorem chunk_flatten {z : Nat} : ∀ (n : Nat) (l : List D), l.length = n * z → (chunk z n l).flatten = l ∧ (chunk z n l).length = n ∧ ∀ e ∈ chunk z n l, e.length = z
  | 0, l, h => by
    have : l = [] := by simpa using h
    subst this
    simp [chunk]
  | n + 1, l, h => by
    rw [Nat.succ_mul] at h
    obtain ⟨h1, h2, h3⟩ := chunk_flatten (z := z) n (l.drop z) (by simp; omega)
    simp only [chunk, List.flatten_cons, h1, List.take_append_drop, List.length_cons, h2, List.mem_cons, true_and]
    rintro e (rfl | he)
    · simp; omega
    · exact h3 e he

theorem bytesOf_flatten (l : List UInt8) : (bytesOf l).flatten = l.map fun b => D.int .u8 b.toNat := by
  induction l with
  | nil => rfl
  | cons b l ih =>
    simp only [bytesOf, List.map_cons, List.flatten_cons] at ih ⊢
    rw [ih]
    rfl

section
variable {P : Program} {N dep : Nat} {γ : Gh} {β : Bl} {s : S} {a : Act} {w : World} {o : Oper}

/-- A mutable array's cells. -/
theorem Inv.asl (hi : Inv N dep γ β s a w) {d k off len z : Nat} {es : List (List D)} (h : aslD s.fs d k off len z = some es) {b : Nat} (hb : β d k = some b) :
    ∃ vs, VR γ es.flatten vs ∧ es.length = len ∧ (∀ e ∈ es, e.length = z) ∧ ∀ (i : Nat) (v : Value), vs[i]? = some v → w.cell? ⟨b, off + i, none⟩ = some v := by
  unfold aslD at h
  split at h
  · rename_i cs hl
    split at h
    · rename_i hle
      split at h
      · rename_i ds hds
        simp only [Option.some.injEq] at h
        subst h
        obtain ⟨b', us, ty, fz, h1, h2, h3, h4⟩ := hi.ob d k cs hl
        rw [hb] at h1
        cases h1
        obtain ⟨g1, g2⟩ := toDs_get hds
        rw [cut_length _ _ _ (by omega) hle] at g1
        obtain ⟨c1, c2, c3⟩ := chunk_flatten (z := z) len ds (by omega)
        rw [c1]
        have hg : ∀ i, i < len * z → cs[off + i]? = (cut off (off + len * z) cs)[i]? := fun i hlt => by
          unfold cut
          rw [List.getElem?_take_of_lt (by omega), List.getElem?_drop]
        refine ⟨(us.toList.drop off).take (len * z), ⟨by simp; omega, fun i dd hd => ?_⟩, c2, c3, fun i v hv => ?_⟩
        · obtain ⟨c, hc, hcd⟩ := g2 i dd hd
          have hlt : i < len * z := by have := (List.getElem?_eq_some_iff.1 hd).1; omega
          rw [← hg i hlt] at hc
          obtain ⟨_, v, hv, hr⟩ := h4 _ c hc
          refine ⟨v, ?_, RC.toD hcd hr⟩
          rw [List.getElem?_take_of_lt hlt, List.getElem?_drop]
          simpa using hv
        · have hlt : i < len * z := by
            have := (List.getElem?_eq_some_iff.1 hv).1
            simp at this
            omega
          rw [List.getElem?_take_of_lt hlt, List.getElem?_drop] at hv
          simp only [World.cell?, h2]
          simpa using hv
      · cases h
    · cases h
  · cases h

/-- What is put behind. -/
theorem Inv.tail (hi : Inv N dep γ β s a w) {u : TypeId} {y : Operand} {t z : Nat} {xs : List (List D)} (h : tailD P u s.fs z (Ev.ev P t s.m y) = some xs) :
    ∃ news, Src P z u (a.eval y) xs.length news w ∧ (∀ e ∈ xs, e.length = z) ∧ VR γ xs.flatten news := by
  obtain ⟨h1, _⟩ := hi.ev P t y
  unfold tailD at h
  split at h
  · rename_i hu
    split at h
    · rename_i l hy
      split at h
      · rename_i hz
        subst hz
        simp only [Option.some.injEq] at h
        subst h
        rw [hy] at h1
        simp only [RV, RC] at h1
        refine ⟨_, by rw [h1]; have := Src.ofString (P := P) w hu ⟨l.toArray⟩; simpa [bytesOf, ByteArray.size] using this, fun e he => ?_, ?_⟩
        · simp only [bytesOf, List.mem_map] at he
          obtain ⟨b, _, rfl⟩ := he
          rfl
        · rw [bytesOf_flatten]
          refine ⟨by simp [byteCells], fun i d hd => ?_⟩
          simp only [List.getElem?_map, Option.map_eq_some_iff] at hd
          obtain ⟨b, hb, rfl⟩ := hd
          exact ⟨.int .u8 b.toNat, by simp [byteCells, hb], by simp only [RD]⟩
      · cases h
    · cases h
  · rename_i e' hu
    split at h
    · rename_i k z' es hy
      split at h
      · rename_i hz
        simp only [Option.some.injEq] at h
        subst h
        rw [hy] at h1
        simp only [RV, RC] at h1
        obtain ⟨ad, len, cap, hX, ⟨g1, g2, g3, g4, g5⟩, _⟩ := h1
        have g3' : ∀ e ∈ es, e.length = z := by
          rcases hz with rfl | rfl
          · exact g3
          · intro e he; cases he
        cases ad with
        | none =>
          have := (g4 rfl).1
          subst this
          refine ⟨[], ?_, g3', ⟨rfl, fun i d hd => by simp at hd⟩⟩
          rw [hX, g1]
          exact Src.ofNil w hu cap
        | some ad =>
          obtain ⟨g6, g7⟩ := g5 ad rfl
          obtain ⟨b, o', sp⟩ := ad
          simp only at g6
          obtain ⟨vs, hv, hp⟩ := RRow.vr g7
          refine ⟨vs, ?_, g3', hv⟩
          rw [hX, g1]
          refine Src.ofSlice w hu _ _ _ vs (by rw [hv.1, flatten_length es g3']) (fun j v hj => ?_) hv.ones
          have hlt := (List.getElem?_eq_some_iff.1 hj).1
          rw [hv.1, flatten_length es g3'] at hlt
          have hpos : 0 < cap := by
            rcases Nat.eq_zero_or_pos es.length with h0 | h0
            · rw [h0, Nat.zero_mul] at hlt; omega
            · omega
          obtain rfl := g6 hpos
          exact Inv.cells hi.gh hp j v hj
      · cases h
    · rename_i d k off len cap z' hy
      split at h
      · rename_i hz
        subst hz
        rw [hy] at h1
        simp only [RV, RC] at h1
        obtain ⟨b, o', hb, hX, g1, g2⟩ := h1
        obtain ⟨vs, hv, hl, hz, hc⟩ := hi.asl h hb
        refine ⟨vs, ?_, hz, hv⟩
        rw [hX, ← hl]
        refine Src.ofSlice w hu _ _ _ vs (by rw [hv.1, flatten_length xs hz]) (fun j v hj => ?_) hv.ones
        rw [Addr.add_none]
        have := hc j v hj
        rcases g2 with h0 | rfl
        · have : vs.length = 0 := by rw [hv.1, flatten_length xs hz, hl, show len = 0 by omega, Nat.zero_mul]
          have := (List.getElem?_eq_some_iff.1 hj).1
          omega
        · exact this
      · cases h
    · cases h
  · cases h

theorem elemI_ok {t e z lim : Nat} (h : elemI P t = some (e, z, lim)) : ∃ i zv, P.underlying t = some (.slice e) ∧ P.info? e = some i ∧ i.zero = some zv ∧ zv.cells.size = i.size ∧ 0 < i.size ∧ i.size = z ∧ lim = 140737488355328 / (i.bytes + 1) := by
  unfold elemI at h
  split at h
  · rename_i e' he
    split at h
    · rename_i i hi
      split at h
      · rename_i zv hz
        split at h
        · rename_i hc
          simp only [Option.some.injEq, Prod.mk.injEq] at h
          obtain ⟨rfl, rfl, rfl⟩ := h
          unfold elemT at he
          split at he
          · rename_i e'' hu
            simp only [Option.some.injEq] at he
            subst he
            exact ⟨i, zv, hu, hi, hz, hc.1, hc.2, rfl, rfl⟩
          · cases he
        · cases h
      · cases h
    · cases h
  · cases h

theorem lim_ok {n bytes : Nat} (h : n < 140737488355328 / (bytes + 1)) : n * bytes ≤ 140737488355328 ∧ n ≤ 140737488355328 := by
  have h1 : n * (bytes + 1) ≤ 140737488355328 := by
    have := Nat.mul_le_mul_right (bytes + 1) (Nat.le_of_lt h)
    exact Nat.le_trans this (Nat.div_mul_le_self _ _)
  rw [Nat.mul_add, Nat.mul_one] at h1
  omega

theorem strip_strip (x : V) : x.strip.strip = x.strip := by
  cases x with
  | c y => cases y <;> try rfl
           rename_i k z es; cases k <;> rfl
  | _ => rfl

/-- A new row, of which the free cells are a temporary's. -/
def rowRole (n m : Nat) (vs : Array Value) (p : Pos) : Nat → Role := fun o => if o < n then (match vs[o]? with | some v => .perm v | none => .none) else if o < m then .tail p else .none

theorem rowRole_ok {n m : Nat} {vs : Array Value} {p : Pos} (hm : m = vs.size) (o : Nat) : RoleOK vs (0, 0) o (rowRole n m vs p o) := by
  unfold rowRole
  split
  · cases h : vs[o]? with
    | none => trivial
    | some v => exact h
  · split
    · exact ⟨by omega, .inr (by simp)⟩
    · trivial

theorem rowRole_mix {n m : Nat} {vs : Array Value} {p : Pos} (o o' : Nat) (d k : Nat) (q : Pos) (h : rowRole n m vs p o = .obj d k) (_h' : rowRole n m vs p o' = .tail q) : False := by
  unfold rowRole at h
  split at h
  · split at h <;> cases h
  · split at h <;> cases h

theorem zeroCells_size (z : Array Value) (n : Nat) : (Builtin.zeroCells z n).size = n * z.size := by simp [Builtin.zeroCells]

/-- A new array: what stood, what is put behind, and free cells. -/
theorem Land.row {u : Value} {n cap z : Nat} {e : TypeId} {vs : List Value} {zs : Array Value} {es : List (List D)} {m' : M}
    (hm : Inv N dep γ β { s with m := clr o.dst m' } a w)
    (hr : (execOp a.eval o).run P w = .ok (.value u) (w.drew.alloc (.cells (vs.toArray ++ zs) e))) (hu : u = .slice (some ⟨w.heap.size, 0, none⟩) n cap)
    (hv : VR γ es.flatten vs) (hz : ∀ e ∈ es, e.length = z) (hn : n = es.length) (hc : n ≤ cap) (hzs : zs.size = (cap - n) * z) :
    Land P N dep γ β s a w o (.c (.sl .own z es)) { s with m := m' } := by
  have hl : vs.length = n * z := by rw [hv.1, flatten_length es hz, hn]
  have hsz : cap * z = (vs.toArray ++ zs).size := by
    rw [Array.size_append, hzs]
    simp only [List.size_toArray, hl]
    rw [← Nat.add_mul]
    congr 1
    omega
  let p : Pos := match o.dst with | some d => .tmp dep d | none => .tmp dep 0
  have hI := (hm.heap (w' := w.drew) rfl).add (vs.toArray ++ zs) e (0, 0) (rowRole (n * z) (cap * z) (vs.toArray ++ zs) p) (rowRole_ok hsz) (fun o o' d k q h h' => rowRole_mix o o' d k q h h')
  have hE := Ext.add (dep := dep) (fs := s.fs) (β := β) (hm.heap (w' := w.drew) rfl).gh (.cells (vs.toArray ++ zs) e) (rowRole (n * z) (cap * z) (vs.toArray ++ zs) p)
  refine ⟨_, u, _, _, β, hr, .inl rfl, hI, fun d hd => ?_, rfl, (Ext.heap (w := w) (w' := w.drew) rfl rfl rfl rfl).trans hE (Shape.refl _ _), Shape.refl _ _⟩
  have hp : p = .tmp dep d := by simp only [p, hd]
  have hmono : ∀ b o v, γ b o = .perm v → Gh.add γ w.drew.heap.size (rowRole (n * z) (cap * z) (vs.toArray ++ zs) p) b o = .perm v := fun b o v h => Gh.add_old (hm.heap (w' := w.drew) rfl).gh h (by simp)
  simp only [RV, RC]
  refine ⟨_, n, cap, hu, ⟨hn, hc, hz, (fun h => by cases h), fun ad had => ?_⟩, ?_⟩
  · cases had
    refine ⟨fun _ => rfl, RRow.of_vr (hv.mono hmono) fun i v hv' => ?_⟩
    have hlt := (List.getElem?_eq_some_iff.1 hv').1
    simp only [Gh.add, Nat.zero_add]
    rw [if_pos (show w.heap.size = w.drew.heap.size from rfl)]
    unfold rowRole
    rw [if_pos (by omega), Array.getElem?_append_left (by simpa using hlt)]
    simp [hv']
  · simp only [KOK]
    intro ad had o' h1 h2
    cases had
    simp only [Nat.zero_add] at h1 h2
    simp only [Gh.add]
    rw [if_pos (show w.heap.size = w.drew.heap.size from rfl)]
    unfold rowRole
    rw [if_neg (by omega), if_pos h2, hp]

theorem clr_strip (hi : Inv N dep γ β s a w) (x : Operand) : Inv N dep γ β { s with m := clr o.dst (give s x).m } a w := by
  cases x with
  | tmp t =>
    by_cases hs : (getT s.m t).hasSl = true
    · simp only [give, if_pos hs]
      have := hi.tmp t (getT s.m t).strip (RV.strip_of _ _ (hi.tm t)) (by rw [V.le_strip]; exact hi.tle t)
      exact this.clr o.dst
    · simp only [give, if_neg hs]
      exact hi.clr o.dst
  | const _ => exact hi.clr o.dst
  | global _ => exact hi.clr o.dst
  | func _ => exact hi.clr o.dst

theorem give_fs (s : S) (x : Operand) : give s x = { s with m := (give s x).m } := by
  cases x <;> simp only [give]
  split <;> rfl

theorem run_append {x y : Operand} {k : Call} {t u : TypeId} (ho : o.op = .call k) (hk : k.callee = .builtin .append) (ha : k.args.toList = [x, y]) (ht : k.argTypes.toList = [t, u]) {v : Value} {w' : World}
    (h : (Builtin.append_ #[t, u] o.type #[a.eval x, a.eval y]).run P w = .ok v w') : (execOp a.eval o).run P w = .ok (.value v) w' := by
  have e1 : k.args = #[x, y] := Array.ext' (by simpa using ha)
  have e2 : k.argTypes = #[t, u] := Array.ext' (by simpa using ht)
  simp [execOp, ho, resolve, hk, e1, e2, invoke, builtin, h]

theorem land_append (hi : Inv N dep γ β s a w) {x y : Operand} {k : Call} {t u : TypeId} (ho : o.op = .call k) (hk : k.callee = .builtin .append) (ha : k.args.toList = [x, y]) (ht : k.argTypes.toList = [t, u]) {v : V}
    (h : appendV P t u s.fs (ev P t s.m x) (ev P 0 s.m y) = some v) : Land P N dep γ β s a w o v (give s x) := by
  unfold appendV at h
  split at h
  · cases h
  · rename_i e z₀ lim hel
    obtain ⟨i, zv, hu, hinfo, hzero, hzs, hpos, rfl, rfl⟩ := elemI_ok hel
    split at h
    · cases h
    · rename_i xs hxs
      obtain ⟨news, hsrc, hxz, hnv⟩ := hi.tail hxs
      have hnl : news.length = xs.length * i.size := hsrc.newsLen
      obtain ⟨hx, hxl⟩ := hi.ev P t x
      rw [give_fs]
      -- the arm that grows
      have grow : ∀ (base : Option Addr) (len cap : Nat) (es : List (List D)) (olds : List Value), a.eval x = .slice base len cap → len = es.length → (∀ e ∈ es, e.length = i.size) → VR γ es.flatten olds →
          (Builtin.firstCells i.size len (.slice base len cap)).run P w.drew = .ok olds.toArray w.drew → cap < len + xs.length → es.length + xs.length < 140737488355328 / (i.bytes + 1) →
          Land P N dep γ β s a w o (.c (.sl .own i.size (es ++ xs))) { s with m := (give s x).m } := by
        intro base len cap es olds hX hlen hez hov hfc hg hlim
        obtain ⟨l1, l2⟩ := lim_ok hlim
        have hrun := run_append_grow_src (P := P) w t u o.type e i zv hu hinfo hzero base len cap olds hfc _ _ news hsrc hg (by omega) (growslice_fits hg (by rw [hlen]; exact l1))
        rw [← hX] at hrun
        refine Land.row (vs := olds ++ news) (zs := Builtin.zeroCells zv.cells (grownCap w (len + xs.length) cap e - (len + xs.length))) (clr_strip hi x) (run_append ho hk ha ht hrun) rfl ?_ ?_ ?_ (grownCap_ge _ _ _ _) ?_
        · rw [List.flatten_append]; exact hov.app hnv
        · intro e' he'
          rcases List.mem_append.1 he' with h | h
          · exact hez _ h
          · exact hxz _ h
        · rw [List.length_append, hlen]
        · rw [zeroCells_size, hzs]
      split at h
      · rename_i kd z es hxv
        split at h
        · rename_i happ
          split at h
          · rename_i hlim
            simp only [Option.some.injEq] at h
            subst h
            rw [hxv] at hx
            simp only [RV, RC] at hx
            obtain ⟨ad, len, cap, hX, ⟨g1, g2, g3, g4, g5⟩, hkok⟩ := hx
            have hez : ∀ e ∈ es, e.length = i.size := by
              unfold appOK at happ
              split at happ
              · cases happ
              · simp only [KOK] at hkok
                subst hkok
                have := (g4 rfl).1
                subst this
                intro e he; cases he
              · simp only [Bool.or_eq_true, beq_iff_eq, List.isEmpty_iff] at happ
                rcases happ with rfl | rfl
                · exact g3
                · intro e he; cases he
              · simp only [beq_iff_eq] at happ
                subst happ
                exact g3
            have hold : ∃ olds, VR γ es.flatten olds ∧ ∀ w' : World, w'.heap = w.heap → (Builtin.firstCells i.size len (.slice ad len cap)).run P w' = .ok olds.toArray w' := by
              cases ad with
              | none =>
                have := (g4 rfl).1
                subst this
                exact ⟨[], ⟨rfl, fun i d hd => by simp at hd⟩, fun w' _ => run_firstCells_none w' _ _ _ _⟩
              | some ad =>
                obtain ⟨g6, g7⟩ := g5 ad rfl
                obtain ⟨b, o', sp⟩ := ad
                simp only at g6
                obtain ⟨vs, hv, hp⟩ := RRow.vr g7
                refine ⟨vs, hv, fun w' hw' => run_firstCells_some w' i.size len _ len cap vs (by rw [hv.1, flatten_length es hez, g1]) fun j u hj => ?_⟩
                have hlt := (List.getElem?_eq_some_iff.1 hj).1
                rw [hv.1, flatten_length es hez] at hlt
                have hposc : 0 < cap := by
                  rcases Nat.eq_zero_or_pos es.length with h0 | h0
                  · rw [h0, Nat.zero_mul] at hlt; omega
                  · omega
                obtain rfl := g6 hposc
                rw [cell?_heap hw']
                exact Inv.cells hi.gh hp j u hj
            obtain ⟨olds, hov, hfc⟩ := hold
            by_cases hroom : len + xs.length ≤ cap
            · -- there is room
              -- nothing is put behind
              have fin0 : xs = [] → (∀ p, RV γ β (some p) (.c (.sl .own i.size (es ++ xs))) (.slice ad len cap)) → Land P N dep γ β s a w o (.c (.sl .own i.size (es ++ xs))) { s with m := (give s x).m } := by
                intro hxs0 hrv
                subst hxs0
                have hn0 : news = [] := List.eq_nil_of_length_eq_zero (by simpa using hnl)
                subst hn0
                have hrun : (Builtin.append_ #[t, u] o.type #[a.eval x, a.eval y]).run P w = .ok (.slice ad len cap) w := by
                  rw [hX]
                  have hcell : (Builtin.firstCells i.size 0 (a.eval y)).run P w = .ok #[] w := hsrc.cells
                  have hle : ∀ w' : World, (Builtin.lenOf (a.eval y)).run P w' = .ok 0 w' := hsrc.len
                  rcases hsrc.kind with ⟨e', hk'⟩ | hk' <;> cases ad <;>
                    simp [Builtin.append_, run_underlying hu, run_underlying hk', sizeOf, typeInfo, hinfo, hle, g2, hcell, storeCells]
                exact ⟨_, _, w, γ, β, run_append ho hk ha ht hrun, .inl rfl, clr_strip hi x, fun d _ => hrv _, rfl, Ext.refl _ _ _ _ _, Shape.refl _ _⟩
              have slOK0 : xs = [] → SlOK i.size (es ++ xs) ad len cap (fun b o => RRow γ b o (es ++ xs)) := by
                intro hxs0
                subst hxs0
                rw [List.append_nil]
                exact ⟨g1, g2, hez, g4, g5⟩
              cases kd with
              | ro => simp [appOK] at happ
              | nil =>
                simp only [KOK] at hkok
                subst hkok
                have hc0 := (g4 rfl).2
                have hxs0 : xs = [] := List.eq_nil_of_length_eq_zero (by omega)
                refine fin0 hxs0 fun p => ?_
                simp only [RV, RC]
                exact ⟨none, len, cap, rfl, slOK0 hxs0, fun ad' had => by cases had⟩
              | exact =>
                simp only [KOK] at hkok
                have hxs0 : xs = [] := List.eq_nil_of_length_eq_zero (by omega)
                refine fin0 hxs0 fun p => ?_
                simp only [RV, RC]
                refine ⟨ad, len, cap, rfl, slOK0 hxs0, fun ad' had o'' h5 h6 => ?_⟩
                rw [hkok] at h6
                omega
              | own =>
                simp only [appOK, beq_iff_eq] at happ
                subst happ
                cases hxop : x with
                | const _ => rw [hxop] at hkok; simp only [KOK, opPos] at hkok
                | global _ => rw [hxop] at hkok; simp only [KOK, opPos] at hkok
                | func _ => rw [hxop] at hkok; simp only [KOK, opPos] at hkok
                | tmp tt =>
                  rw [hxop] at hkok
                  simp only [KOK, opPos] at hkok
                  cases ad with
                  | none =>
                    have hc0 := (g4 rfl).2
                    have hxs0 : xs = [] := List.eq_nil_of_length_eq_zero (by omega)
                    rw [← hxop]
                    refine fin0 hxs0 fun p => ?_
                    simp only [RV, RC]
                    exact ⟨none, len, cap, rfl, slOK0 hxs0, fun ad' had => by cases had⟩
                  | some ad =>
                    obtain ⟨g6, g7⟩ := g5 ad rfl
                    obtain ⟨b, o', sp⟩ := ad
                    simp only at g6 g7
                    rcases Nat.eq_zero_or_pos cap with hc0 | hc0
                    · have hxs0 : xs = [] := List.eq_nil_of_length_eq_zero (by omega)
                      rw [← hxop]
                      refine fin0 hxs0 fun p => ?_
                      simp only [RV, RC]
                      refine ⟨_, len, cap, rfl, slOK0 hxs0, fun ad' had o'' h5 h6 => ?_⟩
                      rw [hc0, Nat.zero_mul] at h6
                      have : len * i.size = 0 := by rw [show len = 0 by omega, Nat.zero_mul]
                      omega
                    obtain rfl := g6 hc0
                    have hlast : (len + xs.length) * i.size ≤ cap * i.size := Nat.mul_le_mul_right _ hroom
                    rw [Nat.add_mul] at hlast
                    have hrole : ∀ j, j < news.length → γ b (o' + len * i.size + j) = .tail (.tmp dep tt) := fun j hj => hkok _ rfl _ (by simp only; omega) (by simp only; omega)
                    have hfree : ∀ j, j < news.length → (∃ v, w.cell? ⟨b, o' + len * i.size + j, none⟩ = some v) ∧ w.frozen? ⟨b, o' + len * i.size + j, none⟩ = false := fun j hj => by
                      have := hi.gh.1 b (o' + len * i.size + j)
                      rw [hrole j hj] at this
                      exact this
                    have hrun := run_append_room_src (P := P) w t u o.type e i hu hinfo b o' len cap _ _ news hsrc hroom (fun j hj => by obtain ⟨v, hv⟩ := (hfree j hj).1; rw [hv]; rfl) (fun j hj => (hfree j hj).2)
                    rw [← hX] at hrun
                    have hI1 := clr_strip (o := o) hi x
                    rw [hxop] at hI1
                    have hst : (getT (clr o.dst (give s (.tmp tt)).m) tt).strip = getT (clr o.dst (give s (.tmp tt)).m) tt := by
                      have e1 : getT s.m tt = .c (.sl .own i.size es) := by rw [hxop] at hxv; exact hxv
                      have e2 : getT (give s (.tmp tt)).m tt = .c (.sl .ro i.size es) := by
                        simp only [give, e1, V.hasSl, C.isSl, if_true, getT_cons]
                        rfl
                      cases hdst : o.dst with
                      | none => simp only [clr, e2]; rfl
                      | some d =>
                        simp only [clr, getT_cons]
                        split
                        · rfl
                        · rw [e2]; rfl
                    obtain ⟨f1, f2⟩ := hI1.fill tt hst b (o' + len * i.size) news hrole
                    let q : Pos := match o.dst with | some d => .tmp dep d | none => .tmp dep tt
                    have f3 := (f1.gives tt q).congr (clr o.dst (give s (.tmp tt)).m) (fun t' => by
                      simp only [getT_cons, hst]
                      split
                      · rename_i e; rw [← e]
                      · rfl)
                    refine ⟨_, _, _, _, β, run_append ho hk ha ht hrun, .inl rfl, f3, fun d hd => ?_, rfl, f2.trans Ext.relabel (Shape.refl _ _), Shape.refl _ _⟩
                    have hq : q = .tmp dep d := by simp only [q, hd]
                    have hmono : ∀ b' o'' v, γ b' o'' = .perm v → relabel (Gh.fill γ b (o' + len * i.size) news) (.tmp dep tt) q b' o'' = .perm v := fun b' o'' v h => relabel_perm _ _ _ (f2.perm _ _ _ h)
                    obtain ⟨vs, hv, hp⟩ := RRow.vr g7
                    have hvl : vs.length = len * i.size := by rw [hv.1, flatten_length es hez, g1]
                    simp only [RV, RC]
                    refine ⟨_, _, _, rfl, ⟨by simp only [List.length_append]; omega, hroom, ?_, (fun h => by cases h), fun ad' had => ?_⟩, ?_⟩
                    · intro e' he'
                      rcases List.mem_append.1 he' with h | h
                      · exact hez _ h
                      · exact hxz _ h
                    · cases had
                      refine ⟨fun _ => rfl, RRow.of_vr (vs := vs ++ news) (by rw [List.flatten_append]; exact (hv.app hnv).mono hmono) fun j u' hj => ?_⟩
                      rw [List.getElem?_append] at hj
                      split at hj
                      · exact hmono _ _ _ (hp j u' hj)
                      · rename_i hjl
                        refine relabel_perm _ _ _ ?_
                        have := Gh.fill_in (γ := γ) (b := b) (e := o' + len * i.size) hj
                        rwa [show o' + len * i.size + (j - vs.length) = o' + j by omega] at this
                    · simp only [KOK]
                      intro ad' had o'' h5 h6
                      cases had
                      simp only [Nat.add_mul] at h5 h6
                      rw [hq]
                      refine relabel_same _ _ ?_
                      rw [Gh.fill_out (by rintro ⟨_, h7, h8⟩; omega)]
                      exact hkok _ rfl o'' (by simp only; omega) h6
            · exact grow ad len cap es olds hX g1 hez hov (hfc _ rfl) (by omega) hlim
          · cases h
        · cases h
      · rename_i d k' off len cap z hxv
        split at h
        · rename_i hc
          obtain ⟨rfl, rfl, hx0⟩ := hc
          split at h
          · rename_i es hes
            split at h
            · rename_i hlim
              simp only [Option.some.injEq] at h
              subst h
              rw [hxv] at hx
              simp only [RV, RC] at hx
              obtain ⟨b, o', hb, hX, g1, g2⟩ := hx
              obtain ⟨vs, hv, hl, hz, hcell⟩ := hi.asl hes hb
              refine grow _ len len es vs hX hl.symm hz hv (run_firstCells_some w.drew i.size len _ len len vs (by rw [hv.1, flatten_length es hz, hl]) fun j u hj => ?_) (by omega) hlim
              rw [cell?_heap (w := w) (w' := w.drew) rfl, Addr.add_none]
              have := hcell j u hj
              rcases g2 with h0 | rfl
              · have : vs.length = 0 := by rw [hv.1, flatten_length es hz, hl, show len = 0 by omega, Nat.zero_mul]
                have := (List.getElem?_eq_some_iff.1 hj).1
                omega
              · exact this
            · cases h
          · cases h
        · cases h
      · cases h

end

end Go.Ev
