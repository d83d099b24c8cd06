/- len, min, max, conversions to bytes, new objects. -/
import Derived.Test.YtbfllngekcckeaaGreatDoorEvK
import Derived.Lib.ConvBytes
import Derived.Laws.MakeOwn
import Derived.Great.BuildSlice
set_option linter.unusedSimpArgs false
namespace Go.Ev

theorem RC.one {γ : Gh} {β : Bl} {p : Option Pos} {c : C} {v : Value} (h : RC γ β p c v) : v.oneCell' = true := by
  cases c <;> simp only [RC] at h
  case bool | int | str | nilp | nilfn | nilif => subst h; rfl
  case sl => obtain ⟨_, _, _, rfl, _⟩ := h; rfl
  case asl => obtain ⟨_, _, _, rfl, _⟩ := h; rfl
  case ptr => obtain ⟨_, _, rfl⟩ := h; rfl
  case fn => obtain ⟨_, _, rfl, _⟩ := h; rfl
  case ifc => obtain ⟨_, rfl, _⟩ := h; rfl
  case someif => obtain ⟨_, _, rfl⟩ := h; rfl

theorem one_cells {v : Value} (h : v.oneCell' = true) : v.cells = #[v] := by cases v <;> first | rfl | (simp [Value.oneCell'] at h)

theorem RCs.ones {γ : Gh} {β : Bl} {cs : List C} {vs : List Value} (h : RCs γ β cs vs) : ∀ v ∈ vs, v.oneCell' = true := by
  intro v hv
  obtain ⟨i, hi, hv'⟩ := List.getElem_of_mem hv
  obtain ⟨h1, h2⟩ := RCs.get h
  obtain ⟨u, h3, h4⟩ := h2 i _ (List.getElem?_eq_getElem (by omega : i < cs.length))
  rw [List.getElem?_eq_getElem hi, hv'] at h3
  cases h3
  exact h4.one

/-- A value's cells. -/
theorem RV.cells {γ : Gh} {β : Bl} {p : Option Pos} {x : V} {v : Value} {cs : List C} (h : RV γ β p x v) (hc : x.cells = some cs) :
    (∃ c, x = .c c ∧ cs = [c] ∧ v.cells = #[v] ∧ RC γ β p c v) ∨ (x = .agg cs ∧ RCs γ β cs v.cells.toList) := by
  cases x with
  | c y =>
    simp only [V.cells, Option.some.injEq] at hc
    subst hc
    simp only [RV] at h
    exact .inl ⟨y, rfl, rfl, one_cells h.one, h⟩
  | agg ys =>
    simp only [V.cells, Option.some.injEq] at hc
    subst hc
    simp only [RV] at h
    obtain ⟨y, rfl, h1⟩ := h
    exact .inr ⟨rfl, h1⟩
  | tup _ => simp [V.cells] at hc
  | pe _ _ _ _ => simp [V.cells] at hc
  | junk => simp [V.cells] at hc
  | raw _ => simp [V.cells] at hc

section
variable {P : Program} {N dep : Nat} {γ : Gh} {β : Bl} {s : S} {a : Act} {w : World} {o : Oper}

/-! ### len, min, max -/

theorem run_builtin {k : Call} {b : Go.Builtin} {xs : List Operand} (ho : o.op = .call k) (hk : k.callee = .builtin b) (ha : k.args.toList = xs) {v : Value} {w' : World}
    (h : ∀ cs, (builtin b k.argTypes o.type cs (xs.map a.eval).toArray).run P w = .ok (.value v) w') : (execOp a.eval o).run P w = .ok (.value v) w' := by
  have e1 : k.args = xs.toArray := Array.ext' (by simpa using ha)
  simp only [← List.map_toArray] at h
  simp only [execOp, ho, resolve, hk, e1, invoke, Sem.run_bind, Sem.run_pure, Result.andThen_ok]
  exact h _

theorem land_len (hi : Inv N dep γ β s a w) {x : Operand} {k : Call} {t : TypeId} (ho : o.op = .call k) (hk : k.callee = .builtin .len) (ha : k.args.toList = [x]) (ht : k.argTypes[0]? = some t)
    {is : Bool} (hu : if is then P.underlying t = some .string else ∃ e, P.underlying t = some (.slice e)) {n : Int} (h : lenV is (ev P 0 s.m x) = some n) : Land P N dep γ β s a w o (.c (.int .i64 n)) s := by
  have hx := (hi.ev P 0 x).1
  have fin : ∀ m : Nat, (Builtin.len_ k.argTypes o.type #[a.eval x]).run P w = .ok (goInt m) w → (m : Int) = n → Land P N dep γ β s a w o (.c (.int .i64 n)) s := fun m hr hn => by
    have hr' : (execOp a.eval o).run P w = .ok (.value (.int .i64 n)) w := by
      refine run_builtin ho hk ha fun cs => ?_
      rw [← hn]
      simp only [builtin, List.map_cons, List.map_nil, Sem.run_bind, hr, Result.andThen_ok, Sem.run_pure]
      rfl
    exact Plain.land (plain_int .i64 n) hi hr'
  unfold lenV at h
  split at h
  · rename_i b hb
    simp only [Option.some.injEq] at h
    rw [hb] at hx
    simp only [RV, RC] at hx
    simp only [if_true] at hu
    refine fin _ ?_ h
    rw [hx]
    simp [Builtin.len_, ht, run_underlying hu]
    rfl
  · rename_i kd z es hb
    simp only [Option.some.injEq] at h
    rw [hb] at hx
    simp only [RV, RC] at hx
    obtain ⟨ad, len, cap, hX, ⟨g1, _⟩, _⟩ := hx
    simp only [Bool.false_eq_true, if_false] at hu
    obtain ⟨e, hu⟩ := hu
    refine fin len ?_ (by rw [g1]; exact h)
    rw [hX]
    simp [Builtin.len_, ht, run_underlying hu]
  · rename_i d k' off len cap z hb
    simp only [Option.some.injEq] at h
    rw [hb] at hx
    simp only [RV, RC] at hx
    obtain ⟨b, o', _, hX, _⟩ := hx
    simp only [Bool.false_eq_true, if_false] at hu
    obtain ⟨e, hu⟩ := hu
    refine fin len ?_ h
    rw [hX]
    simp [Builtin.len_, ht, run_underlying hu]
  · cases h

theorem land_len_arr (hi : Inv N dep γ β s a w) {x : Operand} {k : Call} {t : TypeId} (ho : o.op = .call k) (hk : k.callee = .builtin .len) (ha : k.args.toList = [x]) (ht : k.argTypes[0]? = some t)
    {n : Nat} {e : TypeId} (hu : P.underlying t = some (.array n e)) : Land P N dep γ β s a w o (.c (.int .i64 n)) s := by
  have hr : (execOp a.eval o).run P w = .ok (.value (.int .i64 n)) w := by
    refine run_builtin ho hk ha fun cs => ?_
    simp [builtin, Builtin.len_, ht, run_underlying hu, goInt]
  exact Plain.land (plain_int .i64 n) hi hr

theorem foldC_ok (hi : Inv N dep γ β s a w) {g : C → C → Option C} {f : Value → Value → Sem Value}
    (hg : ∀ x y z u v p q, g x y = some z → RC γ β p x u → RC γ β q y v → Plain z (valC z) ∧ (f u v).run P w = .ok (valC z) w) :
    ∀ (xs : List Operand) (x z : C), Plain x (valC x) → foldC g x (xs.map (ev P 0 s.m)) = some z → Plain z (valC z) ∧ ((xs.map a.eval).foldlM f (valC x)).run P w = .ok (valC z) w
  | [], x, z, hp, h => by
    simp only [List.map_nil, foldC, Option.some.injEq] at h
    subst h
    exact ⟨hp, by simp⟩
  | y :: xs, x, z, hp, h => by
    simp only [List.map_cons] at h
    cases hy : ev P 0 s.m y with
    | c yc =>
      simp only [hy, foldC] at h
      split at h
      · rename_i z' hz'
        have hyr := (hi.ev P 0 y).1
        rw [hy] at hyr
        simp only [RV] at hyr
        obtain ⟨g1, g2⟩ := hg x yc z' (valC x) (a.eval y) none _ hz' (hp.1 _ _ _) hyr
        obtain ⟨h1, h2⟩ := foldC_ok hi hg xs z' z g1 h
        exact ⟨h1, by simp only [List.map_cons, List.foldlM_cons, Sem.run_bind, g2, Result.andThen_ok, h2]⟩
      · cases h
    | agg _ => simp [hy, foldC] at h
    | tup _ => simp [hy, foldC] at h
    | pe _ _ _ _ => simp [hy, foldC] at h
    | junk => simp [hy, foldC] at h
    | raw _ => simp [hy, foldC] at h

theorem minC_ok {x y z : C} {u v : Value} {p q : Option Pos} (h : minC x y = some z) (hx : RC γ β p x u) (hy : RC γ β q y v) : Plain z (valC z) ∧ (Builtin.min2 u v).run P w = .ok (valC z) w := by
  unfold minC at h
  split at h
  · simp only [Option.some.injEq] at h
    subst h
    simp only [RC] at hx hy
    subst hx hy
    exact ⟨plain_int _ _, by simp [Builtin.min2, valC]⟩
  · cases h

theorem maxC_ok {x y z : C} {u v : Value} {p q : Option Pos} (h : maxC x y = some z) (hx : RC γ β p x u) (hy : RC γ β q y v) : Plain z (valC z) ∧ (Builtin.max2 u v).run P w = .ok (valC z) w := by
  unfold maxC at h
  split at h
  · simp only [Option.some.injEq] at h
    subst h
    simp only [RC] at hx hy
    subst hx hy
    exact ⟨plain_int _ _, by simp [Builtin.max2, valC]⟩
  · cases h

theorem land_fold (hi : Inv N dep γ β s a w) {k : Call} {b : Go.Builtin} {g : C → C → Option C} {f : Value → Value → Sem Value} (ho : o.op = .call k) (hk : k.callee = .builtin b)
    (hb : ∀ cs x xs v w', (xs.foldlM f x).run P w = .ok v w' → (builtin b k.argTypes o.type cs (x :: xs).toArray).run P w = .ok (.value v) w')
    (hg : ∀ x y z u v p q, g x y = some z → RC γ β p x u → RC γ β q y v → Plain z (valC z) ∧ (f u v).run P w = .ok (valC z) w)
    {kd : IntKind} {n : Int} {r : List V} (hx : k.args.toList.map (ev P 0 s.m) = .c (.int kd n) :: r) {z : C} (h : foldC g (.int kd n) r = some z) : Land P N dep γ β s a w o (.c z) s := by
  cases ha : k.args.toList with
  | nil => simp [ha] at hx
  | cons y ys =>
    rw [ha] at hx
    simp only [List.map_cons, List.cons.injEq] at hx
    obtain ⟨h1, rfl⟩ := hx
    have hy := (hi.ev P 0 y).1
    rw [h1] at hy
    simp only [RV, RC] at hy
    obtain ⟨h2, h3⟩ := foldC_ok hi hg ys (.int kd n) z (plain_int _ _) h
    refine Plain.land h2 hi (run_builtin ho hk ha fun cs => hb cs _ _ _ _ ?_)
    rw [hy]
    exact h3

theorem land_min (hi : Inv N dep γ β s a w) {k : Call} (ho : o.op = .call k) (hk : k.callee = .builtin .min) {kd : IntKind} {n : Int} {r : List V} (hx : k.args.toList.map (ev P 0 s.m) = .c (.int kd n) :: r)
    {z : C} (h : foldC minC (.int kd n) r = some z) : Land P N dep γ β s a w o (.c z) s :=
  land_fold (f := Builtin.min2) hi ho hk (fun cs x xs v w' h => by simp [builtin, Builtin.min_, h]) (fun x y z u v p q h hx hy => minC_ok h hx hy) hx h

theorem land_max (hi : Inv N dep γ β s a w) {k : Call} (ho : o.op = .call k) (hk : k.callee = .builtin .max) {kd : IntKind} {n : Int} {r : List V} (hx : k.args.toList.map (ev P 0 s.m) = .c (.int kd n) :: r)
    {z : C} (h : foldC maxC (.int kd n) r = some z) : Land P N dep γ β s a w o (.c z) s :=
  land_fold (f := Builtin.max2) hi ho hk (fun cs x xs v w' h => by simp [builtin, Builtin.max_, h]) (fun x y z u v p q h hx hy => maxC_ok h hx hy) hx h

/-! ### A string's bytes -/

theorem bytesWorld_heap (w : World) (e : TypeId) (x : ByteArray) :
    (Lib.bytesWorld w e x).heap = (w.drew.alloc (.cells (Lib.bytesCells w e x) e ((Lib.bytesCells w e x).size, (Lib.bytesCells w e x).size + 1))).heap := by
  refine Array.ext_getElem? fun i => ?_
  rcases Nat.lt_trichotomy i w.heap.size with h | h | h
  · rw [Lib.bytesWorld_at_old w e x i h, heap_alloc_lt _ _ _ (by simpa using h)]
    rfl
  · subst h
    rw [Lib.bytesWorld_at_new]
    exact (heap_alloc_new w.drew _).symm
  · rw [Array.getElem?_eq_none (by rw [Lib.bytesWorld_size]; omega), Array.getElem?_eq_none (by simp; omega)]

theorem rowRole_ok' {n m : Nat} {vs : Array Value} {p : Pos} (hm : m = vs.size) (o : Nat) : RoleOK vs (vs.size, vs.size + 1) o (rowRole n m vs p o) := by
  unfold rowRole
  split
  · cases h : vs[o]? with
    | none => trivial
    | some v => exact h
  · split
    · exact ⟨by omega, .inl (by simp only; omega)⟩
    · trivial

theorem land_bytes (hi : Inv N dep γ β s a w) {src dst : TypeId} {x : Operand} (ho : o.op = .convert src dst x) (hk : (convKind P src dst).1 = 2) {c : C}
    (h : convV (convKind P src dst) (ev P src s.m x) = some c) : Land P N dep γ β s a w o (.c c) s := by
  have hty : ∃ e, P.underlying src = some .string ∧ P.underlying dst = some (.slice e) ∧ P.underlying e = some (.int .u8) := by
    unfold convKind at hk
    split at hk
    · simp at hk
    · rename_i e hs hd
      split at hk
      · rename_i he; exact ⟨e, hs, hd, he⟩
      · simp at hk
    · split at hk <;> simp at hk
    · simp at hk
    · simp at hk
    · simp at hk
  obtain ⟨e, hs, hd, he⟩ := hty
  unfold convV at h
  rw [hk] at h
  split at h
  · omega
  · rename_i l _ hx
    split at h
    · simp only [Option.some.injEq] at h
      subst h
      have hv := (hi.ev P src x).1
      rw [hx] at hv
      simp only [RV, RC] at hv
      let b : ByteArray := ⟨l.toArray⟩
      have hbs : b.size = l.length := rfl
      let zs : Array Value := Array.replicate (grownCap w b.size 0 e - b.size) (.int .u8 0)
      have hbc : Lib.bytesCells w e b = (byteCells b).toArray ++ zs := by
        unfold Lib.bytesCells byteCells
        congr 1
        apply Array.ext'
        simp
      have hg : b.size ≤ grownCap w b.size 0 e := grownCap_ge _ _ _ _
      have hsz : grownCap w b.size 0 e * 1 = (Lib.bytesCells w e b).size := by
        rw [hbc, Array.size_append]
        simp only [List.size_toArray, byteCells_length, zs, Array.size_replicate]
        omega
      have hr : (execOp a.eval o).run P w = .ok (.value (.slice (some ⟨w.heap.size, 0, none⟩) b.size (grownCap w b.size 0 e))) (Lib.bytesWorld w e b) := by
        have hc : (convert src dst (.string ⟨l.toArray⟩)).run P w = _ := Lib.run_convert_string_bytes w src dst e b hs hd he
        simp only [execOp, ho, hv, Sem.run_bind, hc, Result.andThen_ok, Sem.run_pure]
      let p : Pos := match o.dst with | some d => .tmp dep d | none => .tmp dep 0
      have hm := hi.clr o.dst
      have hI := ((hm.heap (w' := w.drew) rfl).add (Lib.bytesCells w e b) e ((Lib.bytesCells w e b).size, (Lib.bytesCells w e b).size + 1) (rowRole (b.size * 1) (grownCap w b.size 0 e * 1) (Lib.bytesCells w e b) p) (rowRole_ok' hsz) (fun o o' d k q h h' => rowRole_mix o o' d k q h h')).heap (bytesWorld_heap w e b)
      have hE := Ext.add (dep := dep) (fs := s.fs) (β := β) (hm.heap (w' := w.drew) rfl).gh (.cells (Lib.bytesCells w e b) e ((Lib.bytesCells w e b).size, (Lib.bytesCells w e b).size + 1)) (rowRole (b.size * 1) (grownCap w b.size 0 e * 1) (Lib.bytesCells w e b) p)
      refine ⟨_, _, _, _, β, hr, .inl rfl, hI, fun d hd => ?_, rfl, ((Ext.heap (w := w) (w' := w.drew) rfl rfl rfl rfl).trans hE (Shape.refl _ _)).trans (Ext.heap (bytesWorld_heap w e b) rfl rfl rfl) (Shape.refl _ _), Shape.refl _ _⟩
      have hp : p = .tmp dep d := by simp only [p, hd]
      have hvr : VR γ (bytesOf l).flatten (byteCells b) := by
        rw [bytesOf_flatten]
        refine ⟨by simp [byteCells, b], fun i d hd => ?_⟩
        simp only [List.getElem?_map, Option.map_eq_some_iff] at hd
        obtain ⟨u, hb, rfl⟩ := hd
        exact ⟨.int .u8 u.toNat, by simp [byteCells, hb, b], by simp only [RD]⟩
      have hmono : ∀ b' o v, γ b' o = .perm v → Gh.add γ w.drew.heap.size (rowRole (b.size * 1) (grownCap w b.size 0 e * 1) (Lib.bytesCells w e b) p) b' o = .perm v := fun b o v h => Gh.add_old (hm.heap (w' := w.drew) rfl).gh h (by simp)
      simp only [RV, RC]
      refine ⟨_, _, _, rfl, ⟨by simp [bytesOf, hbs], hg, ?_, (fun h => by cases h), fun ad had => ?_⟩, ?_⟩
      · intro e' he'
        simp only [bytesOf, List.mem_map] at he'
        obtain ⟨u, _, rfl⟩ := he'
        rfl
      · cases had
        refine ⟨fun _ => rfl, RRow.of_vr (hvr.mono hmono) fun i v hv' => ?_⟩
        have hlt := (List.getElem?_eq_some_iff.1 hv').1
        rw [byteCells_length] at hlt
        simp only [Gh.add, Nat.zero_add]
        rw [if_pos (show w.heap.size = w.drew.heap.size from rfl)]
        unfold rowRole
        rw [if_pos (by omega), hbc, Array.getElem?_append_left (by simpa [byteCells_length] using hlt)]
        simp [hv']
      · simp only [KOK]
        intro ad had o' h1 h2
        cases had
        simp only [Nat.zero_add] at h1 h2
        simp only [Gh.add]
        rw [if_pos (show w.heap.size = w.drew.heap.size from rfl)]
        unfold rowRole
        rw [if_neg (by omega), if_pos h2, hp]
    · cases h
  · omega
  · omega
  · omega
  · cases h

/-! ### New objects -/

theorem newObj_ok {g : Bool} {s s' : S} {cs : List C} {p : C} (h : newObj g s cs = some (p, s')) (hlen : s.fs.length = dep + 1) :
    ∃ d k fs', p = .ptr d k 0 ∧ s' = { s with fs := fs' } ∧ look s.fs d k = none ∧ fs'.length = s.fs.length ∧
      (∀ d' k', look fs' d' k' = if d' = d ∧ k' = k then some cs else look s.fs d' k') ∧ d ≤ dep ∧ ((d = 0 ∧ C.leL 0 cs = true) ∨ d = dep) ∧ Shape dep s.fs fs' := by
  unfold newObj at h
  split at h
  · cases h
  · rename_i f r hfs
    rw [hfs] at hlen
    simp only [List.length_cons, Nat.add_right_cancel_iff] at hlen
    split at h
    · split at h
      · rename_i k r' hp
        split at h
        · rename_i hle
          simp only [Option.some.injEq, Prod.mk.injEq] at h
          obtain ⟨rfl, rfl⟩ := h
          obtain ⟨h1, h2, h3⟩ := pushBot_ok cs r k r' hp
          have hr : 0 < r.length := by
            cases r with
            | nil => simp [pushBot] at hp
            | cons _ _ => simp
          have hl : ∀ d' k', look (f :: r') d' k' = if d' = 0 ∧ k' = k then some cs else look (f :: r) d' k' := fun d' k' => by
            simp only [look, h1]
            by_cases hd : d' = r.length
            · rw [if_pos hd, if_pos hd, if_neg (by omega)]
            · rw [if_neg hd, if_neg hd, h3]
          refine ⟨0, k, f :: r', rfl, rfl, ?_, by simp [hfs, h1], ?_, Nat.zero_le _, .inl ⟨rfl, hle⟩, ?_⟩
          · rw [hfs, look, if_neg (by omega)]; exact h2
          · intro d' k'; rw [hfs]; exact hl d' k'
          · intro d' k' h1 h2
            rw [hfs, hl, if_neg (by omega)]
        · cases h
      · cases h
    · simp only [Option.some.injEq, Prod.mk.injEq] at h
      obtain ⟨rfl, rfl⟩ := h
      have hl := look_push f r cs
      refine ⟨r.length, f.length, (f ++ [cs]) :: r, rfl, rfl, ?_, by simp [hfs], ?_, by omega, .inr hlen, ?_⟩
      · rw [hfs]; simp [look]
      · intro d' k'; rw [hfs]; exact hl d' k'
      · intro d' k' h1 h2
        rw [hfs, hl, if_neg (by omega)]

/-- A new block that is an object. -/
theorem land_new {γ₁ : Gh} {g : Bool} {m' : M} {s' : S} {p : C} {cs : List C} {vs : Array Value} {ty : TypeId} {v : V} {u : Value} (hm : Inv N dep γ₁ β { s with m := clr o.dst m' } a w) (hx : Ext dep s.fs γ β w γ₁ β w)
    (hr : (execOp a.eval o).run P w = .ok (.value u) (w.alloc (.cells vs ty))) (hn : newObj g { s with m := m' } cs = some (p, s')) (hle : C.leL dep cs = true) (hs : vs.size = cs.length)
    (hc : ∀ d k, p = .ptr d k 0 → ∀ i c, cs[i]? = some c → ∃ x, vs[i]? = some x ∧ RC γ₁ β (some (.obj d k i)) c x)
    (hv : ∀ d k γ' β' q, p = .ptr d k 0 → d ≤ dep → β' d k = some w.heap.size → RV γ' β' q v u ∧ v.le dep = true) : Land P N dep γ β s a w o v s' := by
  obtain ⟨d, k, fs', rfl, rfl, h1, h2, h3, h4, h5, h6⟩ := newObj_ok hn hm.len
  let ρ : Nat → Role := fun o => if o < cs.length then .obj d k else .none
  have hA := hm.add vs ty (0, 0) ρ (fun o => by
    simp only [ρ]
    split
    · exact ⟨by omega, .inr (by simp)⟩
    · trivial) (fun o o' d' k' p h h' => by
    simp only [ρ] at h'
    split at h' <;> cases h')
  have hle' : C.leL d cs = true := by
    rcases h5 with ⟨rfl, h5⟩ | rfl
    · exact h5
    · exact hle
  have hO := hA.obj fs' d k cs w.heap.size vs ty (0, 0) h1 h2 h3 hle' (heap_alloc_new w _) hs h4 (fun i c hi => by
    obtain ⟨x, hx, hrc⟩ := hc d k rfl i c hi
    refine ⟨?_, x, hx, RC.perm (fun b o v e => Gh.add_old hm.gh e (by simp)) (fun q _ b o e => Gh.add_old hm.gh e (by simp)) _ _ hrc⟩
    simp only [Gh.add, if_true, ρ]
    rw [if_pos (List.getElem?_eq_some_iff.1 hi).1])
  refine ⟨_, u, _, _, _, hr, .inl rfl, hO, fun d' _ => ?_, ?_, (hx.trans (Ext.add hm.gh _ ρ) (Shape.refl _ _)).trans (Ext.obj (fs₂ := s.fs) hA.dom h1) (Shape.refl _ _), h6⟩
  · exact (hv d k _ _ _ rfl h4 (by simp [Bl.add])).1
  · exact (hv d k γ (Bl.add β d k w.heap.size) none rfl h4 (by simp [Bl.add])).2

end

end Go.Ev
