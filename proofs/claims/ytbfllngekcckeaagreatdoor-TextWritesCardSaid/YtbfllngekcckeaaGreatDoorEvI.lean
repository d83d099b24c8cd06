/- Operations that turn nothing in memory, second part. -/
import Derived.Test.YtbfllngekcckeaaGreatDoorEvH
set_option linter.unusedSimpArgs false
namespace Go.Ev

theorem Addr.add_none (b o n : Nat) : (⟨b, o, none⟩ : Addr).add n = ⟨b, o + n, none⟩ := by unfold Addr.add; split <;> simp_all

section
variable {P : Program} {N dep : Nat} {γ : Gh} {β : Bl} {s : S} {a : Act} {w : World} {o : Oper}

theorem RRow.get : ∀ (es : List (List D)) (z b o : Nat), RRow γ b o es → (∀ e ∈ es, e.length = z) → ∀ (i : Nat) (e : List D), es[i]? = some e → REl γ b (o + i * z) e
  | [], _, _, _, _, _, i, e, h => by simp at h
  | x :: es, z, b, o, hr, hz, i, e, h => by
    simp only [RRow] at hr
    cases i with
    | zero => simp at h; subst h; simpa using hr.1
    | succ i =>
      simp at h
      have hx := hz x (by simp)
      have := RRow.get es z b (o + x.length) hr.2 (fun e he => hz e (by simp [he])) i e h
      rwa [hx, show o + z + i * z = o + (i + 1) * z by rw [Nat.succ_mul]; omega] at this

theorem RRow.drop : ∀ (n : Nat) (es : List (List D)) (z b o : Nat), RRow γ b o es → (∀ e ∈ es, e.length = z) → RRow γ b (o + n * z) (es.drop n)
  | 0, es, z, b, o, hr, _ => by simpa using hr
  | n + 1, [], z, b, o, _, _ => by simp only [List.drop_nil, RRow]
  | n + 1, x :: es, z, b, o, hr, hz => by
    simp only [RRow] at hr
    have := RRow.drop n es z b (o + x.length) hr.2 (fun e he => hz e (by simp [he]))
    rw [hz x (by simp)] at this
    rw [show o + (n + 1) * z = o + z + n * z by rw [Nat.succ_mul]; omega]
    simpa using this

theorem RRow.take : ∀ (n : Nat) (es : List (List D)) (b o : Nat), RRow γ b o es → RRow γ b o (es.take n)
  | 0, es, b, o, _ => by simp only [List.take_zero, RRow]
  | n + 1, [], b, o, _ => by simp only [List.take_nil, RRow]
  | n + 1, x :: es, b, o, hr => by
    simp only [RRow] at hr
    simp only [List.take_succ_cons, RRow]
    exact ⟨hr.1, RRow.take n es b _ hr.2⟩

theorem ifc_ok {t : TypeId} (h : isIface P t = false) : ∃ d, P.underlying t = some d ∧ ∀ m, d ≠ .interface m := by
  unfold isIface at h
  split at h
  · cases h
  · cases h
  · rename_i x h1 h2
    cases hu : P.underlying t with
    | none => exact absurd hu h2
    | some d => exact ⟨d, rfl, fun m e => h1 m (by rw [hu, e])⟩

theorem land_makeInterface (hi : Inv N dep γ β s a w) {t : TypeId} {x : Operand} (ho : o.op = .makeInterface t x) (hf : isIface P t = false) {c : C}
    (hc : (∃ y, ev P t s.m x = .c y ∧ c = .ifc t false [y.strip]) ∨ ∃ cs, ev P t s.m x = .agg cs ∧ c = .ifc t true (cs.map C.strip)) : Land P N dep γ β s a w o (.c c) s := by
  obtain ⟨d, hu, hn⟩ := ifc_ok hf
  have hr : (execOp a.eval o).run P w = .ok (.value (.iface t (a.eval x))) w := by
    simp only [execOp, ho, Instr.makeInterface, Sem.run_bind, run_underlying hu, Result.andThen_ok]
    cases d <;> first | exact absurd rfl (hn _) | rfl
  obtain ⟨h1, h2⟩ := hi.ev P t x
  rcases hc with ⟨y, hy, rfl⟩ | ⟨cs, hy, rfl⟩
  · rw [hy] at h1 h2
    simp only [RV] at h1
    simp only [V.le] at h2
    refine Land.pure hi hr ?_ ?_
    · simp only [RV, RC]
      exact ⟨_, rfl, .inr ⟨trivial, by simp only [RCs]; exact ⟨RC.none_of _ _ h1, trivial⟩⟩⟩
    · simp only [V.le, C.le, C.leL, C.le_strip, h2, Bool.and_self]
  · rw [hy] at h1 h2
    simp only [RV] at h1
    simp only [V.le] at h2
    obtain ⟨X, hX, h3⟩ := h1
    refine Land.pure hi hr ?_ ?_
    · simp only [RV, RC]
      refine ⟨_, rfl, .inl ⟨trivial, X, hX, RCs.mk (by simpa using (RCs.get h3).1) fun i c hc => ?_⟩⟩
      simp only [List.getElem?_map, Option.map_eq_some_iff] at hc
      obtain ⟨c', hc', rfl⟩ := hc
      obtain ⟨v, h4, h5⟩ := (RCs.get h3).2 i c' hc'
      exact ⟨v, h4, RC.none_of _ _ h5⟩
    · simp only [V.le, C.le, C.leL_strip, h2]

theorem vcs_ok (hi : Inv N dep γ β s a w) : ∀ (xs : List Operand) (cs : List C), vcs (xs.map fun x => (ev P 0 s.m x).strip) = some cs → RCs γ β cs (xs.map a.eval) ∧ C.leL dep cs = true
  | [], cs, h => by simp only [List.map_nil, vcs, Option.some.injEq] at h; subst h; exact ⟨by simp only [List.map_nil, RCs], rfl⟩
  | x :: xs, cs, h => by
    simp only [List.map_cons] at h
    obtain ⟨h1, h2⟩ := hi.ev0 P 0 x none
    generalize (ev P 0 s.m x).strip = v at h h1 h2
    cases v with
    | c y =>
      simp only [vcs] at h
      cases e : vcs (xs.map fun x => (ev P 0 s.m x).strip) with
      | none => simp [e] at h
      | some ys =>
        simp only [e, Option.some.injEq] at h
        subst h
        obtain ⟨h3, h4⟩ := vcs_ok hi xs ys e
        simp only [RV] at h1
        simp only [V.le] at h2
        exact ⟨by simp only [List.map_cons, RCs]; exact ⟨h1, h3⟩, by simp only [C.leL, h2, h4, Bool.and_self]⟩
    | agg _ => simp [vcs] at h
    | tup _ => simp [vcs] at h
    | pe _ _ _ _ => simp [vcs] at h
    | junk => simp [vcs] at h
    | raw _ => simp [vcs] at h

theorem land_makeFunc (hi : Inv N dep γ β s a w) {fn : Fn} {x y : Array Operand} (ho : o.op = .makeFunc fn x y) {cx cy : List C}
    (h1 : vcs (x.toList.map fun x => (ev P 0 s.m x).strip) = some cx) (h2 : vcs (y.toList.map fun x => (ev P 0 s.m x).strip) = some cy) : Land P N dep γ β s a w o (.c (.fn fn cx cy)) s := by
  obtain ⟨g1, g2⟩ := vcs_ok hi _ _ h1
  obtain ⟨g3, g4⟩ := vcs_ok hi _ _ h2
  refine Land.pure hi (u := .func fn (x.map a.eval) (y.map a.eval)) (by simp [execOp, ho, Instr.makeFunc]) ?_ ?_
  · simp only [RV, RC]
    exact ⟨_, _, rfl, by simpa using g1, by simpa using g3⟩
  · simp only [V.le, C.le, g2, g4, Bool.and_self]

theorem RVs.get : ∀ {cs : List V} {vs : List Value}, RVs γ β cs vs → ∀ (i : Nat) (c : V), cs[i]? = some c → ∃ v, vs[i]? = some v ∧ RV1 γ β c v
  | [], [], _, i, c, h => by simp at h
  | [], _ :: _, e, _, _, _ => by simp only [RVs] at e
  | _ :: _, [], e, _, _, _ => by simp only [RVs] at e
  | c :: cs, v :: vs, e, i, x, hx => by
    simp only [RVs] at e
    cases i with
    | zero => simp at hx; subst hx; exact ⟨v, rfl, e.1⟩
    | succ i => simp at hx ⊢; exact RVs.get e.2 i x hx

theorem RV1.toRV : ∀ {x : V} {v : Value}, RV1 γ β x v → x.le1 dep = true → RV γ β none x v ∧ x.le dep = true
  | .c x, v, h, hl => ⟨by simpa only [RV, RV1] using h, hl⟩
  | .agg x, v, h, hl => ⟨by simpa only [RV, RV1] using h, hl⟩
  | .tup _, v, h, _ => by simp only [RV1] at h
  | .pe .., v, h, _ => by simp only [RV1] at h
  | .junk, v, h, _ => ⟨by simp only [RV], rfl⟩
  | .raw _, v, h, _ => by simp only [RV1] at h

theorem land_extract (hi : Inv N dep γ β s a w) {t i : Nat} (ho : o.op = .extract (.tmp t) i) {vs : List V} (ht : getT s.m t = .tup vs) {v : V} (hv : vs[i]? = some v) : Land P N dep γ β s a w o v s := by
  have h1 := hi.tm t
  have h2 := hi.tle t
  rw [ht] at h1 h2
  simp only [RV] at h1
  simp only [V.le] at h2
  obtain ⟨X, hX, h3⟩ := h1
  obtain ⟨u, hu, h4⟩ := RVs.get h3 i v hv
  obtain ⟨h5, h6⟩ := RV1.toRV h4 (List.all_eq_true.1 h2 v (List.mem_of_getElem? hv))
  refine Land.pure hi ?_ h5 h6
  have : a.eval (.tmp t) = .tuple X := hX
  have hu' : X[i]? = some u := by simpa using hu
  simp [execOp, ho, this, Instr.extract, hu']

theorem readV_part {t : TypeId} {cs : List C} {X : Array Value} {off : Nat} {v : V} (hx : RCs γ β cs X.toList) (h : readV P t (cs.drop off) = some v) (hl : C.leL dep cs = true) :
    ∃ u, (part t X off).run P w = .ok u w ∧ RV γ β none v.strip u ∧ v.strip.le dep = true := by
  unfold readV at h
  have hd := RCs.drop off hx
  have hl' : C.leL dep (cs.drop off) = true := C.leL_mem.2 fun c hc => C.leL_mem.1 hl c (List.mem_of_mem_drop hc)
  split at h
  · cases h
  · rename_i ha
    split at h
    · rename_i n hn
      split at h
      · rename_i hle
        simp only [Option.some.injEq] at h
        subst h
        refine ⟨_, run_part' X off w ha hn, ?_, ?_⟩
        · simp only [V.strip, RV]
          refine ⟨_, rfl, ?_⟩
          have e : (X.extract off (off + n)).toList = (X.toList.drop off).take n := by simp
          rw [e]
          have := RCs.take n hd
          refine RCs.mk (by simpa using (RCs.get this).1) fun i c hc => ?_
          simp only [List.getElem?_map, Option.map_eq_some_iff] at hc
          obtain ⟨c', hc', rfl⟩ := hc
          obtain ⟨v, h4, h5⟩ := (RCs.get this).2 i c' hc'
          exact ⟨v, h4, RC.none_of _ _ h5⟩
        · simp only [V.strip, V.le, C.leL_strip]
          exact C.leL_mem.2 fun c hc => C.leL_mem.1 hl' c (List.mem_of_mem_take hc)
      · cases h
    · cases h
  · rename_i ha
    split at h
    · rename_i x r hr
      simp only [Option.some.injEq] at h
      subst h
      rw [hr] at hd hl'
      obtain ⟨u, hu, h4⟩ := (RCs.get hd).2 0 x rfl
      have hu' : X[off]? = some u := by simpa using hu
      refine ⟨u, run_part1 X off w ha hu', by simp only [V.strip, RV]; exact RC.none_of _ _ h4, ?_⟩
      simp only [V.strip, V.le, C.le_strip]
      simp only [C.leL, Bool.and_eq_true] at hl'
      exact hl'.1
    · cases h

theorem lay_ok {t : TypeId} {i off n : Nat} {ft : TypeId} (h : (lay P t)[i]? = some (off, n, ft)) : ∃ fs f, P.underlying t = some (.struct fs) ∧ fs[i]? = some f ∧ f.offset = off ∧ (sz P f.type).getD 0 = n ∧ f.type = ft := by
  unfold lay at h
  split at h
  · rename_i fs hu
    simp only [List.getElem?_map, Option.map_eq_some_iff, Prod.mk.injEq] at h
    obtain ⟨f, hf, h1, h2, h3⟩ := h
    exact ⟨fs, f, hu, by simpa using hf, h1, h2, h3⟩
  · simp at h

theorem land_field (hi : Inv N dep γ β s a w) {t i : Nat} {x : Operand} (ho : o.op = .field t x i) {off n : Nat} {ft : TypeId} (hl : (lay P t)[i]? = some (off, n, ft)) {cs : List C} (hx : ev P 0 s.m x = .agg cs)
    {v : V} (hv : readV P ft (cs.drop off) = some v) : Land P N dep γ β s a w o v.strip s := by
  obtain ⟨fs, f, hu, hf, rfl, _, rfl⟩ := lay_ok hl
  obtain ⟨h1, h2⟩ := hi.ev P 0 x
  rw [hx] at h1 h2
  simp only [RV] at h1
  simp only [V.le] at h2
  obtain ⟨X, hX, h3⟩ := h1
  obtain ⟨u, h4, h5, h6⟩ := readV_part (w := w) h3 hv h2
  refine Land.pure hi ?_ h5 h6
  simp [execOp, ho, Instr.field, run_underlying hu, hf, hX, asAgg, h4]

theorem land_index_str (hi : Inv N dep γ β s a w) {t : TypeId} {x i : Operand} (ho : o.op = .index t x i) {k : IntKind} {n : Int} (hn : ev P 0 s.m i = .c (.int k n)) {l : List UInt8} (hx : ev P 0 s.m x = .c (.str l))
    (ht : P.underlying t = some .string) (h0 : 0 ≤ n) {u : UInt8} (hu : l[n.toNat]? = some u) : Land P N dep γ β s a w o (.c (.int .u8 u.toNat)) s := by
  have h1 := (hi.ev P 0 x).1
  have h2 := (hi.ev P 0 i).1
  rw [hx] at h1
  rw [hn] at h2
  simp only [RV, RC] at h1 h2
  refine Plain.land (plain_int _ _) hi ?_
  have hb : (⟨l.toArray⟩ : ByteArray)[n.toNat]? = some u := by
    have : (⟨l.toArray⟩ : ByteArray)[n.toNat]? = l.toArray[n.toNat]? := rfl
    rw [this]
    simpa using hu
  simp [execOp, ho, Instr.index, h1, h2, asIntOf, run_underlying ht, h0, hb]

theorem land_index_arr (hi : Inv N dep γ β s a w) {t e : TypeId} {len z : Nat} {x i : Operand} (ho : o.op = .index t x i) {k : IntKind} {n : Int} (hn : ev P 0 s.m i = .c (.int k n)) {cs : List C} (hx : ev P 0 s.m x = .agg cs)
    (ht : P.underlying t = some (.array len e)) (h0 : 0 ≤ n ∧ n < len) (hz : sz P e = some z) {v : V} (hv : readV P e (cs.drop (n.toNat * z)) = some v) : Land P N dep γ β s a w o v.strip s := by
  obtain ⟨h1, h1'⟩ := hi.ev P 0 x
  have h2 := (hi.ev P 0 i).1
  rw [hx] at h1 h1'
  rw [hn] at h2
  simp only [RV] at h1
  simp only [V.le] at h1'
  simp only [RV, RC] at h2
  obtain ⟨X, hX, h3⟩ := h1
  obtain ⟨u, h4, h5, h6⟩ := readV_part (w := w) h3 hv h1'
  refine Land.pure hi ?_ h5 h6
  simp [execOp, ho, Instr.index, hX, h2, asIntOf, run_underlying ht, h0, run_sizeOf' hz, h4]

theorem elemSz_ok {t z : Nat} (h : z = elemSz P t) (h0 : 0 < z) : ∃ e, P.underlying t = some (.slice e) ∧ sz P e = some z := by
  unfold elemSz elemT at h
  split at h
  · rename_i e hu
    cases hs : sz P e with
    | none => simp [hs] at h; omega
    | some n => simp [hs] at h; subst h; exact ⟨e, hu, hs⟩
  · simp at h; omega

theorem land_indexAddr_sl (hi : Inv N dep γ β s a w) {t : TypeId} {x i : Operand} (ho : o.op = .indexAddr t x i) {k : IntKind} {n : Int} (hn : ev P 0 s.m i = .c (.int k n)) {kd : K} {z : Nat} {es : List (List D)} (hx : ev P 0 s.m x = .c (.sl kd z es))
    (h0 : 0 ≤ n ∧ n < es.length) (hz : z = elemSz P t ∧ 0 < z) : Land P N dep γ β s a w o (.pe z es n.toNat 0) s := by
  have h1 := (hi.ev P 0 x).1
  have h2 := (hi.ev P 0 i).1
  rw [hx] at h1
  rw [hn] at h2
  simp only [RV, RC] at h1 h2
  obtain ⟨e, hu, hs⟩ := elemSz_ok hz.1 hz.2
  obtain ⟨ad, len, cap, hX, ⟨g1, g2, g3, g4, g5⟩, _⟩ := h1
  cases ad with
  | none =>
    have := (g4 rfl).1
    subst this
    simp at h0
    omega
  | some ad =>
    obtain ⟨g6, g7⟩ := g5 ad rfl
    obtain ⟨b, o', sp⟩ := ad
    simp only at g6
    obtain rfl := g6 (by omega)
    have hlt : n.toNat < es.length := by omega
    refine Land.pure hi (u := .pointer (some ⟨b, o' + n.toNat * z, none⟩)) ?_ ?_ rfl
    · simp [execOp, ho, Instr.indexAt, hX, h2, asIntOf, run_underlying hu, run_sizeOf' hs, Addr.add_none, g1, h0]
    · simp only [RV]
      exact ⟨b, _, es[n.toNat], rfl, List.getElem?_eq_getElem hlt, by simpa using RRow.get es z b o' g7 g3 _ _ (List.getElem?_eq_getElem hlt)⟩

theorem land_indexAddr_asl (hi : Inv N dep γ β s a w) {t : TypeId} {x i : Operand} (ho : o.op = .indexAddr t x i) {k : IntKind} {n : Int} (hn : ev P 0 s.m i = .c (.int k n)) {d k' off len cap z : Nat} (hx : ev P 0 s.m x = .c (.asl d k' off len cap z))
    (h0 : 0 ≤ n ∧ n < len) (hz : z = elemSz P t ∧ 0 < z) : Land P N dep γ β s a w o (.c (.ptr d k' (off + n.toNat * z))) s := by
  obtain ⟨h1, h1'⟩ := hi.ev P 0 x
  have h2 := (hi.ev P 0 i).1
  rw [hx] at h1 h1'
  rw [hn] at h2
  simp only [RV, RC] at h1 h2
  obtain ⟨e, hu, hs⟩ := elemSz_ok hz.1 hz.2
  obtain ⟨b, o', hb, hX, g1, g2⟩ := h1
  have : o' = off := g2.resolve_left (by omega)
  subst this
  refine Land.pure hi (u := .pointer (some ⟨b, o' + n.toNat * z, none⟩)) ?_ ?_ ?_
  · simp [execOp, ho, Instr.indexAt, hX, h2, asIntOf, run_underlying hu, run_sizeOf' hs, Addr.add_none, h0]
  · simp only [RV, RC]
    exact ⟨b, hb, rfl⟩
  · simpa only [V.le, C.le] using h1'

theorem land_indexAddr_arr (hi : Inv N dep γ β s a w) {t e : TypeId} {x i : Operand} (ho : o.op = .indexAddr t x i) {k : IntKind} {n : Int} (hn : ev P 0 s.m i = .c (.int k n)) {d k' p len z : Nat} (hx : ev P 0 s.m x = .c (.ptr d k' p))
    (ht : P.underlying t = some (.array len e)) (h0 : 0 ≤ n ∧ n < len) (hs : sz P e = some z) : Land P N dep γ β s a w o (.c (.ptr d k' (p + n.toNat * z))) s := by
  obtain ⟨h1, h1'⟩ := hi.ev P 0 x
  have h2 := (hi.ev P 0 i).1
  rw [hx] at h1 h1'
  rw [hn] at h2
  simp only [RV, RC] at h1 h2
  obtain ⟨b, hb, hX⟩ := h1
  refine Land.pure hi (u := .pointer (some ⟨b, p + n.toNat * z, none⟩)) ?_ ?_ ?_
  · simp [execOp, ho, Instr.indexAt, Instr.sureAddr, hX, h2, asIntOf, run_underlying ht, run_sizeOf' hs, Addr.add_none, h0]
  · simp only [RV, RC]
    exact ⟨b, hb, rfl⟩
  · simpa only [V.le, C.le] using h1'

theorem land_fieldAddr (hi : Inv N dep γ β s a w) {t i : Nat} {x : Operand} (ho : o.op = .fieldAddr t x i) {off n : Nat} {ft : TypeId} (hl : (lay P t)[i]? = some (off, n, ft)) (hn : n ≠ 0) {v : V}
    (hv : (∃ z es j k, ev P 0 s.m x = .pe z es j k ∧ v = .pe z es j (k + off)) ∨ ∃ d k p, ev P 0 s.m x = .c (.ptr d k p) ∧ v = .c (.ptr d k (p + off))) : Land P N dep γ β s a w o v s := by
  obtain ⟨fs, f, hu, hf, rfl, hs, rfl⟩ := lay_ok hl
  have hs' : sz P f.type = some n := by
    cases h : sz P f.type with
    | none => simp [h] at hs; omega
    | some m => simp [h] at hs; subst hs; rfl
  obtain ⟨h1, h1'⟩ := hi.ev P 0 x
  rcases hv with ⟨z, es, j, k, hx, rfl⟩ | ⟨d, k, p, hx, rfl⟩
  · rw [hx] at h1
    simp only [RV] at h1
    obtain ⟨b, o', e, hX, h2, h3⟩ := h1
    refine Land.pure hi (u := .pointer (some ⟨b, o' + f.offset, none⟩)) ?_ ?_ rfl
    · simp [execOp, ho, Instr.fieldAt, Instr.sureAddr, run_underlying hu, hf, hX, fieldPlace, run_sizeOf' hs', hn, Addr.add_none]
    · simp only [RV]
      refine ⟨b, _, e, rfl, h2, ?_⟩
      have := REl.drop f.offset _ _ _ h3
      rwa [List.drop_drop] at this
  · rw [hx] at h1 h1'
    simp only [RV, RC] at h1
    obtain ⟨b, hb, hX⟩ := h1
    refine Land.pure hi (u := .pointer (some ⟨b, p + f.offset, none⟩)) ?_ ?_ ?_
    · simp [execOp, ho, Instr.fieldAt, Instr.sureAddr, run_underlying hu, hf, hX, fieldPlace, run_sizeOf' hs', hn, Addr.add_none]
    · simp only [RV, RC]
      exact ⟨b, hb, rfl⟩
    · simpa only [V.le, C.le] using h1'

end

end Go.Ev
