/- Objects: alloc, box, literals, load, store, copy. -/
import Derived.Test.YtbfllngekcckeaaGreatDoorEvL
set_option linter.unusedSimpArgs false
namespace Go.Ev

mutual
theorem C.le_mono {d e : Nat} (h : d ≤ e) : ∀ c : C, C.le d c = true → C.le e c = true
  | .ptr d' _ _, hc => by simp only [C.le, decide_eq_true_eq] at hc ⊢; omega
  | .asl d' _ _ _ _ _, hc => by simp only [C.le, decide_eq_true_eq] at hc ⊢; omega
  | .fn _ a b, hc => by
    simp only [C.le, Bool.and_eq_true] at hc ⊢
    exact ⟨C.leL_mono h a hc.1, C.leL_mono h b hc.2⟩
  | .ifc _ _ cs, hc => by
    simp only [C.le] at hc ⊢
    exact C.leL_mono h cs hc
  | .bool _, _ | .int _ _, _ | .str _, _ | .sl .., _ | .nilp, _ | .nilfn, _ | .nilif, _ | .someif, _ => rfl
theorem C.leL_mono {d e : Nat} (h : d ≤ e) : ∀ cs : List C, C.leL d cs = true → C.leL e cs = true
  | [], _ => rfl
  | c :: cs, hc => by
    simp only [C.leL, Bool.and_eq_true] at hc ⊢
    exact ⟨C.le_mono h c hc.1, C.leL_mono h cs hc.2⟩
end

section
variable {P : Program} {N dep : Nat} {γ : Gh} {β : Bl} {s : S} {a : Act} {w : World} {o : Oper}

theorem zeroC_ok {t : TypeId} {cs : List C} (h : zeroC P t = some cs) : ∃ i v, P.info? t = some i ∧ i.zero = some v ∧ constCs v.cells.toList = some cs := by
  unfold zeroC at h
  cases hi : P.info? t with
  | none => simp [hi] at h
  | some i =>
    cases hz : i.zero with
    | none => simp [hi, hz] at h
    | some v =>
      simp only [hi, hz, Option.bind_some] at h
      exact ⟨i, v, rfl, hz, h⟩

theorem land_alloc (hi : Inv N dep γ β s a w) {t : TypeId} (ho : o.op = .alloc t) {cs : List C} (hz : zeroC P t = some cs) {g : Bool} {p : C} {s' : S} (hn : newObj g s cs = some (p, s')) : Land P N dep γ β s a w o (.c p) s' := by
  obtain ⟨i, v, h1, h2, h3⟩ := zeroC_ok hz
  obtain ⟨h4, h5⟩ := constCs_ok (γ := γ) (β := β) _ _ h3
  obtain ⟨g1, g2⟩ := RCs.get h4
  have hr : (execOp a.eval o).run P w = .ok (.value (.pointer (some ⟨w.heap.size, 0, none⟩))) (w.alloc (.cells v.cells t)) := by
    simp [execOp, ho, Instr.alloc, zeroValue, typeInfo, h1, h2, newVar, newRow]
  refine land_new (vs := v.cells) (hi.clr o.dst) (Ext.refl _ _ _ _ _) hr hn (h5 dep) (by simpa using g1.symm) (fun d k _ i c hc => ?_) (fun d k γ' β' q hp hd hb => ?_)
  · obtain ⟨u, hu, hrc⟩ := g2 i c hc
    exact ⟨u, by simpa using hu, RC.of_none _ _ _ hrc⟩
  · subst hp
    exact ⟨by simp only [RV, RC]; exact ⟨_, hb, rfl⟩, by simpa only [V.le, C.le, decide_eq_true_eq] using hd⟩

theorem V.cells_le {x : V} {cs : List C} (h : x.cells = some cs) (hl : x.le dep = true) : C.leL dep cs = true := by
  cases x with
  | c y => simp only [V.cells, Option.some.injEq] at h; subst h; simpa [C.leL, V.le] using hl
  | agg ys => simp only [V.cells, Option.some.injEq] at h; subst h; simpa [V.le] using hl
  | tup _ => simp [V.cells] at h
  | pe _ _ _ _ => simp [V.cells] at h
  | junk => simp [V.cells] at h
  | raw _ => simp [V.cells] at h

/-- A value's cells in an object: they take the right to append along. -/
theorem Inv.into (hi : Inv N dep γ β s a w) (t : TypeId) (x : Operand) {cs : List C} (hc : (Ev.ev P t s.m x).cells = some cs) (d k off : Nat) :
    ∃ γ₁, Inv N dep γ₁ β { s with m := (give s x).m } a w ∧ Ext dep s.fs γ β w γ₁ β w ∧ (a.eval x).cells.size = cs.length ∧
      (∀ i c, cs[i]? = some c → ∃ u, (a.eval x).cells[i]? = some u ∧ RC γ₁ β (some (.obj d k (off + i))) c u) ∧ ∀ u ∈ (a.eval x).cells.toList, u.oneCell' = true := by
  obtain ⟨hv, hl⟩ := hi.ev P t x
  have one : ∀ {c : C} {u : Value} {p : Option Pos}, RC γ β p c u → ∀ y ∈ (#[u] : Array Value).toList, y.oneCell' = true := fun h y hy => by
    simp at hy; subst hy; exact h.one
  rcases hv.cells hc with ⟨c, h1, rfl, h2, h3⟩ | ⟨h1, h2⟩
  · cases x with
    | tmp n =>
      by_cases hs : (getT s.m n).hasSl = true
      · refine ⟨relabel γ (.tmp dep n) (.obj d k off), ?_, Ext.relabel, by rw [h2]; rfl, fun i c' hi' => ?_, by rw [h2]; exact one h3⟩
        · simp only [give, hs, if_true]
          exact hi.gives n _
        · cases i with
          | succ i => simp at hi'
          | zero =>
            simp at hi'
            subst hi'
            refine ⟨a.eval (.tmp n), by rw [h2]; rfl, ?_⟩
            have := RV.moves (p := .tmp dep n) (q := .obj d k off) (.c c) _ (by simp only [RV]; exact h3)
            simpa only [RV, Nat.add_zero] using this
      · refine ⟨γ, ?_, Ext.refl _ _ _ _ _, by rw [h2]; rfl, fun i c' hi' => ?_, by rw [h2]; exact one h3⟩
        · simp only [give, if_neg hs]; exact hi
        · cases i with
          | succ i => simp at hi'
          | zero =>
            simp at hi'
            subst hi'
            refine ⟨a.eval (.tmp n), by rw [h2]; rfl, ?_⟩
            have h4 := RV.strip_of (q := some (.obj d k (off + 0))) (.c c) _ (by simpa only [RV] using h3)
            have h5 : getT s.m n = .c c := h1
            rw [V.strip_id _ (by rw [← h5]; simpa using hs)] at h4
            simpa only [RV] using h4
    | const v =>
      refine ⟨γ, hi, Ext.refl _ _ _ _ _, by rw [h2]; rfl, fun i c' hi' => ?_, by rw [h2]; exact one h3⟩
      cases i with
      | succ i => simp at hi'
      | zero => simp at hi'; subst hi'; exact ⟨_, by rw [h2]; rfl, RC.of_none _ _ _ h3⟩
    | global v =>
      refine ⟨γ, hi, Ext.refl _ _ _ _ _, by rw [h2]; rfl, fun i c' hi' => ?_, by rw [h2]; exact one h3⟩
      cases i with
      | succ i => simp at hi'
      | zero => simp at hi'; subst hi'; exact ⟨_, by rw [h2]; rfl, RC.of_none _ _ _ h3⟩
    | func v =>
      refine ⟨γ, hi, Ext.refl _ _ _ _ _, by rw [h2]; rfl, fun i c' hi' => ?_, by rw [h2]; exact one h3⟩
      cases i with
      | succ i => simp at hi'
      | zero => simp at hi'; subst hi'; exact ⟨_, by rw [h2]; rfl, RC.of_none _ _ _ h3⟩
  · obtain ⟨g1, g2⟩ := RCs.get h2
    have hns : (Ev.ev P t s.m x).hasSl = false := by rw [h1]; rfl
    have hg : give s x = s := by
      cases x with
      | tmp n =>
        simp only [Ev.ev] at hns
        simp [give, hns]
      | _ => rfl
    refine ⟨γ, by rw [hg]; exact hi, Ext.refl _ _ _ _ _, by simpa using g1.symm, fun i c hc' => ?_, h2.ones⟩
    obtain ⟨u, hu, hrc⟩ := g2 i c hc'
    exact ⟨u, by simpa using hu, RC.of_none _ _ _ hrc⟩

theorem land_box (hi : Inv N dep γ β s a w) {t : TypeId} {x : Operand} (ho : o.op = .box t x) {cs : List C} (hc : (ev P t s.m x).cells = some cs) {g : Bool} {p : C} {s' : S} (hn : newObj g (give s x) cs = some (p, s')) :
    Land P N dep γ β s a w o (.c p) s' := by
  have hr : (execOp a.eval o).run P w = .ok (.value (.pointer (some ⟨w.heap.size, 0, none⟩))) (w.alloc (.cells (a.eval x).cells t)) := by
    simp [execOp, ho, Instr.box, newVar, newRow]
  have hp : ∃ d k, p = .ptr d k 0 := by
    have hl : (give s x).fs.length = dep + 1 := by rw [give_fs]; exact hi.len
    obtain ⟨d, k, _, h1, _⟩ := newObj_ok hn hl
    exact ⟨d, k, h1⟩
  obtain ⟨d, k, rfl⟩ := hp
  obtain ⟨γ₁, h1, h2, h3, h4, h5⟩ := hi.into t x hc d k 0
  rw [give_fs] at hn
  refine land_new (h1.clr o.dst) h2 hr hn (V.cells_le hc (hi.ev P t x).2) h3 (fun d' k' hp i c hc' => ?_) (fun d' k' γ' β' q hp hd hb => ?_)
  · cases hp
    have := h4 i c hc'
    rwa [Nat.zero_add] at this
  · cases hp
    exact ⟨by simp only [RV, RC]; exact ⟨_, hb, rfl⟩, by simpa only [V.le, C.le, decide_eq_true_eq] using hd⟩

/-! ### store -/

theorem run_storeVar_at {t : TypeId} {b off : Nat} {v : Value} (hs : sz P t = some v.cells.size) (hc : ∀ j, j < v.cells.size → (w.cell? ⟨b, off + j, none⟩).isSome = true)
    (hf : ∀ j, j < v.cells.size → w.frozen? ⟨b, off + j, none⟩ = false) (h1 : ∀ u ∈ v.cells.toList, u.oneCell' = true) :
    (storeVar t ⟨b, off, none⟩ v).run P w = .ok () (w.setCells b off v.cells.toList) := by
  have := run_storeCells_cells (P := P) b off v.cells.toList 0 w (by simpa using hc) (by simpa using hf) h1
  simp only [Nat.add_zero] at this
  simp [storeVar, run_sizeOf' hs, this]

theorem Inv.there (hi : Inv N dep γ β s a w) {d k : Nat} {cs : List C} (hl : look s.fs d k = some cs) {b : Nat} (hb : β d k = some b) {i : Nat} (h : i < cs.length) :
    (w.cell? ⟨b, i, none⟩).isSome = true ∧ w.frozen? ⟨b, i, none⟩ = false := by
  obtain ⟨b', vs, ty, fz, h1, h2, h3, h4⟩ := hi.ob d k cs hl
  rw [hb] at h1
  cases h1
  have := hi.gh.1 b i
  rw [(h4 i _ (List.getElem?_eq_getElem h)).1] at this
  obtain ⟨⟨v, hv⟩, hf⟩ := this
  exact ⟨by rw [hv]; rfl, hf⟩

theorem shape_setF (dep d k : Nat) (o : List C) (fs : Frames) : Shape dep fs (setF fs d k o) := by
  intro d' k' _ _
  rw [look_setF]
  split
  · rename_i h
    obtain ⟨rfl, rfl⟩ := h
    split
    · rename_i h; simp [h]
    · rename_i h; simp [h]
  · exact Iff.rfl

theorem land_store (hi : Inv N dep γ β s a w) {t : TypeId} {x y : Operand} (ho : o.op = .store t x y) {d k off : Nat} (hx : ev P 0 s.m x = .c (.ptr d k off)) {vs cs : List C} (hv : (ev P t s.m y).cells = some vs)
    (hl : look s.fs d k = some cs) (hs : sz P t = some vs.length) (hoff : off + vs.length ≤ cs.length) (hle : C.leL d vs = true) :
    Land P N dep γ β s a w o (.tup []) { give s y with fs := setF (give s y).fs d k (setRange cs off vs) } := by
  have hp := (hi.ev P 0 x).1
  rw [hx] at hp
  simp only [RV, RC] at hp
  obtain ⟨b, hb, hX⟩ := hp
  obtain ⟨γ₁, h1, h2, h3, h4, h5⟩ := hi.into t y hv d k off
  have hr : (execOp a.eval o).run P w = .ok .skip (w.setCells b off (a.eval y).cells.toList) := by
    have := run_storeVar_at (P := P) (w := w) (t := t) (b := b) (off := off) (v := a.eval y) (by rw [h3]; exact hs) (fun j hj => (hi.there hl hb (by omega)).1) (fun j hj => (hi.there hl hb (by omega)).2) h5
    simp [execOp, ho, Instr.storeAt, hX, Instr.sureAddr, this]
  have h6 := h1.clr o.dst
  obtain ⟨k1, k2⟩ := h6.store (d := d) (k := k) (cs := cs) hl hb off vs (a.eval y).cells.toList (by simpa using h3) hoff hle (fun j c hj => by
    obtain ⟨u, hu, hrc⟩ := h4 j c hj
    exact ⟨u, by simpa using hu, hrc⟩)
  refine ⟨_, undef, _, γ₁, β, hr, .inr ⟨rfl, rfl⟩, ?_, fun d' _ => ?_, rfl, h2.trans k2 (Shape.refl _ _), ?_⟩
  · rw [give_fs]
    exact k1
  · simp only [RV]
    exact ⟨#[], rfl, by simp only [RVs]⟩
  · rw [give_fs]
    exact shape_setF _ _ _ _ _

/-! ### load -/

theorem run_loadVar_cells {t : TypeId} {b off : Nat} {cs : List C} {x : V} {f : Nat → Option Pos} (hc : ∀ i c, cs[i]? = some c → ∃ u, w.cell? ⟨b, off + i, none⟩ = some u ∧ RC γ β (f i) c u) (h : readV P t cs = some x) :
    ∃ u, (loadVar t ⟨b, off, none⟩).run P w = .ok u w ∧ ((∃ c, cs[0]? = some c ∧ x = .c c ∧ RC γ β (f 0) c u) ∨ (∃ n, x = .agg ((cs.take n).map C.strip) ∧ RV γ β none x u)) := by
  unfold readV at h
  split at h
  · cases h
  · rename_i hagg
    split at h
    · rename_i n hn
      split at h
      · rename_i hle
        simp only [Option.some.injEq] at h
        subst h
        have hex : ∀ i, i < n → ∃ u, w.cell? ⟨b, off + i, none⟩ = some u ∧ ∃ c, cs[i]? = some c ∧ RC γ β (f i) c u := fun i hi => by
          have hlt : i < cs.length := by omega
          obtain ⟨u, h1, h2⟩ := hc i _ (List.getElem?_eq_getElem hlt)
          exact ⟨u, h1, _, List.getElem?_eq_getElem hlt, h2⟩
        let us : List Value := (List.range n).map fun i => (w.cell? ⟨b, off + i, none⟩).getD undef
        have hus : us.length = n := by simp [us]
        have hget : ∀ (i : Nat) (u : Value), us[i]? = some u → i < n ∧ w.cell? ⟨b, off + i, none⟩ = some u := fun i u hu => by
          simp only [us, List.getElem?_map, Option.map_eq_some_iff] at hu
          obtain ⟨j, hj, rfl⟩ := hu
          rw [List.getElem?_eq_some_iff] at hj
          obtain ⟨hlt, hj⟩ := hj
          simp at hlt hj
          subst hj
          obtain ⟨u, h1, _⟩ := hex i hlt
          exact ⟨hlt, by rw [h1]; rfl⟩
        have hl := run_loadCells_list (P := P) w ⟨b, off, none⟩ us (fun j v hv => by rw [Addr.add_none]; exact (hget j v hv).2)
        rw [hus] at hl
        refine ⟨.agg us.toArray, ?_, .inr ⟨n, rfl, ?_⟩⟩
        · simp [loadVar, run_isAgg' hagg, run_sizeOf' hn, hl]
        · simp only [RV]
          refine ⟨_, rfl, RCs.mk (by simp [hus]; omega) fun i c hi => ?_⟩
          simp only [List.getElem?_map, Option.map_eq_some_iff] at hi
          obtain ⟨c', hc', rfl⟩ := hi
          have hlt : i < n := by have := (List.getElem?_eq_some_iff.1 hc').1; simp at this; omega
          rw [List.getElem?_take_of_lt hlt] at hc'
          obtain ⟨u, h1, c'', h2, h3⟩ := hex i hlt
          rw [hc'] at h2
          cases h2
          refine ⟨u, ?_, RC.none_of _ _ h3⟩
          simp [us, hlt, h1]
      · cases h
    · cases h
  · rename_i hagg
    split at h
    · rename_i c r
      simp only [Option.some.injEq] at h
      subst h
      obtain ⟨u, h1, h2⟩ := hc 0 c rfl
      refine ⟨u, ?_, .inl ⟨c, rfl, rfl, h2⟩⟩
      simp only [Nat.add_zero] at h1
      simp [loadVar, run_isAgg' hagg, run_load, h1]
    · cases h

theorem run_loadOp {t : TypeId} {x : Operand} (ho : o.op = .load t x) {ad : Addr} (hX : a.eval x = .pointer (some ad)) {u : Value} (h : (loadVar t ad).run P w = .ok u w) : (execOp a.eval o).run P w = .ok (.value u) w := by
  simp [execOp, ho, Instr.loadAt, hX, Instr.sureAddr, h]

theorem D.toC_strip (d : D) : d.toC.strip = d.toC := by cases d <;> rfl

theorem land_load_pe (hi : Inv N dep γ β s a w) {t : TypeId} {x : Operand} (ho : o.op = .load t x) {z i j : Nat} {es : List (List D)} {e : List D} (hx : ev P 0 s.m x = .pe z es i j) (he : es[i]? = some e) {v : V}
    (h : readV P t ((e.drop j).map D.toC) = some v) : Land P N dep γ β s a w o v s := by
  have hp := (hi.ev P 0 x).1
  rw [hx] at hp
  simp only [RV] at hp
  obtain ⟨b, off, e', hX, he', hel⟩ := hp
  rw [he] at he'
  cases he'
  have hc : ∀ (i : Nat) (c : C), ((e.drop j).map D.toC)[i]? = some c → ∃ u, w.cell? ⟨b, off + i, none⟩ = some u ∧ RC γ β none c u := fun i c hc => by
    simp only [List.getElem?_map, Option.map_eq_some_iff] at hc
    obtain ⟨d, hd, rfl⟩ := hc
    obtain ⟨vs, _, h2⟩ := REl.vals _ _ _ hel
    obtain ⟨u, _, h4, h5⟩ := h2 i d hd
    have := hi.gh.1 b (off + i)
    rw [h4] at this
    exact ⟨u, this, RD.toC h5⟩
  obtain ⟨u, h1, h2⟩ := run_loadVar_cells (f := fun _ => none) hc h
  refine Land.pure hi (run_loadOp ho hX h1) ?_ ?_
  · rcases h2 with ⟨c, _, rfl, h3⟩ | ⟨n, _, h3⟩
    · simpa only [RV] using h3
    · exact h3
  · rcases h2 with ⟨c, h4, rfl, _⟩ | ⟨n, rfl, _⟩
    · simp only [List.getElem?_map, Option.map_eq_some_iff] at h4
      obtain ⟨d, _, rfl⟩ := h4
      exact toC_le dep d
    · simp only [V.le]
      rw [C.leL_strip, C.leL_mem]
      intro c hc
      have := List.mem_of_mem_take hc
      simp only [List.mem_map] at this
      obtain ⟨d, _, rfl⟩ := this
      exact toC_le dep d

/-- What an object's place holds, as its cells are. -/
theorem Inv.at (hi : Inv N dep γ β s a w) {d k : Nat} {cs : List C} (hl : look s.fs d k = some cs) {b : Nat} (hb : β d k = some b) (off : Nat) :
    ∀ (i : Nat) (c : C), (cs.drop off)[i]? = some c → ∃ u, w.cell? ⟨b, off + i, none⟩ = some u ∧ RC γ β (some (.obj d k (off + i))) c u := by
  intro i c hc
  rw [List.getElem?_drop] at hc
  obtain ⟨b', vs, ty, fz, h1, h2, h3, h4⟩ := hi.ob d k cs hl
  rw [hb] at h1
  cases h1
  obtain ⟨h5, u, h6, h7⟩ := h4 _ c hc
  refine ⟨u, ?_, h7⟩
  simp only [World.cell?, h2]
  simpa using h6

theorem land_load_ptr (hi : Inv N dep γ β s a w) {t : TypeId} {x : Operand} (ho : o.op = .load t x) {d k off : Nat} (hx : ev P 0 s.m x = .c (.ptr d k off)) {cs : List C} (hl : look s.fs d k = some cs) {v : V}
    (h : readV P t (cs.drop off) = some v) : Land P N dep γ β s a w o v.strip s := by
  have hp := hi.ev P 0 x
  rw [hx] at hp
  obtain ⟨hp, hpl⟩ := hp
  simp only [V.le, C.le, decide_eq_true_eq] at hpl
  simp only [RV, RC] at hp
  obtain ⟨b, hb, hX⟩ := hp
  obtain ⟨u, h1, h2⟩ := run_loadVar_cells (f := fun i => some (.obj d k (off + i))) (hi.at hl hb off) h
  have hmem : ∀ c ∈ cs, C.le dep c = true := fun c hc => C.le_mono hpl _ (C.leL_mem.1 (hi.ole _ _ _ hl) c hc)
  refine Land.pure hi (run_loadOp ho hX h1) ?_ ?_
  · rcases h2 with ⟨c, _, rfl, h3⟩ | ⟨n, rfl, h3⟩
    · exact RV.strip_of (p := some (.obj d k (off + 0))) _ _ (by simpa only [RV] using h3)
    · exact h3
  · rw [V.le_strip]
    rcases h2 with ⟨c, h4, rfl, _⟩ | ⟨n, rfl, _⟩
    · exact hmem c (List.mem_of_mem_drop (List.mem_of_getElem? h4))
    · simp only [V.le]
      rw [C.leL_strip, C.leL_mem]
      exact fun c hc => hmem c (List.mem_of_mem_drop (List.mem_of_mem_take hc))

/-- A cell's right to append goes elsewhere. -/
theorem Inv.takes (hi : Inv N dep γ β s a w) {d k off : Nat} {cs : List C} (hl : look s.fs d k = some cs) {y : C} (hy : cs[off]? = some y) (q : Pos) :
    Inv N dep (relabel γ (.obj d k off) q) β { s with fs := setF s.fs d k (setRange cs off [y.strip]) } a w where
  size := hi.size
  len := by simp only []; rw [length_setF]; exact hi.len
  tm t := RV.perm relabel_perm (fun r hr b o hb => by cases hr; exact relabel_other _ _ hb (by simp)) _ _ (hi.tm t)
  tle := hi.tle
  ob d' k' cs' hl' := by
    have hlt := (List.getElem?_eq_some_iff.1 hy).1
    simp only [look_setF, hl] at hl'
    by_cases e : d' = d ∧ k' = k
    · obtain ⟨rfl, rfl⟩ := e
      simp only [and_self, if_true, Option.some.injEq] at hl'
      subst hl'
      obtain ⟨b, vs, ty, fz, h1, h2, h3, h4⟩ := hi.ob d' k' cs hl
      refine ⟨b, vs, ty, fz, h1, h2, by rw [setRange_length _ _ _ (by simp; omega)]; exact h3, fun i c hc => ?_⟩
      rw [setRange_get _ _ _ (by simp; omega)] at hc
      by_cases e : off ≤ i ∧ i < off + [y.strip].length
      · rw [if_pos e] at hc
        have : i = off := by simp at e; omega
        subst this
        simp at hc
        subst hc
        obtain ⟨h5, v, h6, h7⟩ := h4 i y hy
        exact ⟨relabel_obj _ _ _ _ h5, v, h6, RC.of_none _ _ _ (RC.perm relabel_perm (fun q hq => by cases hq) _ _ (RC.none_of _ _ h7))⟩
      · rw [if_neg e] at hc
        obtain ⟨h5, v, h6, h7⟩ := h4 i c hc
        refine ⟨relabel_obj _ _ _ _ h5, v, h6, RC.perm relabel_perm (fun r hr b o hb => ?_) _ _ h7⟩
        cases hr
        exact relabel_other _ _ hb (by simp at e ⊢; omega)
    · rw [if_neg e] at hl'
      obtain ⟨b, vs, ty, fz, h1, h2, h3, h4⟩ := hi.ob d' k' cs' hl'
      refine ⟨b, vs, ty, fz, h1, h2, h3, fun i c hc => ?_⟩
      obtain ⟨h5, v, h6, h7⟩ := h4 i c hc
      refine ⟨relabel_obj _ _ _ _ h5, v, h6, RC.perm relabel_perm (fun r hr b o hb => ?_) _ _ h7⟩
      cases hr
      exact relabel_other _ _ hb (by simp only [ne_eq, Pos.obj.injEq]; exact fun h => e ⟨h.1, h.2.1⟩)
  ole d' k' cs' hl' := by
    simp only [look_setF, hl] at hl'
    by_cases e : d' = d ∧ k' = k
    · obtain ⟨rfl, rfl⟩ := e
      simp only [and_self, if_true, Option.some.injEq] at hl'
      subst hl'
      have hcs := C.leL_mem.1 (hi.ole _ _ _ hl)
      refine C.leL_mem.2 fun c hc' => ?_
      unfold setRange at hc'
      simp only [List.append_assoc, List.mem_append, List.mem_singleton] at hc'
      rcases hc' with hc' | rfl | hc'
      · exact hcs c (List.mem_of_mem_take hc')
      · rw [C.le_strip]; exact hcs y (List.mem_of_getElem? hy)
      · exact hcs c (List.mem_of_mem_drop hc')
    · rw [if_neg e] at hl'
      exact hi.ole d' k' cs' hl'
  dom d' k' b' e := by
    obtain ⟨cs', hc'⟩ := hi.dom d' k' b' e
    simp only [look_setF, hl]
    by_cases e : d' = d ∧ k' = k
    · exact ⟨_, by rw [if_pos e]⟩
    · exact ⟨cs', by rw [if_neg e]; exact hc'⟩
  gh := relabel_gh hi.gh
  mix := relabel_mix hi.mix

theorem Ext.takes {d k off : Nat} {q : Pos} {cs : List C} (hl : look s.fs d k = some cs) : Ext dep s.fs γ β w (Ev.relabel γ (.obj d k off) q) β w where
  perm := relabel_perm
  tail b o d t' e hd := relabel_other _ _ e (by simp)
  bl _ _ _ _ e := e
  size := Nat.le_refl _
  still b hb hg := ⟨rfl, relabel_still hg⟩
  hid b d k _ _ _ _ := ⟨rfl, fun o ho => relabel_obj _ _ _ _ ho⟩
  hidt b o d' k' i _ _ hn ho := relabel_other _ _ ho (by
    simp only [ne_eq, Pos.obj.injEq]
    rintro ⟨rfl, rfl, rfl⟩
    rw [hl] at hn
    cases hn)
  os := rfl
  tape := rfl
  output := rfl

theorem land_load_take (hi : Inv N dep γ β s a w) {t : TypeId} {x : Operand} (ho : o.op = .load t x) {d k off : Nat} (hx : ev P 0 s.m x = .c (.ptr d k off)) {cs : List C} (hl : look s.fs d k = some cs) {y : C}
    (h : readV P t (cs.drop off) = some (.c y)) : Land P N dep γ β s a w o (.c y) { s with fs := setF s.fs d k (setRange cs off [y.strip]) } := by
  have hp := hi.ev P 0 x
  rw [hx] at hp
  obtain ⟨hp, hpl⟩ := hp
  simp only [V.le, C.le, decide_eq_true_eq] at hpl
  simp only [RV, RC] at hp
  obtain ⟨b, hb, hX⟩ := hp
  obtain ⟨u, h1, h2⟩ := run_loadVar_cells (f := fun i => some (.obj d k (off + i))) (hi.at hl hb off) h
  rcases h2 with ⟨c, h4, h5, h3⟩ | ⟨n, h4, _⟩
  · cases h5
    have hy : cs[off]? = some y := by rw [List.getElem?_drop] at h4; simpa using h4
    let q : Pos := match o.dst with | some d => .tmp dep d | none => .tmp dep 0
    refine ⟨_, u, w, _, β, run_loadOp ho hX h1, .inl rfl, (hi.clr o.dst).takes hl hy q, fun d' hd' => ?_, ?_, Ext.takes hl, shape_setF _ _ _ _ _⟩
    · have hq : q = .tmp dep d' := by simp only [q, hd']
      rw [← hq]
      have := RV.moves (p := .obj d k off) (q := q) (.c y) u (by simpa only [RV, Nat.add_zero] using h3)
      exact this
    · exact C.le_mono hpl _ (C.leL_mem.1 (hi.ole _ _ _ hl) y (List.mem_of_getElem? hy))
  · cases h4

end

end Go.Ev
