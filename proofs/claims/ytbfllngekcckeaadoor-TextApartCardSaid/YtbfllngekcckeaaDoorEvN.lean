/- Literals, make, copy. -/
import Derived.Test.YtbfllngekcckeaaDoorEvM
import Derived.Great.FillDense
set_option linter.unusedSimpArgs false
namespace Go.Ev

/-- One part of a literal goes in. -/
def put1 (off : Nat) (us : List Value) (cs : Array Value) : Array Value := (us.zipIdx 0).foldl (fun cs (x : Value × Nat) => cs.setIfInBounds (off + x.2) x.1) cs

theorem put1_size (off : Nat) (us : List Value) (cs : Array Value) : (put1 off us cs).size = cs.size := (Great.foldl_set off us 0 cs).1

theorem put1_get (off : Nat) (us : List Value) (cs : Array Value) (h : off + us.length ≤ cs.size) (k : Nat) : (put1 off us cs)[k]? = if off ≤ k ∧ k < off + us.length then us[k - off]? else cs[k]? := by
  have := (Great.foldl_set off us 0 cs).2 k
  simp only [Nat.add_zero] at this
  rw [put1, this]
  by_cases e : off ≤ k ∧ k < off + us.length
  · rw [if_pos e, if_pos ⟨e.1, e.2, by omega⟩]
  · rw [if_neg e, if_neg (by omega)]

theorem fill_cons (place : Nat → Option (Nat × Nat)) (cells : Array Value) (i : Nat) (v : Value) (rest : List (Nat × Value)) {off size : Nat} (hp : place i = some (off, size)) (h1 : v.cells.size = size) (h2 : off + size ≤ cells.size) :
    Instr.fill place cells ((i, v) :: rest) = Instr.fill place (put1 off v.cells.toList cells) rest := by
  simp only [Instr.fill, hp]
  rw [if_neg (by simp [h1]; omega)]
  congr 1
  unfold put1
  rw [← Array.foldl_toList]
  simp

section
variable {P : Program} {N dep : Nat} {γ : Gh} {β : Bl} {s : S} {a : Act} {w : World} {o : Oper}

theorem fillC_ok (hi : Inv N dep γ β s a w) {place : List (Nat × Nat)} {pl : Nat → Option (Nat × Nat)} (hpl : ∀ i x, place[i]? = some x → pl i = some x) :
    ∀ (parts : List (Nat × Operand)) (cs cs' : List C) (cells : Array Value), fillC place cs (parts.map fun p => (p.1, ev P 0 s.m p.2)) = some cs' → RCs γ β cs cells.toList → C.leL dep cs = true →
      ∃ cells', Instr.fill pl cells (parts.map fun p => (p.1, a.eval p.2)) = some cells' ∧ RCs γ β cs' cells'.toList ∧ C.leL dep cs' = true
  | [], cs, cs', cells, h, hr, hl => by
    simp only [List.map_nil, fillC, Option.some.injEq] at h
    subst h
    exact ⟨cells, by simp [Instr.fill], hr, hl⟩
  | (i, x) :: parts, cs, cs', cells, h, hr, hl => by
    simp only [List.map_cons, fillC] at h
    split at h
    · rename_i off size xs hp hx
      split at h
      · rename_i hz
        split at h
        · rename_i hle
          obtain ⟨g1, g2⟩ := RCs.get hr
          have hv := (hi.ev P 0 x).1
          have hvl := V.cells_le hx (hi.ev P 0 x).2
          have hvr : RCs γ β (xs.map C.strip) (a.eval x).cells.toList := by
            rcases hv.cells hx with ⟨c, h1, rfl, h2, h3⟩ | ⟨h1, h2⟩
            · rw [h2]
              simp only [List.map_cons, List.map_nil, RCs, and_true]
              exact RC.none_of _ _ h3
            · obtain ⟨k1, k2⟩ := RCs.get h2
              refine RCs.mk (by simpa using k1) fun j c hc => ?_
              simp only [List.getElem?_map, Option.map_eq_some_iff] at hc
              obtain ⟨c', hc', rfl⟩ := hc
              obtain ⟨u, hu, hrc⟩ := k2 j c' hc'
              exact ⟨u, hu, RC.none_of _ _ hrc⟩
          obtain ⟨k1, k2⟩ := RCs.get hvr
          have hsz : (a.eval x).cells.size = size := by simp at k1; omega
          have hcs : cs.length = cells.size := by simpa using g1
          obtain ⟨cells', h3, h4, h5⟩ := fillC_ok hi hpl parts _ cs' (put1 off (a.eval x).cells.toList cells) h (RCs.mk (by simp [put1_size]; omega) fun j c hc => by
            rw [Array.getElem?_toList, put1_get _ _ _ (by simp; omega)]
            have hj : (List.take off cs ++ List.map C.strip xs ++ List.drop (off + size) cs)[j]? = if off ≤ j ∧ j < off + xs.length then (xs.map C.strip)[j - off]? else cs[j]? := by
              have := setRange_get cs off (xs.map C.strip) (by simp; omega) j
              unfold setRange at this
              simp only [List.length_map] at this
              rw [hz.2] at this ⊢
              exact this
            rw [hj] at hc
            by_cases e : off ≤ j ∧ j < off + xs.length
            · rw [if_pos e] at hc
              rw [if_pos (by simp; omega)]
              obtain ⟨u, hu, hrc⟩ := k2 _ c hc
              exact ⟨u, hu, hrc⟩
            · rw [if_neg e] at hc
              rw [if_neg (by simp; omega)]
              obtain ⟨u, hu, hrc⟩ := g2 _ c hc
              exact ⟨u, by simpa using hu, hrc⟩) (C.leL_mem.2 fun c hc => by
            simp only [List.append_assoc, List.mem_append] at hc
            rcases hc with hc | hc | hc
            · exact C.leL_mem.1 hl c (List.mem_of_mem_take hc)
            · simp only [List.mem_map] at hc
              obtain ⟨c', hc', rfl⟩ := hc
              rw [C.le_strip]
              exact C.leL_mem.1 hvl c' hc'
            · exact C.leL_mem.1 hl c (List.mem_of_mem_drop hc))
          refine ⟨cells', ?_, h4, h5⟩
          rw [List.map_cons, fill_cons pl cells i (a.eval x) _ (hpl i _ hp) hsz (by omega)]
          exact h3
        · cases h
      · cases h
    · cases h

theorem layF_ok : ∀ {fs : List Field} {l : List (Nat × Nat)}, layF P fs = some l → fs.mapM (fun f => (P.info? f.type).map fun i => (f.offset, i.size)) = some l
  | [], l, h => by simp only [layF, Option.some.injEq] at h; subst h; rfl
  | f :: fs, l, h => by
    simp only [layF] at h
    split at h
    · rename_i n hn
      split at h
      · rename_i r hr
        simp only [Option.some.injEq] at h
        subst h
        unfold sz at hn
        cases hi : P.info? f.type with
        | none => simp [hi] at hn
        | some i =>
          simp only [hi, Option.map_some, Option.some.injEq] at hn
          subst hn
          simp [List.mapM_cons, hi, layF_ok hr]
      · cases h
    · cases h

theorem land_build (hi : Inv N dep γ β s a w) {t : TypeId} {parts : Array (Nat × Operand)} (ho : o.op = .build t parts) {cs cs' : List C} {pl : List (Nat × Nat)} (hz : zeroC P t = some cs) (hl : layB P t = some pl)
    (h : fillC pl cs (parts.toList.map fun p => (p.1, ev P 0 s.m p.2)) = some cs') : Land P N dep γ β s a w o (.agg cs') s := by
  obtain ⟨i, v, h1, h2, h3⟩ := zeroC_ok hz
  obtain ⟨h4, h5⟩ := constCs_ok (γ := γ) (β := β) _ _ h3
  have key : ∃ cells, P.built t (parts.toList.map fun p => (p.1, a.eval p.2)) = some cells ∧ RCs γ β cs' cells.toList ∧ C.leL dep cs' = true := by
    unfold layB at hl
    split at hl
    · rename_i fs hu
      obtain ⟨cells', k1, k2, k3⟩ := fillC_ok hi (pl := (pl.toArray[·]?)) (fun i x hx => by simpa using hx) parts.toList cs cs' v.cells h h4 (h5 dep)
      exact ⟨cells', by simp only [Program.built, h1, hu, h2, layF_ok hl]; exact k1, k2, k3⟩
    · rename_i n e hu
      split at hl
      · rename_i z hze
        simp only [Option.some.injEq] at hl
        subst hl
        unfold sz at hze
        cases hie : P.info? e with
        | none => simp [hie] at hze
        | some ie =>
          simp only [hie, Option.map_some, Option.some.injEq] at hze
          subst hze
          obtain ⟨cells', k1, k2, k3⟩ := fillC_ok hi (pl := fun i => some (i * ie.size, ie.size)) (fun i x hx => by
            simp only [List.getElem?_map, Option.map_eq_some_iff] at hx
            obtain ⟨j, hj, rfl⟩ := hx
            rw [List.getElem?_eq_some_iff] at hj
            obtain ⟨_, hj⟩ := hj
            simp at hj
            subst hj
            rfl) parts.toList cs cs' v.cells h h4 (h5 dep)
          exact ⟨cells', by simp only [Program.built, h1, hu, h2, hie]; exact k1, k2, k3⟩
      · cases hl
    · cases hl
  obtain ⟨cells, k1, k2, k3⟩ := key
  have e : (parts.map fun (p : Nat × Operand) => (p.1, a.eval p.2)).toList = parts.toList.map fun p => (p.1, a.eval p.2) := by simp
  have hr : (execOp a.eval o).run P w = .ok (.value (.agg cells)) w := by
    have := run_build w t (parts.map fun p => (p.1, a.eval p.2)) cells (by rw [e]; exact k1)
    simp [execOp, ho, this]
  exact Land.pure hi hr (by simp only [RV]; exact ⟨cells, rfl, k2⟩) k3

theorem rep_get {α : Type} (l : List α) (h : 0 < l.length) : ∀ (n i : Nat), ((List.replicate n l).flatten)[i]? = if i < n * l.length then l[i % l.length]? else none
  | 0, i => by simp
  | n + 1, i => by
    rw [List.replicate_succ, List.flatten_cons, List.getElem?_append]
    by_cases e : i < l.length
    · rw [if_pos e, if_pos (by rw [Nat.succ_mul]; omega), Nat.mod_eq_of_lt e]
    · rw [if_neg e, rep_get l h n]
      rw [Nat.mod_eq_sub_mod (by omega : i ≥ l.length)]
      by_cases e' : i - l.length < n * l.length
      · rw [if_pos e', if_pos (by rw [Nat.succ_mul]; omega)]
      · rw [if_neg e', if_neg (by rw [Nat.succ_mul]; omega)]

theorem made_get (z : Array Value) (h : 0 < z.size) (n i : Nat) : (madeCells z n)[i]? = if i < n then z[i % z.size]? else none := by
  unfold madeCells
  by_cases e : i < n
  · rw [if_pos e]
    have : i % z.size < z.size := Nat.mod_lt _ h
    simp [e, this]
  · rw [if_neg e]
    simp
    omega

theorem elemT_ok {t e : TypeId} (h : elemT P t = some e) : P.underlying t = some (.slice e) := by
  unfold elemT at h
  split at h
  · simp only [Option.some.injEq] at h; subst h; assumption
  · cases h

theorem elemSz_eq {t e : TypeId} {i : TypeInfo} (h : elemT P t = some e) (hi : P.info? e = some i) : elemSz P t = i.size := by
  simp [elemSz, h, sz, hi]

/-- A row of one and the same element. -/
theorem row_made {zs : Array Value} {z : List C} (h : RCs γ β z zs.toList) (h0 : 0 < z.length) (n : Nat) : (madeCells zs (n * z.length)).size = ((List.replicate n z).flatten).length ∧
    ∀ (i : Nat) (c : C), ((List.replicate n z).flatten)[i]? = some c → ∃ x, (madeCells zs (n * z.length))[i]? = some x ∧ RC γ β none c x := by
  obtain ⟨g1, g2⟩ := RCs.get h
  have hs : zs.size = z.length := by simpa using g1.symm
  refine ⟨by rw [size_madeCells]; simp, fun i c hc => ?_⟩
  rw [rep_get z h0] at hc
  split at hc
  · rename_i hlt
    obtain ⟨x, hx, hr⟩ := g2 _ c hc
    exact ⟨x, by rw [made_get _ (by omega), if_pos hlt, hs]; simpa using hx, hr⟩
  · cases hc

theorem land_makeSlice (hi : Inv N dep γ β s a w) {t e : TypeId} {l n : Operand} (ho : o.op = .makeSlice t l n) {k1 k2 : IntKind} {x y : Int} (hl : ev P 0 s.m l = .c (.int k1 x)) (hn : ev P 0 s.m n = .c (.int k2 y))
    (he : elemT P t = some e) {z : List C} (hz : zeroC P e = some z) (h1 : 0 ≤ x ∧ x ≤ y ∧ y < 140737488355328 / (by_ P e + 1) ∧ 0 < z.length ∧ z.length = elemSz P t) {d k p : Nat} {s' : S}
    (hnew : newObj false s ((List.replicate y.toNat z).flatten) = some (.ptr d k p, s')) : Land P N dep γ β s a w o (.c (.asl d k 0 x.toNat y.toNat z.length)) s' := by
  obtain ⟨i, v, g1, g2, g3⟩ := zeroC_ok hz
  obtain ⟨g4, g5⟩ := constCs_ok (γ := γ) (β := β) _ _ g3
  obtain ⟨h0, hxy, hlim, hpos, hsz⟩ := h1
  have hby : by_ P e = i.bytes := by simp [by_, g1]
  rw [hby] at hlim
  have hsi : z.length = i.size := by rw [hsz, elemSz_eq he g1]
  have hlim' : y < ((140737488355328 / (i.bytes + 1) : Nat) : Int) := by rw [Int.natCast_ediv, Int.natCast_add]; exact hlim
  obtain ⟨l1, l2⟩ := lim_ok (n := y.toNat) (bytes := i.bytes) (by omega)
  have hL := (hi.ev P 0 l).1
  have hR := (hi.ev P 0 n).1
  rw [hl] at hL
  rw [hn] at hR
  simp only [RV, RC] at hL hR
  have hb : (i.bytes : Int) * y ≤ 281474976710656 := by
    have e1 : ((y.toNat * i.bytes : Nat) : Int) ≤ 140737488355328 := by omega
    rw [Int.natCast_mul, Int.toNat_of_nonneg (by omega)] at e1
    rw [Int.mul_comm]
    omega
  have hrun := run_make (P := P) w t e i v (elemT_ok he) g1 g2 k1 k2 x y h0 hxy hb (by omega)
  have hr : (execOp a.eval o).run P w = .ok (.value (.slice (some ⟨w.heap.size, 0, none⟩) x.toNat y.toNat)) (w.alloc (.cells (madeCells v.cells (y.toNat * z.length)) e)) := by
    rw [hsi]
    simp [execOp, ho, hL, hR, hrun]
  obtain ⟨k3, k4⟩ := row_made (γ := γ) (β := β) g4 hpos y.toNat
  refine land_new (hi.clr o.dst) (Ext.refl _ _ _ _ _) hr hnew ?_ k3 (fun d' k' _ i c hc => ?_) (fun d' k' γ' β' q hp hd hb => ?_)
  · refine C.leL_mem.2 fun c hc => ?_
    simp only [List.mem_flatten, List.mem_replicate] at hc
    obtain ⟨_, ⟨_, rfl⟩, hc⟩ := hc
    exact C.leL_mem.1 (g5 dep) c hc
  · obtain ⟨u, hu, hrc⟩ := k4 i c hc
    exact ⟨u, hu, RC.of_none _ _ _ hrc⟩
  · cases hp
    refine ⟨?_, by simpa only [V.le, C.le, decide_eq_true_eq] using hd⟩
    simp only [RV, RC]
    exact ⟨_, 0, hb, rfl, by omega, .inr rfl⟩

/-! ### Slice literals -/

theorem set_flatten_get {z : Nat} : ∀ (es : List (List D)) (i : Nat) (ds : List D), (∀ e ∈ es, e.length = z) → ds.length = z → i < es.length → ∀ j, ((es.set i ds).flatten)[j]? = if i * z ≤ j ∧ j < i * z + z then ds[j - i * z]? else es.flatten[j]?
  | [], _, _, _, _, h, _ => by simp at h
  | e :: es, 0, ds, he, hd, _, j => by
    have h0 := he e (by simp)
    simp only [List.set_cons_zero, List.flatten_cons, List.getElem?_append, hd, h0, Nat.zero_mul, Nat.zero_le, true_and, Nat.zero_add, Nat.sub_zero]
    split
    · rfl
    · rfl
  | e :: es, i + 1, ds, he, hd, hi, j => by
    have h0 := he e (by simp)
    have ih := set_flatten_get es i ds (fun x hx => he x (by simp [hx])) hd (by simpa using hi)
    simp only [List.set_cons_succ, List.flatten_cons, List.getElem?_append, h0]
    by_cases e1 : j < z
    · rw [if_pos e1, if_pos e1, if_neg (by rw [Nat.succ_mul]; omega)]
    · rw [if_neg e1, if_neg e1, ih]
      by_cases e2 : i * z ≤ j - z ∧ j - z < i * z + z
      · rw [if_pos e2, if_pos (by rw [Nat.succ_mul]; omega)]
        congr 1
        rw [Nat.succ_mul]
        omega
      · rw [if_neg e2, if_neg (by rw [Nat.succ_mul]; omega)]

theorem fillE_ok (hi : Inv N dep γ β s a w) {z : Nat} :
    ∀ (parts : List (Nat × Operand)) (es es' : List (List D)) (cells : Array Value), fillE es z (parts.map fun p => (p.1, ev P 0 s.m p.2)) = some es' → (∀ e ∈ es, e.length = z) → VR γ es.flatten cells.toList →
      ∃ cells', Instr.fill (fun i => some (i * z, z)) cells (parts.map fun p => (p.1, a.eval p.2)) = some cells' ∧ (∀ e ∈ es', e.length = z) ∧ es'.length = es.length ∧ VR γ es'.flatten cells'.toList
  | [], es, es', cells, h, hz, hv => by
    simp only [List.map_nil, fillE, Option.some.injEq] at h
    subst h
    exact ⟨cells, by simp [Instr.fill], hz, rfl, hv⟩
  | (i, x) :: parts, es, es', cells, h, hz, hv => by
    simp only [List.map_cons, fillE] at h
    split at h
    · rename_i xs hx
      split at h
      · rename_i ds hds
        split at h
        · rename_i hdz
          split at h
          · rename_i hlt
            have hxv := (hi.ev P 0 x).1
            obtain ⟨g1, g2⟩ := toDs_get hds
            have hvx : VR γ ds (a.eval x).cells.toList := by
              rcases hxv.cells hx with ⟨c, h1, rfl, h2, h3⟩ | ⟨h1, h2⟩
              · rw [h2]
                refine ⟨by simpa using g1, fun j d hd => ?_⟩
                obtain ⟨c', hc', hcd⟩ := g2 j d hd
                cases j with
                | succ j => simp at hc'
                | zero => simp at hc'; subst hc'; exact ⟨_, rfl, RC.toD hcd h3⟩
              · obtain ⟨k1, k2⟩ := RCs.get h2
                refine ⟨by omega, fun j d hd => ?_⟩
                obtain ⟨c', hc', hcd⟩ := g2 j d hd
                obtain ⟨u, hu, hrc⟩ := k2 j c' hc'
                exact ⟨u, hu, RC.toD hcd hrc⟩
            have hcs : cells.size = es.length * z := by rw [← flatten_length es hz, ← hv.1]; simp
            have hxs : (a.eval x).cells.size = z := by have := hvx.1; simp at this; omega
            have hroom : i * z + z ≤ cells.size := by
              rw [hcs, ← Nat.succ_mul]
              exact Nat.mul_le_mul_right z hlt
            obtain ⟨cells', h3, h4, h5, h6⟩ := fillE_ok hi parts (es.set i ds) es' (put1 (i * z) (a.eval x).cells.toList cells) h (fun e he => by
              rcases List.mem_or_eq_of_mem_set he with he | rfl
              · exact hz e he
              · exact hdz) ⟨by rw [flatten_length (z := z) _ (fun e he => by
                rcases List.mem_or_eq_of_mem_set he with he | rfl
                · exact hz e he
                · exact hdz)]; simp [put1_size, hcs], fun j d hd => by
              rw [set_flatten_get es i ds hz hdz hlt] at hd
              rw [Array.getElem?_toList, put1_get _ _ _ (by simp; omega)]
              by_cases e : i * z ≤ j ∧ j < i * z + z
              · rw [if_pos e] at hd
                rw [if_pos (by simp; omega)]
                exact hvx.2 _ d hd
              · rw [if_neg e] at hd
                rw [if_neg (by simp; omega)]
                obtain ⟨u, hu, hr⟩ := hv.2 j d hd
                exact ⟨u, by simpa using hu, hr⟩⟩
            refine ⟨cells', ?_, h4, by simpa using h5, h6⟩
            rw [List.map_cons, fill_cons (fun i => some (i * z, z)) cells i (a.eval x) _ rfl hxs hroom]
            exact h3
          · cases h
        · cases h
      · cases h
    · cases h

theorem toC_toD (d : D) : d.toC.toD = some d := by cases d <;> rfl

theorem run_buildSlice' (hi : Inv N dep γ β s a w) {t e : TypeId} {len : Nat} {parts : Array (Nat × Operand)} (ho : o.op = .buildSlice t len parts) (he : elemT P t = some e) {z : List C} (hz : zeroC P e = some z) {dz : List D} (hd : toDs z = some dz)
    (h0 : 0 < dz.length ∧ dz.length = elemSz P t ∧ len * dz.length ≤ 16777216) {es : List (List D)} (h : fillE (List.replicate len dz) dz.length (parts.toList.map fun p => (p.1, ev P 0 s.m p.2)) = some es) :
    ∃ cells, (execOp a.eval o).run P w = .ok (.value (.slice (some ⟨w.heap.size, 0, none⟩) len len)) (w.alloc (.cells cells e)) ∧ VR γ es.flatten cells.toList ∧ (∀ x ∈ es, x.length = dz.length) ∧ es.length = len := by
  obtain ⟨i, v, g1, g2, g3⟩ := zeroC_ok hz
  obtain ⟨g4, g5⟩ := constCs_ok (γ := γ) (β := β) _ _ g3
  obtain ⟨hpos, hsz, hlim⟩ := h0
  obtain ⟨d1, d2⟩ := toDs_get hd
  have hu := elemT_ok he
  have hsi : dz.length = i.size := by rw [hsz, elemSz_eq he g1]
  obtain ⟨r1, r2⟩ := RCs.get g4
  have hvs : v.cells.size = dz.length := by simp at r1; omega
  have hrow : VR γ (List.replicate len dz).flatten (madeCells v.cells (len * dz.length)).toList := by
    refine ⟨by simp [size_madeCells], fun j d hj => ?_⟩
    rw [rep_get dz hpos] at hj
    split at hj
    · rename_i hlt
      obtain ⟨c, hc, hcd⟩ := d2 _ d hj
      obtain ⟨u, hu, hrc⟩ := r2 _ c hc
      refine ⟨u, ?_, RC.toD hcd hrc⟩
      rw [Array.getElem?_toList, made_get _ (by omega), if_pos hlt, hvs]
      simpa using hu
    · cases hj
  obtain ⟨cells, k1, k2, k3, k4⟩ := fillE_ok hi parts.toList _ es _ h (fun e he => by simp at he; rw [he.2]) hrow
  refine ⟨cells, ?_, k4, k2, by simpa using k3⟩
  have e1 : (parts.map fun (p : Nat × Operand) => (p.1, a.eval p.2)).toList = parts.toList.map fun p => (p.1, a.eval p.2) := by simp
  by_cases hl0 : len = 0
  · subst hl0
    have hc0 : madeCells v.cells (0 * dz.length) = #[] := by simp [madeCells, Array.range_zero']
    rw [hc0, hsi] at k1
    simp [execOp, ho, Instr.buildSlice, run_underlying hu, sizeOf, typeInfo, g1, k1, newRow, Array.range_zero']
  · have hb := run_buildSlice (P := P) w t e len (parts.map fun p => (p.1, a.eval p.2)) cells i v hu g1 g2 (by rw [← hsi]; omega) (by rw [← hsi]; exact Nat.mul_ne_zero hl0 (by omega)) (by rw [e1]; rw [hsi] at k1; exact k1)
    simp [execOp, ho, hb]

end

end Go.Ev
