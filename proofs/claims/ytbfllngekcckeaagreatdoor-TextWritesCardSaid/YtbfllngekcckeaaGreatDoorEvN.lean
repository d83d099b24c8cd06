/- Literals, make, copy. Slice literals, copy; then every operation that is no call of a function. -/
import Derived.Test.YtbfllngekcckeaaGreatDoorEvM
import Derived.Great.FillDense
set_option linter.unusedSimpArgs false
namespace Go.Ev

/-- One part of a literal goes in. -/
def put1 (off : Nat) (us : List Value) (cs : Array Value) : Array Value := (us.zipIdx 0).foldl (fun cs (x : Value × Nat) => cs.setIfInBounds (off + x.2) x.1) cs

theorem put1_size (off : Nat) (us : List Value) (cs : Array Value) : (put1 off us cs).size = cs.size := (Great.foldl_set off us 0 cs).1

theorem put1_get (off : Nat) (us : List Value) (cs : Array Value) (h : off + us.length ≤ cs.size) (k : Nat) : (put1 off us cs)[k]? = if off ≤ k ∧ k < off + us.length then us[k - off]? else cs[k]? := by
  have := (Great.foldl_set off us 0 cs).2 k
  simp only [Nat.add_zero] at this
  rw [put1, this]
  by_cases e : off ≤ k ∧ k < off + us.length
  · rw [if_pos e, if_pos ⟨e.1, e.2, by omega⟩]
  · rw [if_neg e, if_neg (by omega)]

theorem fill_cons (place : Nat → Option (Nat × Nat)) (cells : Array Value) (i : Nat) (v : Value) (rest : List (Nat × Value)) {off size : Nat} (hp : place i = some (off, size)) (h1 : v.cells.size = size) (h2 : off + size ≤ cells.size) :
    Instr.fill place cells ((i, v) :: rest) = Instr.fill place (put1 off v.cells.toList cells) rest := by
  simp only [Instr.fill, hp]
  rw [if_neg (by simp [h1]; omega)]
  congr 1
  unfold put1
  rw [← Array.foldl_toList]
  simp

section
variable {P : Program} {N dep : Nat} {γ : Gh} {β : Bl} {s : S} {a : Act} {w : World} {o : Oper}

theorem fillC_ok (hi : Inv N dep γ β s a w) {place : List (Nat × Nat)} {pl : Nat → Option (Nat × Nat)} (hpl : ∀ i x, place[i]? = some x → pl i = some x) :
    ∀ (parts : List (Nat × Operand)) (cs cs' : List C) (cells : Array Value), fillC place cs (parts.map fun p => (p.1, ev P 0 s.m p.2)) = some cs' → RCs γ β cs cells.toList → C.leL dep cs = true →
      ∃ cells', Instr.fill pl cells (parts.map fun p => (p.1, a.eval p.2)) = some cells' ∧ RCs γ β cs' cells'.toList ∧ C.leL dep cs' = true
  | [], cs, cs', cells, h, hr, hl => by
    simp only [List.map_nil, fillC, Option.some.injEq] at h
    subst h
    exact ⟨cells, by simp [Instr.fill], hr, hl⟩
  | (i, x) :: parts, cs, cs', cells, h, hr, hl => by
    simp only [List.map_cons, fillC] at h
    split at h
    · rename_i off size xs hp hx
      split at h
      · rename_i hz
        split at h
        · rename_i hle
          obtain ⟨g1, g2⟩ := RCs.get hr
          have hv := (hi.ev P 0 x).1
          have hvl := V.cells_le hx (hi.ev P 0 x).2
          have hvr : RCs γ β (xs.map C.strip) (a.eval x).cells.toList := by
            rcases hv.cells hx with ⟨c, h1, rfl, h2, h3⟩ | ⟨h1, h2⟩
            · rw [h2]
              simp only [List.map_cons, List.map_nil, RCs, and_true]
              exact RC.none_of _ _ h3
            · obtain ⟨k1, k2⟩ := RCs.get h2
              refine RCs.mk (by simpa using k1) fun j c hc => ?_
              simp only [List.getElem?_map, Option.map_eq_some_iff] at hc
              obtain ⟨c', hc', rfl⟩ := hc
              obtain ⟨u, hu, hrc⟩ := k2 j c' hc'
              exact ⟨u, hu, RC.none_of _ _ hrc⟩
          obtain ⟨k1, k2⟩ := RCs.get hvr
          have hsz : (a.eval x).cells.size = size := by simp at k1; omega
          have hcs : cs.length = cells.size := by simpa using g1
          obtain ⟨cells', h3, h4, h5⟩ := fillC_ok hi hpl parts _ cs' (put1 off (a.eval x).cells.toList cells) h (RCs.mk (by simp [put1_size]; omega) fun j c hc => by
            rw [Array.getElem?_toList, put1_get _ _ _ (by simp; omega)]
            have hj : (List.take off cs ++ List.map C.strip xs ++ List.drop (off + size) cs)[j]? = if off ≤ j ∧ j < off + xs.length then (xs.map C.strip)[j - off]? else cs[j]? := by
              have := setRange_get cs off (xs.map C.strip) (by simp; omega) j
              unfold setRange at this
              simp only [List.length_map] at this
              rw [hz.2] at this ⊢
              exact this
            rw [hj] at hc
            by_cases e : off ≤ j ∧ j < off + xs.length
            · rw [if_pos e] at hc
              rw [if_pos (by simp; omega)]
              obtain ⟨u, hu, hrc⟩ := k2 _ c hc
              exact ⟨u, hu, hrc⟩
            · rw [if_neg e] at hc
              rw [if_neg (by simp; omega)]
              obtain ⟨u, hu, hrc⟩ := g2 _ c hc
              exact ⟨u, by simpa using hu, hrc⟩) (C.leL_mem.2 fun c hc => by
            simp only [List.append_assoc, List.mem_append] at hc
            rcases hc with hc | hc | hc
            · exact C.leL_mem.1 hl c (List.mem_of_mem_take hc)
            · simp only [List.mem_map] at hc
              obtain ⟨c', hc', rfl⟩ := hc
              rw [C.le_strip]
              exact C.leL_mem.1 hvl c' hc'
            · exact C.leL_mem.1 hl c (List.mem_of_mem_drop hc))
          refine ⟨cells', ?_, h4, h5⟩
          rw [List.map_cons, fill_cons pl cells i (a.eval x) _ (hpl i _ hp) hsz (by omega)]
          exact h3
        · cases h
      · cases h
    · cases h

theorem layF_ok : ∀ {fs : List Field} {l : List (Nat × Nat)}, layF P fs = some l → fs.mapM (fun f => (P.info? f.type).map fun i => (f.offset, i.size)) = some l
  | [], l, h => by simp only [layF, Option.some.injEq] at h; subst h; rfl
  | f :: fs, l, h => by
    simp only [layF] at h
    split at h
    · rename_i n hn
      split at h
      · rename_i r hr
        simp only [Option.some.injEq] at h
        subst h
        unfold sz at hn
        cases hi : P.info? f.type with
        | none => simp [hi] at hn
        | some i =>
          simp only [hi, Option.map_some, Option.some.injEq] at hn
          subst hn
          simp [List.mapM_cons, hi, layF_ok hr]
      · cases h
    · cases h

theorem land_build (hi : Inv N dep γ β s a w) {t : TypeId} {parts : Array (Nat × Operand)} (ho : o.op = .build t parts) {cs cs' : List C} {pl : List (Nat × Nat)} (hz : zeroC P t = some cs) (hl : layB P t = some pl)
    (h : fillC pl cs (parts.toList.map fun p => (p.1, ev P 0 s.m p.2)) = some cs') : Land P N dep γ β s a w o (.agg cs') s := by
  obtain ⟨i, v, h1, h2, h3⟩ := zeroC_ok hz
  obtain ⟨h4, h5⟩ := constCs_ok (γ := γ) (β := β) _ _ h3
  have key : ∃ cells, P.built t (parts.toList.map fun p => (p.1, a.eval p.2)) = some cells ∧ RCs γ β cs' cells.toList ∧ C.leL dep cs' = true := by
    unfold layB at hl
    split at hl
    · rename_i fs hu
      obtain ⟨cells', k1, k2, k3⟩ := fillC_ok hi (pl := (pl.toArray[·]?)) (fun i x hx => by simpa using hx) parts.toList cs cs' v.cells h h4 (h5 dep)
      exact ⟨cells', by simp only [Program.built, h1, hu, h2, layF_ok hl]; exact k1, k2, k3⟩
    · rename_i n e hu
      split at hl
      · rename_i z hze
        simp only [Option.some.injEq] at hl
        subst hl
        unfold sz at hze
        cases hie : P.info? e with
        | none => simp [hie] at hze
        | some ie =>
          simp only [hie, Option.map_some, Option.some.injEq] at hze
          subst hze
          obtain ⟨cells', k1, k2, k3⟩ := fillC_ok hi (pl := fun i => some (i * ie.size, ie.size)) (fun i x hx => by
            simp only [List.getElem?_map, Option.map_eq_some_iff] at hx
            obtain ⟨j, hj, rfl⟩ := hx
            rw [List.getElem?_eq_some_iff] at hj
            obtain ⟨_, hj⟩ := hj
            simp at hj
            subst hj
            rfl) parts.toList cs cs' v.cells h h4 (h5 dep)
          exact ⟨cells', by simp only [Program.built, h1, hu, h2, hie]; exact k1, k2, k3⟩
      · cases hl
    · cases hl
  obtain ⟨cells, k1, k2, k3⟩ := key
  have e : (parts.map fun (p : Nat × Operand) => (p.1, a.eval p.2)).toList = parts.toList.map fun p => (p.1, a.eval p.2) := by simp
  have hr : (execOp a.eval o).run P w = .ok (.value (.agg cells)) w := by
    have := run_build w t (parts.map fun p => (p.1, a.eval p.2)) cells (by rw [e]; exact k1)
    simp [execOp, ho, this]
  exact Land.pure hi hr (by simp only [RV]; exact ⟨cells, rfl, k2⟩) k3

theorem rep_get {α : Type} (l : List α) (h : 0 < l.length) : ∀ (n i : Nat), ((List.replicate n l).flatten)[i]? = if i < n * l.length then l[i % l.length]? else none
  | 0, i => by simp
  | n + 1, i => by
    rw [List.replicate_succ, List.flatten_cons, List.getElem?_append]
    by_cases e : i < l.length
    · rw [if_pos e, if_pos (by rw [Nat.succ_mul]; omega), Nat.mod_eq_of_lt e]
    · rw [if_neg e, rep_get l h n]
      rw [Nat.mod_eq_sub_mod (by omega : i ≥ l.length)]
      by_cases e' : i - l.length < n * l.length
      · rw [if_pos e', if_pos (by rw [Nat.succ_mul]; omega)]
      · rw [if_neg e', if_neg (by rw [Nat.succ_mul]; omega)]

theorem made_get (z : Array Value) (h : 0 < z.size) (n i : Nat) : (madeCells z n)[i]? = if i < n then z[i % z.size]? else none := by
  unfold madeCells
  by_cases e : i < n
  · rw [if_pos e]
    have : i % z.size < z.size := Nat.mod_lt _ h
    simp [e, this]
  · rw [if_neg e]
    simp
    omega

theorem elemT_ok {t e : TypeId} (h : elemT P t = some e) : P.underlying t = some (.slice e) := by
  unfold elemT at h
  split at h
  · simp only [Option.some.injEq] at h; subst h; assumption
  · cases h

theorem elemSz_eq {t e : TypeId} {i : TypeInfo} (h : elemT P t = some e) (hi : P.info? e = some i) : elemSz P t = i.size := by
  simp [elemSz, h, sz, hi]

/-- A row of one and the same element. -/
theorem row_made {zs : Array Value} {z : List C} (h : RCs γ β z zs.toList) (h0 : 0 < z.length) (n : Nat) : (madeCells zs (n * z.length)).size = ((List.replicate n z).flatten).length ∧
    ∀ (i : Nat) (c : C), ((List.replicate n z).flatten)[i]? = some c → ∃ x, (madeCells zs (n * z.length))[i]? = some x ∧ RC γ β none c x := by
  obtain ⟨g1, g2⟩ := RCs.get h
  have hs : zs.size = z.length := by simpa using g1.symm
  refine ⟨by rw [size_madeCells]; simp, fun i c hc => ?_⟩
  rw [rep_get z h0] at hc
  split at hc
  · rename_i hlt
    obtain ⟨x, hx, hr⟩ := g2 _ c hc
    exact ⟨x, by rw [made_get _ (by omega), if_pos hlt, hs]; simpa using hx, hr⟩
  · cases hc

theorem land_makeSlice (hi : Inv N dep γ β s a w) {t e : TypeId} {l n : Operand} (ho : o.op = .makeSlice t l n) {k1 k2 : IntKind} {x y : Int} (hl : ev P 0 s.m l = .c (.int k1 x)) (hn : ev P 0 s.m n = .c (.int k2 y))
    (he : elemT P t = some e) {z : List C} (hz : zeroC P e = some z) (h1 : 0 ≤ x ∧ x ≤ y ∧ y < 140737488355328 / (by_ P e + 1) ∧ 0 < z.length ∧ z.length = elemSz P t) {d k p : Nat} {s' : S}
    (hnew : newObj false s ((List.replicate y.toNat z).flatten) = some (.ptr d k p, s')) : Land P N dep γ β s a w o (.c (.asl d k 0 x.toNat y.toNat z.length)) s' := by
  obtain ⟨i, v, g1, g2, g3⟩ := zeroC_ok hz
  obtain ⟨g4, g5⟩ := constCs_ok (γ := γ) (β := β) _ _ g3
  obtain ⟨h0, hxy, hlim, hpos, hsz⟩ := h1
  have hby : by_ P e = i.bytes := by simp [by_, g1]
  rw [hby] at hlim
  have hsi : z.length = i.size := by rw [hsz, elemSz_eq he g1]
  have hlim' : y < ((140737488355328 / (i.bytes + 1) : Nat) : Int) := by rw [Int.natCast_ediv, Int.natCast_add]; exact hlim
  obtain ⟨l1, l2⟩ := lim_ok (n := y.toNat) (bytes := i.bytes) (by omega)
  have hL := (hi.ev P 0 l).1
  have hR := (hi.ev P 0 n).1
  rw [hl] at hL
  rw [hn] at hR
  simp only [RV, RC] at hL hR
  have hb : (i.bytes : Int) * y ≤ 281474976710656 := by
    have e1 : ((y.toNat * i.bytes : Nat) : Int) ≤ 140737488355328 := by omega
    rw [Int.natCast_mul, Int.toNat_of_nonneg (by omega)] at e1
    rw [Int.mul_comm]
    omega
  have hrun := run_make (P := P) w t e i v (elemT_ok he) g1 g2 k1 k2 x y h0 hxy hb (by omega)
  have hr : (execOp a.eval o).run P w = .ok (.value (.slice (some ⟨w.heap.size, 0, none⟩) x.toNat y.toNat)) (w.alloc (.cells (madeCells v.cells (y.toNat * z.length)) e)) := by
    rw [hsi]
    simp [execOp, ho, hL, hR, hrun]
  obtain ⟨k3, k4⟩ := row_made (γ := γ) (β := β) g4 hpos y.toNat
  refine land_new (hi.clr o.dst) (Ext.refl _ _ _ _ _) hr hnew ?_ k3 (fun d' k' _ i c hc => ?_) (fun d' k' γ' β' q hp hd hb => ?_)
  · refine C.leL_mem.2 fun c hc => ?_
    simp only [List.mem_flatten, List.mem_replicate] at hc
    obtain ⟨_, ⟨_, rfl⟩, hc⟩ := hc
    exact C.leL_mem.1 (g5 dep) c hc
  · obtain ⟨u, hu, hrc⟩ := k4 i c hc
    exact ⟨u, hu, RC.of_none _ _ _ hrc⟩
  · cases hp
    refine ⟨?_, by simpa only [V.le, C.le, decide_eq_true_eq] using hd⟩
    simp only [RV, RC]
    exact ⟨_, 0, hb, rfl, by omega, .inr rfl⟩

/-! ### Slice literals -/

theorem set_flatten_get {z : Nat} : ∀ (es : List (List D)) (i : Nat) (ds : List D), (∀ e ∈ es, e.length = z) → ds.length = z → i < es.length → ∀ j, ((es.set i ds).flatten)[j]? = if i * z ≤ j ∧ j < i * z + z then ds[j - i * z]? else es.flatten[j]?
  | [], _, _, _, _, h, _ => by simp at h
  | e :: es, 0, ds, he, hd, _, j => by
    have h0 := he e (by simp)
    simp only [List.set_cons_zero, List.flatten_cons, List.getElem?_append, hd, h0, Nat.zero_mul, Nat.zero_le, true_and, Nat.zero_add, Nat.sub_zero]
    split
    · rfl
    · rfl
  | e :: es, i + 1, ds, he, hd, hi, j => by
    have h0 := he e (by simp)
    have ih := set_flatten_get es i ds (fun x hx => he x (by simp [hx])) hd (by simpa using hi)
    simp only [List.set_cons_succ, List.flatten_cons, List.getElem?_append, h0]
    by_cases e1 : j < z
    · rw [if_pos e1, if_pos e1, if_neg (by rw [Nat.succ_mul]; omega)]
    · rw [if_neg e1, if_neg e1, ih]
      by_cases e2 : i * z ≤ j - z ∧ j - z < i * z + z
      · rw [if_pos e2, if_pos (by rw [Nat.succ_mul]; omega)]
        congr 1
        rw [Nat.succ_mul]
        omega
      · rw [if_neg e2, if_neg (by rw [Nat.succ_mul]; omega)]

theorem fillE_ok (hi : Inv N dep γ β s a w) {z : Nat} :
    ∀ (parts : List (Nat × Operand)) (es es' : List (List D)) (cells : Array Value), fillE es z (parts.map fun p => (p.1, ev P 0 s.m p.2)) = some es' → (∀ e ∈ es, e.length = z) → VR γ es.flatten cells.toList →
      ∃ cells', Instr.fill (fun i => some (i * z, z)) cells (parts.map fun p => (p.1, a.eval p.2)) = some cells' ∧ (∀ e ∈ es', e.length = z) ∧ es'.length = es.length ∧ VR γ es'.flatten cells'.toList
  | [], es, es', cells, h, hz, hv => by
    simp only [List.map_nil, fillE, Option.some.injEq] at h
    subst h
    exact ⟨cells, by simp [Instr.fill], hz, rfl, hv⟩
  | (i, x) :: parts, es, es', cells, h, hz, hv => by
    simp only [List.map_cons, fillE] at h
    split at h
    · rename_i xs hx
      split at h
      · rename_i ds hds
        split at h
        · rename_i hdz
          split at h
          · rename_i hlt
            have hxv := (hi.ev P 0 x).1
            obtain ⟨g1, g2⟩ := toDs_get hds
            have hvx : VR γ ds (a.eval x).cells.toList := by
              rcases hxv.cells hx with ⟨c, h1, rfl, h2, h3⟩ | ⟨h1, h2⟩
              · rw [h2]
                refine ⟨by simpa using g1, fun j d hd => ?_⟩
                obtain ⟨c', hc', hcd⟩ := g2 j d hd
                cases j with
                | succ j => simp at hc'
                | zero => simp at hc'; subst hc'; exact ⟨_, rfl, RC.toD hcd h3⟩
              · obtain ⟨k1, k2⟩ := RCs.get h2
                refine ⟨by omega, fun j d hd => ?_⟩
                obtain ⟨c', hc', hcd⟩ := g2 j d hd
                obtain ⟨u, hu, hrc⟩ := k2 j c' hc'
                exact ⟨u, hu, RC.toD hcd hrc⟩
            have hcs : cells.size = es.length * z := by rw [← flatten_length es hz, ← hv.1]; simp
            have hxs : (a.eval x).cells.size = z := by have := hvx.1; simp at this; omega
            have hroom : i * z + z ≤ cells.size := by
              rw [hcs, ← Nat.succ_mul]
              exact Nat.mul_le_mul_right z hlt
            obtain ⟨cells', h3, h4, h5, h6⟩ := fillE_ok hi parts (es.set i ds) es' (put1 (i * z) (a.eval x).cells.toList cells) h (fun e he => by
              rcases List.mem_or_eq_of_mem_set he with he | rfl
              · exact hz e he
              · exact hdz) ⟨by rw [flatten_length (z := z) _ (fun e he => by
                rcases List.mem_or_eq_of_mem_set he with he | rfl
                · exact hz e he
                · exact hdz)]; simp [put1_size, hcs], fun j d hd => by
              rw [set_flatten_get es i ds hz hdz hlt] at hd
              rw [Array.getElem?_toList, put1_get _ _ _ (by simp; omega)]
              by_cases e : i * z ≤ j ∧ j < i * z + z
              · rw [if_pos e] at hd
                rw [if_pos (by simp; omega)]
                exact hvx.2 _ d hd
              · rw [if_neg e] at hd
                rw [if_neg (by simp; omega)]
                obtain ⟨u, hu, hr⟩ := hv.2 j d hd
                exact ⟨u, by simpa using hu, hr⟩⟩
            refine ⟨cells', ?_, h4, by simpa using h5, h6⟩
            rw [List.map_cons, fill_cons (fun i => some (i * z, z)) cells i (a.eval x) _ rfl hxs hroom]
            exact h3
          · cases h
        · cases h
      · cases h
    · cases h

theorem toC_toD (d : D) : d.toC.toD = some d := by cases d <;> rfl

theorem run_buildSlice' (hi : Inv N dep γ β s a w) {t e : TypeId} {len : Nat} {parts : Array (Nat × Operand)} (ho : o.op = .buildSlice t len parts) (he : elemT P t = some e) {z : List C} (hz : zeroC P e = some z) {dz : List D} (hd : toDs z = some dz)
    (h0 : 0 < dz.length ∧ dz.length = elemSz P t ∧ len * dz.length ≤ 16777216) {es : List (List D)} (h : fillE (List.replicate len dz) dz.length (parts.toList.map fun p => (p.1, ev P 0 s.m p.2)) = some es) :
    ∃ cells, (execOp a.eval o).run P w = .ok (.value (.slice (some ⟨w.heap.size, 0, none⟩) len len)) (w.alloc (.cells cells e)) ∧ VR γ es.flatten cells.toList ∧ (∀ x ∈ es, x.length = dz.length) ∧ es.length = len := by
  obtain ⟨i, v, g1, g2, g3⟩ := zeroC_ok hz
  obtain ⟨g4, g5⟩ := constCs_ok (γ := γ) (β := β) _ _ g3
  obtain ⟨hpos, hsz, hlim⟩ := h0
  obtain ⟨d1, d2⟩ := toDs_get hd
  have hu := elemT_ok he
  have hsi : dz.length = i.size := by rw [hsz, elemSz_eq he g1]
  obtain ⟨r1, r2⟩ := RCs.get g4
  have hvs : v.cells.size = dz.length := by simp at r1; omega
  have hrow : VR γ (List.replicate len dz).flatten (madeCells v.cells (len * dz.length)).toList := by
    refine ⟨by simp [size_madeCells], fun j d hj => ?_⟩
    rw [rep_get dz hpos] at hj
    split at hj
    · rename_i hlt
      obtain ⟨c, hc, hcd⟩ := d2 _ d hj
      obtain ⟨u, hu, hrc⟩ := r2 _ c hc
      refine ⟨u, ?_, RC.toD hcd hrc⟩
      rw [Array.getElem?_toList, made_get _ (by omega), if_pos hlt, hvs]
      simpa using hu
    · cases hj
  obtain ⟨cells, k1, k2, k3, k4⟩ := fillE_ok hi parts.toList _ es _ h (fun e he => by simp at he; rw [he.2]) hrow
  refine ⟨cells, ?_, k4, k2, by simpa using k3⟩
  have e1 : (parts.map fun (p : Nat × Operand) => (p.1, a.eval p.2)).toList = parts.toList.map fun p => (p.1, a.eval p.2) := by simp
  by_cases hl0 : len = 0
  · subst hl0
    have hc0 : madeCells v.cells (0 * dz.length) = #[] := by simp [madeCells, Array.range_zero']
    rw [hc0, hsi] at k1
    simp [execOp, ho, Instr.buildSlice, run_underlying hu, sizeOf, typeInfo, g1, k1, newRow, Array.range_zero']
  · have hb := run_buildSlice (P := P) w t e len (parts.map fun p => (p.1, a.eval p.2)) cells i v hu g1 g2 (by rw [← hsi]; omega) (by rw [← hsi]; exact Nat.mul_ne_zero hl0 (by omega)) (by rw [e1]; rw [hsi] at k1; exact k1)
    simp [execOp, ho, hb]

end

end Go.Ev
set_option linter.unusedSimpArgs false
namespace Go.Ev

section
variable {P : Program} {N dep : Nat} {γ : Gh} {β : Bl} {s : S} {a : Act} {w : World} {o : Oper}

theorem land_buildSlice (hi : Inv N dep γ β s a w) {t e : TypeId} {len : Nat} {parts : Array (Nat × Operand)} (ho : o.op = .buildSlice t len parts) (he : elemT P t = some e) {z : List C} (hz : zeroC P e = some z) {dz : List D} (hd : toDs z = some dz)
    (h0 : 0 < dz.length ∧ dz.length = elemSz P t ∧ len * dz.length ≤ 16777216) {es : List (List D)} (h : fillE (List.replicate len dz) dz.length (parts.toList.map fun p => (p.1, ev P 0 s.m p.2)) = some es) :
    Land P N dep γ β s a w o (.c (.sl .exact dz.length es)) s := by
  obtain ⟨cells, hr, hv, hez, hel⟩ := run_buildSlice' hi ho he hz hd h0 h
  have hm := hi.clr o.dst
  let ρ : Nat → Role := fun o => match cells[o]? with | some v => .perm v | none => .none
  have hρ : ∀ o, RoleOK cells (0, 0) o (ρ o) := fun o => by
    simp only [ρ]
    split
    · rename_i v hv'; exact hv'
    · trivial
  have hI := hm.add cells e (0, 0) ρ hρ (fun o o' d k p h h' => by
    simp only [ρ] at h
    split at h <;> cases h)
  have hE := Ext.add (dep := dep) (fs := s.fs) (β := β) hm.gh (.cells cells e) ρ
  refine ⟨_, _, _, _, β, hr, .inl rfl, hI, fun d hd => ?_, rfl, hE, Shape.refl _ _⟩
  have hmono : ∀ b o v, γ b o = .perm v → Gh.add γ w.heap.size ρ b o = .perm v := fun b o v h => Gh.add_old hm.gh h (by simp)
  simp only [RV, RC]
  refine ⟨_, len, len, rfl, ⟨hel.symm, Nat.le_refl _, hez, (fun h => by cases h), fun ad had => ?_⟩, rfl⟩
  cases had
  refine ⟨fun _ => rfl, RRow.of_vr (hv.mono hmono) fun i v hv' => ?_⟩
  simp only [Gh.add, if_true, Nat.zero_add, ρ]
  rw [Array.getElem?_toList] at hv'
  rw [hv']

theorem land_buildSlice_arr (hi : Inv N dep γ β s a w) {t e : TypeId} {len : Nat} {parts : Array (Nat × Operand)} (ho : o.op = .buildSlice t len parts) (he : elemT P t = some e) {z : List C} (hz : zeroC P e = some z) {dz : List D} (hd : toDs z = some dz)
    (h0 : 0 < dz.length ∧ dz.length = elemSz P t ∧ len * dz.length ≤ 16777216) {es : List (List D)} (h : fillE (List.replicate len dz) dz.length (parts.toList.map fun p => (p.1, ev P 0 s.m p.2)) = some es)
    {d k p : Nat} {s' : S} (hnew : newObj false s ((es.flatten).map D.toC) = some (.ptr d k p, s')) : Land P N dep γ β s a w o (.c (.asl d k 0 len len dz.length)) s' := by
  obtain ⟨cells, hr, hv, hez, hel⟩ := run_buildSlice' hi ho he hz hd h0 h
  refine land_new (hi.clr o.dst) (Ext.refl _ _ _ _ _) hr hnew (toC_leL dep _) (by rw [List.length_map, ← hv.1]; simp) (fun d' k' _ i c hc => ?_) (fun d' k' γ' β' q hp hd hb => ?_)
  · simp only [List.getElem?_map, Option.map_eq_some_iff] at hc
    obtain ⟨dd, hdd, rfl⟩ := hc
    obtain ⟨u, hu, hrd⟩ := hv.2 i dd hdd
    exact ⟨u, by simpa using hu, RC.of_none _ _ _ (RD.toC hrd)⟩
  · cases hp
    refine ⟨?_, by simpa only [V.le, C.le, decide_eq_true_eq] using hd⟩
    simp only [RV, RC]
    exact ⟨_, 0, hb, rfl, Nat.le_refl _, .inr rfl⟩

/-! ### copy -/

/-- What copy reads: the first elements. -/
theorem Inv.front (hi : Inv N dep γ β s a w) {u : TypeId} {y : Operand} {z : Nat} {xs : List (List D)} (h : tailD P u s.fs z (Ev.ev P 0 s.m y) = some xs) (n : Nat) (hn : n ≤ xs.length) :
    ∃ news, (∀ w' : World, (Builtin.lenOf (a.eval y)).run P w' = .ok xs.length w') ∧ (Builtin.firstCells z n (a.eval y)).run P w = .ok news.toArray w ∧ (∀ e ∈ xs, e.length = z) ∧ VR γ (xs.take n).flatten news ∧ ∀ u ∈ news, u.oneCell' = true := by
  obtain ⟨h1, _⟩ := hi.ev P 0 y
  unfold tailD at h
  split at h
  · rename_i hu
    split at h
    · rename_i l hy
      split at h
      · rename_i hz
        subst hz
        simp only [Option.some.injEq] at h
        subst h
        rw [hy] at h1
        simp only [RV, RC] at h1
        have hn' : n ≤ l.length := by simpa [bytesOf] using hn
        have hv : VR γ ((bytesOf l).take n).flatten ((l.take n).map fun b => Value.int .u8 b.toNat) := by
          have e : (bytesOf l).take n = bytesOf (l.take n) := by simp [bytesOf, List.map_take]
          rw [e, bytesOf_flatten]
          refine ⟨by simp, fun i d hd => ?_⟩
          simp only [List.getElem?_map, Option.map_eq_some_iff] at hd
          obtain ⟨b, hb, rfl⟩ := hd
          exact ⟨.int .u8 b.toNat, by rw [List.getElem?_map, hb]; rfl, by simp only [RD]⟩
        refine ⟨(l.take n).map fun b => Value.int .u8 b.toNat, ?_, ?_, ?_, hv, hv.ones⟩
        · intro w'
          rw [h1]
          simp [Builtin.lenOf, bytesOf]
          rfl
        · rw [h1]
          simp only [Builtin.firstCells, Sem.run_pure]
          congr 1
          apply Array.ext'
          simp
        · intro e he
          simp only [bytesOf, List.mem_map] at he
          obtain ⟨b, _, rfl⟩ := he
          rfl
      · cases h
    · cases h
  · rename_i e' hu
    split at h
    · rename_i k z' es hy
      split at h
      · rename_i hz
        simp only [Option.some.injEq] at h
        subst h
        rw [hy] at h1
        simp only [RV, RC] at h1
        obtain ⟨ad, len, cap, hX, ⟨g1, g2, g3, g4, g5⟩, _⟩ := h1
        have g3' : ∀ e ∈ es, e.length = z := by
          rcases hz with rfl | rfl
          · exact g3
          · intro e he; cases he
        cases ad with
        | none =>
          have := (g4 rfl).1
          subst this
          refine ⟨[], fun w' => by rw [hX, g1]; rfl, ?_, g3', ⟨by simp, fun i d hd => by simp at hd⟩, fun _ h => by cases h⟩
          rw [hX]
          simp [Builtin.firstCells]
        | some ad =>
          obtain ⟨g6, g7⟩ := g5 ad rfl
          obtain ⟨b, o', sp⟩ := ad
          simp only at g6
          obtain ⟨vs, hv, hp⟩ := RRow.vr (RRow.take n _ _ _ g7)
          refine ⟨vs, fun w' => by rw [hX, g1]; rfl, ?_, g3', hv, hv.ones⟩
          rw [hX]
          have hvl : vs.length = n * z := by rw [hv.1, flatten_length (z := z) _ (fun e he => g3' e (List.mem_of_mem_take he)), List.length_take, Nat.min_eq_left hn]
          refine run_firstCells_some w _ _ _ _ _ vs ?_ (fun j v hj => ?_)
          rotate_left
          · have hlt := (List.getElem?_eq_some_iff.1 hj).1
            rw [hvl] at hlt
            have hpos : 0 < cap := by
              rcases Nat.eq_zero_or_pos n with h0 | h0
              · rw [h0, Nat.zero_mul] at hlt; omega
              · omega
            obtain rfl := g6 hpos
            exact Inv.cells hi.gh hp j v hj
          rw [hv.1, flatten_length (z := z) _ (fun e he => g3' e (List.mem_of_mem_take he)), List.length_take, Nat.min_eq_left hn]
      · cases h
    · rename_i d k off len cap z' hy
      split at h
      · rename_i hz
        subst hz
        rw [hy] at h1
        simp only [RV, RC] at h1
        obtain ⟨b, o', hb, hX, g1, g2⟩ := h1
        obtain ⟨vs, hv, hl, hz, hc⟩ := hi.asl h hb
        have hfl := flatten_length (z := z') xs hz
        have htk : (xs.take n).flatten = xs.flatten.take (n * z') := by
          refine List.ext_getElem? fun i => ?_
          have e := flatten_length (z := z') (xs.take n) (fun e he => hz e (List.mem_of_mem_take he))
          rw [List.length_take, Nat.min_eq_left hn] at e
          by_cases hlt : i < n * z'
          · rw [List.getElem?_take_of_lt hlt]
            have := congrArg List.flatten (List.take_append_drop n xs)
            rw [List.flatten_append] at this
            rw [← this, List.getElem?_append_left (by omega)]
          · rw [List.getElem?_eq_none (by omega), List.getElem?_eq_none (by simp; omega)]
        have hvt : VR γ (xs.take n).flatten (vs.take (n * z')) := by
          rw [htk]
          refine ⟨by simp [hv.1], fun i d hd => ?_⟩
          have hlt : i < n * z' := by have := (List.getElem?_eq_some_iff.1 hd).1; simp at this; omega
          rw [List.getElem?_take_of_lt hlt] at hd ⊢
          exact hv.2 i d hd
        refine ⟨vs.take (n * z'), fun w' => by rw [hX, ← hl]; rfl, ?_, hz, hvt, hvt.ones⟩
        rw [hX]
        refine run_firstCells_some w _ _ _ _ _ _ ?_ (fun j v hj => ?_)
        · rw [List.length_take, hv.1, hfl, Nat.min_eq_left (Nat.mul_le_mul_right z' hn)]
        · rw [Addr.add_none]
          have hlt : j < n * z' := by have := (List.getElem?_eq_some_iff.1 hj).1; simp at this; omega
          rw [List.getElem?_take_of_lt hlt] at hj
          have := hc j v hj
          rcases g2 with h0 | rfl
          · have : vs.length = 0 := by rw [hv.1, hfl, hl, show len = 0 by omega, Nat.zero_mul]
            have := (List.getElem?_eq_some_iff.1 hj).1
            omega
          · exact this
      · cases h
    · cases h
  · cases h

theorem land_copy (hi : Inv N dep γ β s a w) {x y : Operand} {k : Call} {t u : TypeId} (ho : o.op = .call k) (hk : k.callee = .builtin .copy) (ha : k.args.toList = [x, y]) (ht : k.argTypes.toList = [t, u]) {d k' off len cap z n : Nat}
    (hx : ev P 0 s.m x = .c (.asl d k' off len cap z)) (hz : z = elemSz P t ∧ 0 < z) {fs : Frames} (h : copyV P u s.fs d k' off len z (ev P 0 s.m y) = some (n, fs)) :
    Land P N dep γ β s a w o (.c (.int .i64 n)) { s with fs := fs } := by
  obtain ⟨hX, hXl⟩ := hi.ev P 0 x
  rw [hx] at hX hXl
  simp only [V.le, C.le, decide_eq_true_eq] at hXl
  simp only [RV, RC] at hX
  obtain ⟨b, o', hb, hX, g1, g2⟩ := hX
  obtain ⟨e, hu, hsz⟩ := elemSz_ok hz.1 hz.2
  unfold copyV at h
  split at h
  · rename_i xs cs hxs hcs
    split at h
    · rename_i hle
      simp only [Option.some.injEq, Prod.mk.injEq] at h
      obtain ⟨rfl, rfl⟩ := h
      obtain ⟨news, h1, h2, h3, h4, h5⟩ := hi.front hxs (min xs.length len) (Nat.min_le_left _ _)
      have htk : xs.take (min xs.length len) = xs.take len := by
        rcases Nat.le_total xs.length len with h | h
        · rw [Nat.min_eq_left h, List.take_length, List.take_of_length_le h]
        · rw [Nat.min_eq_right h]
      rw [htk] at h4
      have hnl : news.length = min xs.length len * z := by
        rw [h4.1, flatten_length (z := z) _ (fun e he => h3 e (List.mem_of_mem_take he)), List.length_take, Nat.min_comm]
      have hfl : (xs.take len).flatten.length = news.length := h4.1.symm
      have hoff : o' = off ∨ news = [] := by
        rcases g2 with h0 | h0
        · right
          apply List.eq_nil_of_length_eq_zero
          rw [hnl, show len = 0 by omega]
          simp
        · exact .inl h0
      have hst : (storeCells ⟨b, o', none⟩ news).run P w = .ok () (w.setCells b off news) := by
        rcases hoff with rfl | rfl
        · have := run_storeCells_cells (P := P) b o' news 0 w (fun j hj => by simpa using (hi.there hcs hb (by omega)).1) (fun j hj => by simpa using (hi.there hcs hb (by omega)).2) h5
          simpa using this
        · simp [storeCells, World.setCells]
      have e1 : k.argTypes = #[t, u] := Array.ext' (by simpa using ht)
      have hr : (execOp a.eval o).run P w = .ok (.value (goInt (min xs.length len : Nat))) (w.setCells b off news) := by
        refine run_builtin ho hk ha fun cs' => ?_
        simp only [builtin, List.map_cons, List.map_nil, e1, hX]
        simp [Builtin.copy_, run_underlying hu, h1, run_sizeOf' hsz, h2, hst]
      have hm := hi.clr o.dst
      obtain ⟨k1, k2⟩ := hm.store (d := d) (k := k') (cs := cs) hcs hb off (((xs.take len).flatten).map D.toC) news (by rw [List.length_map]; exact hfl.symm) (by rw [List.length_map]; exact hle) (toC_leL d _) (fun j c hj => by
        simp only [List.getElem?_map, Option.map_eq_some_iff] at hj
        obtain ⟨dd, hdd, rfl⟩ := hj
        obtain ⟨v, hv, hrd⟩ := h4.2 j dd hdd
        exact ⟨v, hv, RC.of_none _ _ _ (RD.toC hrd)⟩)
      refine ⟨_, _, _, γ, β, hr, .inl rfl, k1, fun d' _ => ?_, rfl, k2, shape_setF _ _ _ _ _⟩
      simp only [RV, RC]
      rfl
    · cases h
  · cases h

end

end Go.Ev
