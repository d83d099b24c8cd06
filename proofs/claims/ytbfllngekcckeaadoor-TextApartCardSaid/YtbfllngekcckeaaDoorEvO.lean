/- Slice literals, copy; then every operation that is no call of a function. -/
import Derived.Test.YtbfllngekcckeaaDoorEvN
set_option linter.unusedSimpArgs false
namespace Go.Ev

section
variable {P : Program} {N dep : Nat} {γ : Gh} {β : Bl} {s : S} {a : Act} {w : World} {o : Oper}

theorem land_buildSlice (hi : Inv N dep γ β s a w) {t e : TypeId} {len : Nat} {parts : Array (Nat × Operand)} (ho : o.op = .buildSlice t len parts) (he : elemT P t = some e) {z : List C} (hz : zeroC P e = some z) {dz : List D} (hd : toDs z = some dz)
    (h0 : 0 < dz.length ∧ dz.length = elemSz P t ∧ len * dz.length ≤ 16777216) {es : List (List D)} (h : fillE (List.replicate len dz) dz.length (parts.toList.map fun p => (p.1, ev P 0 s.m p.2)) = some es) :
    Land P N dep γ β s a w o (.c (.sl .exact dz.length es)) s := by
  obtain ⟨cells, hr, hv, hez, hel⟩ := run_buildSlice' hi ho he hz hd h0 h
  have hm := hi.clr o.dst
  let ρ : Nat → Role := fun o => match cells[o]? with | some v => .perm v | none => .none
  have hρ : ∀ o, RoleOK cells (0, 0) o (ρ o) := fun o => by
    simp only [ρ]
    split
    · rename_i v hv'; exact hv'
    · trivial
  have hI := hm.add cells e (0, 0) ρ hρ (fun o o' d k p h h' => by
    simp only [ρ] at h
    split at h <;> cases h)
  have hE := Ext.add (dep := dep) (fs := s.fs) (β := β) hm.gh (.cells cells e) ρ
  refine ⟨_, _, _, _, β, hr, .inl rfl, hI, fun d hd => ?_, rfl, hE, Shape.refl _ _⟩
  have hmono : ∀ b o v, γ b o = .perm v → Gh.add γ w.heap.size ρ b o = .perm v := fun b o v h => Gh.add_old hm.gh h (by simp)
  simp only [RV, RC]
  refine ⟨_, len, len, rfl, ⟨hel.symm, Nat.le_refl _, hez, (fun h => by cases h), fun ad had => ?_⟩, rfl⟩
  cases had
  refine ⟨fun _ => rfl, RRow.of_vr (hv.mono hmono) fun i v hv' => ?_⟩
  simp only [Gh.add, if_true, Nat.zero_add, ρ]
  rw [Array.getElem?_toList] at hv'
  rw [hv']

theorem land_buildSlice_arr (hi : Inv N dep γ β s a w) {t e : TypeId} {len : Nat} {parts : Array (Nat × Operand)} (ho : o.op = .buildSlice t len parts) (he : elemT P t = some e) {z : List C} (hz : zeroC P e = some z) {dz : List D} (hd : toDs z = some dz)
    (h0 : 0 < dz.length ∧ dz.length = elemSz P t ∧ len * dz.length ≤ 16777216) {es : List (List D)} (h : fillE (List.replicate len dz) dz.length (parts.toList.map fun p => (p.1, ev P 0 s.m p.2)) = some es)
    {d k p : Nat} {s' : S} (hnew : newObj false s ((es.flatten).map D.toC) = some (.ptr d k p, s')) : Land P N dep γ β s a w o (.c (.asl d k 0 len len dz.length)) s' := by
  obtain ⟨cells, hr, hv, hez, hel⟩ := run_buildSlice' hi ho he hz hd h0 h
  refine land_new (hi.clr o.dst) (Ext.refl _ _ _ _ _) hr hnew (toC_leL dep _) (by rw [List.length_map, ← hv.1]; simp) (fun d' k' _ i c hc => ?_) (fun d' k' γ' β' q hp hd hb => ?_)
  · simp only [List.getElem?_map, Option.map_eq_some_iff] at hc
    obtain ⟨dd, hdd, rfl⟩ := hc
    obtain ⟨u, hu, hrd⟩ := hv.2 i dd hdd
    exact ⟨u, by simpa using hu, RC.of_none _ _ _ (RD.toC hrd)⟩
  · cases hp
    refine ⟨?_, by simpa only [V.le, C.le, decide_eq_true_eq] using hd⟩
    simp only [RV, RC]
    exact ⟨_, 0, hb, rfl, Nat.le_refl _, .inr rfl⟩

/-! ### copy -/

/-- What copy reads: the first elements. -/
theorem Inv.front (hi : Inv N dep γ β s a w) {u : TypeId} {y : Operand} {z : Nat} {xs : List (List D)} (h : tailD P u s.fs z (Ev.ev P 0 s.m y) = some xs) (n : Nat) (hn : n ≤ xs.length) :
    ∃ news, (∀ w' : World, (Builtin.lenOf (a.eval y)).run P w' = .ok xs.length w') ∧ (Builtin.firstCells z n (a.eval y)).run P w = .ok news.toArray w ∧ (∀ e ∈ xs, e.length = z) ∧ VR γ (xs.take n).flatten news ∧ ∀ u ∈ news, u.oneCell' = true := by
  obtain ⟨h1, _⟩ := hi.ev P 0 y
  unfold tailD at h
  split at h
  · rename_i hu
    split at h
    · rename_i l hy
      split at h
      · rename_i hz
        subst hz
        simp only [Option.some.injEq] at h
        subst h
        rw [hy] at h1
        simp only [RV, RC] at h1
        have hn' : n ≤ l.length := by simpa [bytesOf] using hn
        have hv : VR γ ((bytesOf l).take n).flatten ((l.take n).map fun b => Value.int .u8 b.toNat) := by
          have e : (bytesOf l).take n = bytesOf (l.take n) := by simp [bytesOf, List.map_take]
          rw [e, bytesOf_flatten]
          refine ⟨by simp, fun i d hd => ?_⟩
          simp only [List.getElem?_map, Option.map_eq_some_iff] at hd
          obtain ⟨b, hb, rfl⟩ := hd
          exact ⟨.int .u8 b.toNat, by rw [List.getElem?_map, hb]; rfl, by simp only [RD]⟩
        refine ⟨(l.take n).map fun b => Value.int .u8 b.toNat, ?_, ?_, ?_, hv, hv.ones⟩
        · intro w'
          rw [h1]
          simp [Builtin.lenOf, bytesOf]
          rfl
        · rw [h1]
          simp only [Builtin.firstCells, Sem.run_pure]
          congr 1
          apply Array.ext'
          simp
        · intro e he
          simp only [bytesOf, List.mem_map] at he
          obtain ⟨b, _, rfl⟩ := he
          rfl
      · cases h
    · cases h
  · rename_i e' hu
    split at h
    · rename_i k z' es hy
      split at h
      · rename_i hz
        simp only [Option.some.injEq] at h
        subst h
        rw [hy] at h1
        simp only [RV, RC] at h1
        obtain ⟨ad, len, cap, hX, ⟨g1, g2, g3, g4, g5⟩, _⟩ := h1
        have g3' : ∀ e ∈ es, e.length = z := by
          rcases hz with rfl | rfl
          · exact g3
          · intro e he; cases he
        cases ad with
        | none =>
          have := (g4 rfl).1
          subst this
          refine ⟨[], fun w' => by rw [hX, g1]; rfl, ?_, g3', ⟨by simp, fun i d hd => by simp at hd⟩, fun _ h => by cases h⟩
          rw [hX]
          simp [Builtin.firstCells]
        | some ad =>
          obtain ⟨g6, g7⟩ := g5 ad rfl
          obtain ⟨b, o', sp⟩ := ad
          simp only at g6
          obtain ⟨vs, hv, hp⟩ := RRow.vr (RRow.take n _ _ _ g7)
          refine ⟨vs, fun w' => by rw [hX, g1]; rfl, ?_, g3', hv, hv.ones⟩
          rw [hX]
          have hvl : vs.length = n * z := by rw [hv.1, flatten_length (z := z) _ (fun e he => g3' e (List.mem_of_mem_take he)), List.length_take, Nat.min_eq_left hn]
          refine run_firstCells_some w _ _ _ _ _ vs ?_ (fun j v hj => ?_)
          rotate_left
          · have hlt := (List.getElem?_eq_some_iff.1 hj).1
            rw [hvl] at hlt
            have hpos : 0 < cap := by
              rcases Nat.eq_zero_or_pos n with h0 | h0
              · rw [h0, Nat.zero_mul] at hlt; omega
              · omega
            obtain rfl := g6 hpos
            exact Inv.cells hi.gh hp j v hj
          rw [hv.1, flatten_length (z := z) _ (fun e he => g3' e (List.mem_of_mem_take he)), List.length_take, Nat.min_eq_left hn]
      · cases h
    · rename_i d k off len cap z' hy
      split at h
      · rename_i hz
        subst hz
        rw [hy] at h1
        simp only [RV, RC] at h1
        obtain ⟨b, o', hb, hX, g1, g2⟩ := h1
        obtain ⟨vs, hv, hl, hz, hc⟩ := hi.asl h hb
        have hfl := flatten_length (z := z') xs hz
        have htk : (xs.take n).flatten = xs.flatten.take (n * z') := by
          refine List.ext_getElem? fun i => ?_
          have e := flatten_length (z := z') (xs.take n) (fun e he => hz e (List.mem_of_mem_take he))
          rw [List.length_take, Nat.min_eq_left hn] at e
          by_cases hlt : i < n * z'
          · rw [List.getElem?_take_of_lt hlt]
            have := congrArg List.flatten (List.take_append_drop n xs)
            rw [List.flatten_append] at this
            rw [← this, List.getElem?_append_left (by omega)]
          · rw [List.getElem?_eq_none (by omega), List.getElem?_eq_none (by simp; omega)]
        have hvt : VR γ (xs.take n).flatten (vs.take (n * z')) := by
          rw [htk]
          refine ⟨by simp [hv.1], fun i d hd => ?_⟩
          have hlt : i < n * z' := by have := (List.getElem?_eq_some_iff.1 hd).1; simp at this; omega
          rw [List.getElem?_take_of_lt hlt] at hd ⊢
          exact hv.2 i d hd
        refine ⟨vs.take (n * z'), fun w' => by rw [hX, ← hl]; rfl, ?_, hz, hvt, hvt.ones⟩
        rw [hX]
        refine run_firstCells_some w _ _ _ _ _ _ ?_ (fun j v hj => ?_)
        · rw [List.length_take, hv.1, hfl, Nat.min_eq_left (Nat.mul_le_mul_right z' hn)]
        · rw [Addr.add_none]
          have hlt : j < n * z' := by have := (List.getElem?_eq_some_iff.1 hj).1; simp at this; omega
          rw [List.getElem?_take_of_lt hlt] at hj
          have := hc j v hj
          rcases g2 with h0 | rfl
          · have : vs.length = 0 := by rw [hv.1, hfl, hl, show len = 0 by omega, Nat.zero_mul]
            have := (List.getElem?_eq_some_iff.1 hj).1
            omega
          · exact this
      · cases h
    · cases h
  · cases h

theorem land_copy (hi : Inv N dep γ β s a w) {x y : Operand} {k : Call} {t u : TypeId} (ho : o.op = .call k) (hk : k.callee = .builtin .copy) (ha : k.args.toList = [x, y]) (ht : k.argTypes.toList = [t, u]) {d k' off len cap z n : Nat}
    (hx : ev P 0 s.m x = .c (.asl d k' off len cap z)) (hz : z = elemSz P t ∧ 0 < z) {fs : Frames} (h : copyV P u s.fs d k' off len z (ev P 0 s.m y) = some (n, fs)) :
    Land P N dep γ β s a w o (.c (.int .i64 n)) { s with fs := fs } := by
  obtain ⟨hX, hXl⟩ := hi.ev P 0 x
  rw [hx] at hX hXl
  simp only [V.le, C.le, decide_eq_true_eq] at hXl
  simp only [RV, RC] at hX
  obtain ⟨b, o', hb, hX, g1, g2⟩ := hX
  obtain ⟨e, hu, hsz⟩ := elemSz_ok hz.1 hz.2
  unfold copyV at h
  split at h
  · rename_i xs cs hxs hcs
    split at h
    · rename_i hle
      simp only [Option.some.injEq, Prod.mk.injEq] at h
      obtain ⟨rfl, rfl⟩ := h
      obtain ⟨news, h1, h2, h3, h4, h5⟩ := hi.front hxs (min xs.length len) (Nat.min_le_left _ _)
      have htk : xs.take (min xs.length len) = xs.take len := by
        rcases Nat.le_total xs.length len with h | h
        · rw [Nat.min_eq_left h, List.take_length, List.take_of_length_le h]
        · rw [Nat.min_eq_right h]
      rw [htk] at h4
      have hnl : news.length = min xs.length len * z := by
        rw [h4.1, flatten_length (z := z) _ (fun e he => h3 e (List.mem_of_mem_take he)), List.length_take, Nat.min_comm]
      have hfl : (xs.take len).flatten.length = news.length := h4.1.symm
      have hoff : o' = off ∨ news = [] := by
        rcases g2 with h0 | h0
        · right
          apply List.eq_nil_of_length_eq_zero
          rw [hnl, show len = 0 by omega]
          simp
        · exact .inl h0
      have hst : (storeCells ⟨b, o', none⟩ news).run P w = .ok () (w.setCells b off news) := by
        rcases hoff with rfl | rfl
        · have := run_storeCells_cells (P := P) b o' news 0 w (fun j hj => by simpa using (hi.there hcs hb (by omega)).1) (fun j hj => by simpa using (hi.there hcs hb (by omega)).2) h5
          simpa using this
        · simp [storeCells, World.setCells]
      have e1 : k.argTypes = #[t, u] := Array.ext' (by simpa using ht)
      have hr : (execOp a.eval o).run P w = .ok (.value (goInt (min xs.length len : Nat))) (w.setCells b off news) := by
        refine run_builtin ho hk ha fun cs' => ?_
        simp only [builtin, List.map_cons, List.map_nil, e1, hX]
        simp [Builtin.copy_, run_underlying hu, h1, run_sizeOf' hsz, h2, hst]
      have hm := hi.clr o.dst
      obtain ⟨k1, k2⟩ := hm.store (d := d) (k := k') (cs := cs) hcs hb off (((xs.take len).flatten).map D.toC) news (by rw [List.length_map]; exact hfl.symm) (by rw [List.length_map]; exact hle) (toC_leL d _) (fun j c hj => by
        simp only [List.getElem?_map, Option.map_eq_some_iff] at hj
        obtain ⟨dd, hdd, rfl⟩ := hj
        obtain ⟨v, hv, hrd⟩ := h4.2 j dd hdd
        exact ⟨v, hv, RC.of_none _ _ _ (RD.toC hrd)⟩)
      refine ⟨_, _, _, γ, β, hr, .inl rfl, k1, fun d' _ => ?_, rfl, k2, shape_setF _ _ _ _ _⟩
      simp only [RV, RC]
      rfl
    · cases h
  · cases h

end

end Go.Ev
