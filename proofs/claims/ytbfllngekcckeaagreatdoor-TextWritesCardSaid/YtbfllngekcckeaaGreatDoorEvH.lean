/- Operations that turn nothing in memory. -/
import Derived.Test.YtbfllngekcckeaaGreatDoorEvF
import Derived.Laws.BytesString
import Derived.Laws.Runes
set_option linter.unusedSimpArgs false
namespace Go.Ev

section
variable {P : Program} {N dep : Nat} {γ : Gh} {β : Bl} {s : S} {a : Act} {w : World} {o : Oper}

theorem Plain.land {c : C} {v : Value} (h : Plain c v) (hi : Inv N dep γ β s a w) (hr : (execOp a.eval o).run P w = .ok (.value v) w) : Land P N dep γ β s a w o (.c c) s :=
  Land.pure hi hr (by simp only [RV]; exact h.1 _ _ _) (h.2 dep)

/-- The cells of a row, in its block. -/
theorem RRow.flat : ∀ (es : List (List D)) (b o : Nat), RRow γ b o es → REl γ b o es.flatten
  | [], _, _, _ => by simp only [List.flatten_nil, REl]
  | e :: es, b, o, h => by
    simp only [RRow] at h
    have ih := RRow.flat es b (o + e.length) h.2
    simp only [List.flatten_cons]
    exact REl.app e es.flatten b o h.1 ih
where
  REl.app {γ : Gh} : ∀ (x y : List D) (b o : Nat), REl γ b o x → REl γ b (o + x.length) y → REl γ b o (x ++ y)
    | [], y, b, o, _, h => by simpa using h
    | d :: x, y, b, o, h1, h2 => by
      simp only [REl, List.cons_append] at h1 ⊢
      exact ⟨h1.1, REl.app x y b (o + 1) h1.2 (by simp only [List.length_cons] at h2; rwa [show o + 1 + x.length = o + (x.length + 1) by omega])⟩

theorem REl.drop : ∀ (n : Nat) (ds : List D) (b o : Nat), REl γ b o ds → REl γ b (o + n) (ds.drop n)
  | 0, ds, b, o, h => by simpa using h
  | n + 1, [], b, o, h => by simp only [List.drop_nil, REl]
  | n + 1, d :: ds, b, o, h => by
    simp only [REl] at h
    have := REl.drop n ds b (o + 1) h.2
    rw [show o + (n + 1) = o + 1 + n by omega]
    simpa using this

/-- What stands in the cells. -/
theorem REl.vals : ∀ (ds : List D) (b o : Nat), REl γ b o ds → ∃ vs : List Value, vs.length = ds.length ∧ ∀ i d, ds[i]? = some d → ∃ v, vs[i]? = some v ∧ γ b (o + i) = .perm v ∧ RD γ d v
  | [], _, _, _ => ⟨[], rfl, fun i d h => by simp at h⟩
  | d :: ds, b, o, h => by
    simp only [REl] at h
    obtain ⟨⟨v, h1, h2⟩, h3⟩ := h
    obtain ⟨vs, h4, h5⟩ := REl.vals ds b (o + 1) h3
    refine ⟨v :: vs, by simp [h4], fun i x hx => ?_⟩
    cases i with
    | zero => simp at hx; subst hx; exact ⟨v, rfl, h1, h2⟩
    | succ i =>
      simp at hx
      obtain ⟨u, h6, h7, h8⟩ := h5 i x hx
      exact ⟨u, by simpa using h6, by rw [show o + (i + 1) = o + 1 + i by omega]; exact h7, h8⟩

theorem Inv.cells (hi : GhOK γ w) {b o : Nat} {vs : List Value} (h : ∀ (i : Nat) (v : Value), vs[i]? = some v → γ b (o + i) = .perm v) : ∀ (j : Nat) (v : Value), vs[j]? = some v → w.cell? ((⟨b, o, none⟩ : Addr).add j) = some v := by
  intro j v hv
  have := hi.1 b (o + j)
  rw [h j v hv] at this
  have e : (⟨b, o, none⟩ : Addr).add j = ⟨b, o + j, none⟩ := by unfold Addr.add; split <;> simp_all
  rw [e]
  exact this

theorem RD.toC : ∀ {d : D} {v : Value}, RD γ d v → RC γ β none d.toC v
  | .bool b, v, h => by simpa only [RD, D.toC, RC] using h
  | .int k n, v, h => by simpa only [RD, D.toC, RC] using h
  | .str x, v, h => by simpa only [RD, D.toC, RC] using h
  | .sl z es, v, h => by
    simp only [RD] at h
    obtain ⟨p, len, cap, rfl, h1⟩ := h
    simp only [D.toC, RC]
    exact ⟨p, len, cap, rfl, h1, trivial⟩

theorem RC.toD : ∀ {c : C} {d : D} {v : Value} {p : Option Pos}, c.toD = some d → RC γ β p c v → RD γ d v
  | .bool b, d, v, p, h, e => by simp only [C.toD, Option.some.injEq] at h; subst h; simpa only [RD, RC] using e
  | .int k n, d, v, p, h, e => by simp only [C.toD, Option.some.injEq] at h; subst h; simpa only [RD, RC] using e
  | .str x, d, v, p, h, e => by simp only [C.toD, Option.some.injEq] at h; subst h; simpa only [RD, RC] using e
  | .sl k z es, d, v, p, h, e => by
    simp only [C.toD, Option.some.injEq] at h; subst h
    simp only [RC] at e
    obtain ⟨q, len, cap, rfl, h1, _⟩ := e
    simp only [RD]
    exact ⟨q, len, cap, rfl, h1⟩
  | .asl .., d, v, p, h, e => by simp [C.toD] at h
  | .ptr .., d, v, p, h, e => by simp [C.toD] at h
  | .nilp, d, v, p, h, e => by simp [C.toD] at h
  | .fn .., d, v, p, h, e => by simp [C.toD] at h
  | .nilfn, d, v, p, h, e => by simp [C.toD] at h
  | .ifc .., d, v, p, h, e => by simp [C.toD] at h
  | .nilif, d, v, p, h, e => by simp [C.toD] at h
  | .someif, d, v, p, h, e => by simp [C.toD] at h

theorem toDs_get : ∀ {cs : List C} {ds : List D}, toDs cs = some ds → cs.length = ds.length ∧ ∀ (i : Nat) (d : D), ds[i]? = some d → ∃ c : C, cs[i]? = some c ∧ c.toD = some d
  | [], ds, h => by simp only [toDs, Option.some.injEq] at h; subst h; exact ⟨rfl, fun i d h => by simp at h⟩
  | c :: cs, ds, h => by
    simp only [toDs] at h
    cases h1 : c.toD with
    | none => simp [h1] at h
    | some d =>
      cases h2 : toDs cs with
      | none => simp [h1, h2] at h
      | some ds' =>
        simp only [h1, h2, Option.some.injEq] at h
        subst h
        obtain ⟨g1, g2⟩ := toDs_get h2
        refine ⟨by simp [g1], fun i x hx => ?_⟩
        cases i with
        | zero => simp at hx; subst hx; exact ⟨c, rfl, h1⟩
        | succ i =>
          simp at hx
          obtain ⟨c', h3, h4⟩ := g2 i x hx
          exact ⟨c', by simpa using h3, h4⟩

theorem toC_le (dep : Nat) (d : D) : C.le dep d.toC = true := by cases d <;> rfl

theorem toC_leL (dep : Nat) : ∀ ds : List D, C.leL dep (ds.map D.toC) = true
  | [] => rfl
  | d :: ds => by simp only [List.map_cons, C.leL, toC_le, toC_leL dep ds, Bool.and_self]

/-! ### The operations -/

theorem land_move (hi : Inv N dep γ β s a w) {x : Operand} {fd : List Nat} (ho : o.op = .move x) :
    Land P N dep γ β s a w o (if feeds fd o.dst then ev P o.type s.m x else (ev P o.type s.m x).strip) (if feeds fd o.dst then give s x else s) := by
  have hr : (execOp a.eval o).run P w = .ok (.value (a.eval x)) w := by simp [execOp, ho]
  obtain ⟨h1, h2⟩ := hi.ev P o.type x
  split
  · exact Land.moved hi hr h1 h2 (fun t ht hs => by subst ht; exact hs)
  · exact Land.pure hi hr (RV.strip_of _ _ h1) (by rw [V.le_strip]; exact h2)

theorem land_assign (hi : Inv N dep γ β s a w) {x : Operand} (ho : o.op = .assign x) : Land P N dep γ β s a w o (ev P o.type s.m x) (give s x) := by
  have hr : (execOp a.eval o).run P w = .ok (.value (a.eval x)) w := by simp [execOp, ho]
  obtain ⟨h1, h2⟩ := hi.ev P o.type x
  exact Land.moved hi hr h1 h2 (fun t ht hs => by subst ht; exact hs)

theorem land_pick (hi : Inv N dep γ β s a w) {x y z : Operand} (ho : o.op = .pick x y z) {t : Bool} (hx : ev P o.type s.m x = .c (.bool t)) :
    Land P N dep γ β s a w o (pickV t (ev P o.type s.m y) (ev P o.type s.m z)).strip s := by
  have h1 := (hi.ev P o.type x).1
  rw [hx] at h1
  simp only [RV, RC] at h1
  have hr : (execOp a.eval o).run P w = .ok (.value (if t then a.eval y else a.eval z)) w := by simp [execOp, ho, h1, asBool]
  refine Land.pure hi hr ?_ ?_
  · cases t
    · exact RV.strip_of _ _ (hi.ev P o.type z).1
    · exact RV.strip_of _ _ (hi.ev P o.type y).1
  · cases t
    · exact (hi.ev0 P o.type z none).2
    · exact (hi.ev0 P o.type y none).2

theorem land_nilCheck (hi : Inv N dep γ β s a w) {x : Operand} (ho : o.op = .nilCheck x) {v : V} (hv : ev P 0 s.m x = v)
    (hk : (∃ d k off, v = .c (.ptr d k off)) ∨ (∃ z es i j, v = .pe z es i j) ∨ (∃ g p q, v = .c (.fn (.func g) p q))) : Land P N dep γ β s a w o v s := by
  obtain ⟨h1, h2⟩ := hi.ev P 0 x
  rw [hv] at h1 h2
  have hn : RV γ β none v (a.eval x) := by
    have := RV.strip_of (q := none) _ _ h1
    rcases hk with ⟨d, k, off, rfl⟩ | ⟨z, es, i, j, rfl⟩ | ⟨g, p, q, rfl⟩ <;> exact this
  have hr : (execOp a.eval o).run P w = .ok (.value (a.eval x)) w := by
    rcases hk with ⟨d, k, off, rfl⟩ | ⟨z, es, i, j, rfl⟩ | ⟨g, p, q, rfl⟩
    · simp only [RV, RC] at hn
      obtain ⟨b, _, hb⟩ := hn
      simp [execOp, ho, hb]
    · simp only [RV] at hn
      obtain ⟨b, o', e, hb, _⟩ := hn
      simp [execOp, ho, hb]
    · simp only [RV, RC] at hn
      obtain ⟨b, o', hb, _⟩ := hn
      simp [execOp, ho, hb]
  exact Land.pure hi hr hn h2

theorem land_binOp (hi : Inv N dep γ β s a w) {op : BinOp} {t t' : TypeId} {x y : Operand} (ho : o.op = .binOp op t x y t') {c : C} (h : binV P op t (isLit x || isLit y) (ev P t s.m x) (ev P t s.m y) = some c) :
    Land P N dep γ β s a w o (.c c) s := by
  obtain ⟨h1, h2⟩ := binV_ok (w := w) h (hi.ev P t x).1 (hi.ev P t y).1
  refine Plain.land h2 hi ?_
  simp only [Sem.run_bind] at h1
  simp only [execOp, ho, Sem.run_bind, h1, Result.andThen_ok, Sem.run_pure]

theorem land_unOp (hi : Inv N dep γ β s a w) {op : UnOp} {t : TypeId} {x : Operand} (ho : o.op = .unOp op t x) {c : C} (h : unV op (ev P 0 s.m x) = some c) : Land P N dep γ β s a w o (.c c) s := by
  obtain ⟨h1, h2⟩ := unV_ok (P := P) (w := w) h (hi.ev P 0 x).1
  exact Plain.land h2 hi (by simp only [execOp, ho, Sem.run_bind, h1, Result.andThen_ok, Sem.run_pure])

theorem strOf_spec : ∀ {es : List (List D)} {l : List UInt8}, strOf es = some l → ∃ ns : List Int, es = ns.map (fun n => [D.int .u8 n]) ∧ l = ns.map (fun n => UInt8.ofNat n.toNat)
  | [], l, h => by simp only [strOf, Option.some.injEq] at h; subst h; exact ⟨[], rfl, rfl⟩
  | e :: es, l, h => by
    unfold strOf at h
    split at h
    · rename_i h0; cases h0
    · rename_i n r h0
      cases h0
      split at h
      · rename_i l' hl
        simp only [Option.some.injEq] at h
        subst h
        obtain ⟨ns, h1, h2⟩ := strOf_spec hl
        exact ⟨n :: ns, by simp [h1], by simp [h2]⟩
      · cases h
    · cases h

theorem flat_ints : ∀ ns : List Int, (ns.map fun n => [D.int IntKind.u8 n]).flatten = ns.map (D.int .u8)
  | [] => rfl
  | n :: ns => by simp only [List.map_cons, List.flatten_cons, flat_ints ns]; rfl

theorem foldl_push : ∀ (ns : List Int) (l : List UInt8), ns.foldl (fun (r : ByteArray) n => r.push (UInt8.ofNat n.toNat)) ⟨l.toArray⟩ = ⟨(l ++ ns.map fun n => UInt8.ofNat n.toNat).toArray⟩
  | [], l => by simp
  | n :: ns, l => by
    rw [List.foldl_cons, show (ByteArray.push ⟨l.toArray⟩ (UInt8.ofNat n.toNat)) = ⟨(l ++ [UInt8.ofNat n.toNat]).toArray⟩ by simp [ByteArray.push], foldl_push ns]
    simp

theorem convV_ok {src dst : TypeId} {x : V} {v : Value} {p : Option Pos} {c : C} (hi : GhOK γ w) (h : convV (convKind P src dst) x = some c) (h2 : (convKind P src dst).1 ≠ 2) (hv : RV γ β p x v) :
    (convert src dst v).run P w = .ok (valC c) w ∧ Plain c (valC c) := by
  generalize hk : convKind P src dst = kd at h h2
  unfold convKind at hk
  unfold convV at h
  split at h
  · -- a whole number
    rename_i k n h1
    simp only [Option.some.injEq] at h
    simp only [RV, RC] at hv
    subst hv
    split at hk
    · rename_i k1 k2 hs hd
      subst hk h
      exact ⟨by simp [convert, run_underlying hs, run_underlying hd, Conv.intToInt, valC], plain_int _ _⟩
    all_goals (try (subst hk; simp at h1))
    all_goals (split at hk <;> subst hk <;> simp at h1)
  · rename_i h1; exact absurd h1 h2
  · -- bytes
    rename_i k z es h1
    split at h
    · rename_i l hl
      simp only [Option.some.injEq] at h
      subst h
      simp only [RV, RC] at hv
      obtain ⟨ad, len, cap, rfl, ⟨g1, g2, g3, g4, g5⟩, _⟩ := hv
      have hty : ∃ e, P.underlying src = some (.slice e) ∧ P.underlying e = some (.int .u8) ∧ P.underlying dst = some .string := by
        split at hk
        · subst hk; simp at h1
        · split at hk <;> subst hk <;> simp at h1
        · rename_i e hs hd
          split at hk
          · rename_i he; exact ⟨e, hs, he, hd⟩
          · subst hk; simp at h1
        all_goals (subst hk; simp at h1)
      obtain ⟨e, hs, he, hd⟩ := hty
      refine ⟨?_, plain_str _⟩
      rw [run_convert_bytes_string w src dst e ad len cap hs he hd]
      obtain ⟨ns, rfl, rfl⟩ := strOf_spec hl
      cases ad with
      | none =>
        have := (g4 rfl).1
        have : ns = [] := by simpa using this
        subst this
        simp [Conv.bytesToString, valC]
        rfl
      | some ad =>
        obtain ⟨g6, g7⟩ := g5 ad rfl
        rcases Nat.eq_zero_or_pos cap with hc0 | hc0
        · have hn0 : ns = [] := by
            have : ns.length = 0 := by simp at g1; omega
            exact List.length_eq_zero_iff.1 this
          subst hn0
          have hload := run_loadCells_list (P := P) w ad [] (by simp)
          rw [show ([] : List Value).length = len by simp at g1; simp; omega] at hload
          rw [run_bytesToString w _ len cap [] hload]
          simp [valC]
          rfl
        obtain ⟨b, o', sp⟩ := ad
        have g6 := g6 hc0
        simp only at g6
        subst g6
        obtain ⟨vs, v1, v2⟩ := REl.vals _ _ _ (RRow.flat _ _ _ g7)
        rw [flat_ints] at v1 v2
        have hvs : vs = ns.map (Value.int .u8) := by
          apply List.ext_getElem?
          intro i
          by_cases hlt : i < ns.length
          · obtain ⟨u, h6, _, h8⟩ := v2 i (.int .u8 ns[i]) (by simp [hlt])
            simp only [RD] at h8
            rw [h6, h8]
            simp [hlt]
          · rw [List.getElem?_eq_none (by simp at v1; omega), List.getElem?_eq_none (by simp; omega)]
        have hload := run_loadCells_list (P := P) w ⟨b, o', none⟩ vs (Inv.cells hi fun i u hu => by
          have hlt := (List.getElem?_eq_some_iff.1 hu).1
          simp at v1
          obtain ⟨u', h6, h7, _⟩ := v2 i (.int .u8 ns[i]) (by simp)
          rw [hu] at h6
          cases h6
          exact h7)
        rw [show vs.length = len by simp at v1 g1; omega, hvs] at hload
        rw [run_bytesToString w _ len cap ns hload, show ByteArray.empty = ⟨([] : List UInt8).toArray⟩ from rfl, foldl_push]
        simp [valC]
    · cases h
  · rename_i l h1
    simp only [Option.some.injEq] at h
    simp only [RV, RC] at hv
    subst hv h
    have hty : P.underlying src = some .string ∧ P.underlying dst = some .string := by
      split at hk
      · subst hk; simp at h1
      · split at hk <;> subst hk <;> simp at h1
      · split at hk <;> subst hk <;> simp at h1
      · rename_i hs hd; exact ⟨hs, hd⟩
      all_goals (subst hk; simp at h1)
    exact ⟨by simp [convert, run_underlying hty.1, run_underlying hty.2, valC], plain_str _⟩
  · rename_i k n h1
    simp only [Option.some.injEq] at h
    simp only [RV, RC] at hv
    subst hv h
    have hty : ∃ k', P.underlying src = some (.int k') ∧ P.underlying dst = some .string := by
      split at hk
      · subst hk; simp at h1
      · split at hk <;> subst hk <;> simp at h1
      · split at hk <;> subst hk <;> simp at h1
      · subst hk; simp at h1
      · rename_i k' hs hd; exact ⟨k', hs, hd⟩
      all_goals (subst hk; simp at h1)
    obtain ⟨k', hs, hd⟩ := hty
    exact ⟨by simp [convert, run_underlying hs, run_underlying hd, Conv.intToString, valC], plain_str _⟩
  · cases h

end

end Go.Ev
