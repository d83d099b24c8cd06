/- Cuts; len, min, max. -/
import Derived.Test.YtbfllngekcckeaaGreatDoorEvI
set_option linter.unusedSimpArgs false
namespace Go.Ev

section
variable {P : Program} {N dep : Nat} {γ : Gh} {β : Bl} {s : S} {a : Act} {w : World} {o : Oper}

theorem bound_ok (hi : Inv N dep γ β s a w) {ox : Option Operand} {d l : Int} (h : boundV (ox.map (ev P 0 s.m)) d = some l) : (ox = none ∧ l = d) ∨ ∃ x k, ox = some x ∧ a.eval x = .int k l := by
  cases ox with
  | none => simp only [Option.map_none, boundV, Option.some.injEq] at h; exact .inl ⟨rfl, h.symm⟩
  | some x =>
    simp only [Option.map_some, boundV] at h
    unfold asNat at h
    split at h
    · rename_i k n hx
      simp only [Option.some.injEq] at h
      subst h
      have h1 := (hi.ev P 0 x).1
      rw [hx] at h1
      simp only [RV, RC] at h1
      exact .inr ⟨x, k, rfl, h1⟩
    · cases h

theorem run_sliceBound {x : Value} {k : IntKind} {i : Int} {y : Nat} {c : BoundsCode} (hx : x = .int k i) (h : 0 ≤ i ∧ i ≤ y) : (Instr.sliceBound x y c).run P w = .ok i.toNat w := by
  subst hx
  simp [Instr.sliceBound, asIntOf, h]

theorem run_sliceBounds (isS : Bool) (len cap : Nat) {lo hi mx : Option Value} {l h m : Int}
    (hl : (lo = none ∧ l = 0) ∨ ∃ x k, lo = some x ∧ x = .int k l) (hh : (hi = none ∧ h = len) ∨ ∃ x k, hi = some x ∧ x = .int k h)
    (hm : (mx = none ∧ m = cap) ∨ ∃ x k, mx = some x ∧ x = .int k m ∧ hi ≠ none) (h1 : 0 ≤ l ∧ l ≤ h) (h2 : 0 ≤ h ∧ h ≤ m) (h3 : m ≤ cap) :
    (Instr.sliceBounds isS len cap lo hi mx).run P w = .ok (l.toNat, h.toNat, m.toNat) w := by
  unfold Instr.sliceBounds
  rcases hm with ⟨rfl, rfl⟩ | ⟨mv, km, rfl, rfl, hne⟩
  · rcases hh with ⟨rfl, rfl⟩ | ⟨hv, kh, rfl, rfl⟩
    · rcases hl with ⟨rfl, rfl⟩ | ⟨lv, kl, rfl, rfl⟩
      · simp
      · have := run_sliceBound (P := P) (w := w) (x := .int kl l) (k := kl) (i := l) (y := len) (c := .sliceB) rfl (by omega)
        simp [this]
    · have hb := run_sliceBound (P := P) (w := w) (x := .int kh h) (k := kh) (i := h) (y := cap) (c := if isS then .sliceAcap else .sliceAlen) rfl (by omega)
      rcases hl with ⟨rfl, rfl⟩ | ⟨lv, kl, rfl, rfl⟩
      · simp [hb]
      · have := run_sliceBound (P := P) (w := w) (x := .int kl l) (k := kl) (i := l) (y := h.toNat) (c := .sliceB) rfl (by omega)
        simp [hb, this]
  · rcases hh with ⟨rfl, rfl⟩ | ⟨hv, kh, rfl, rfl⟩
    · exact absurd rfl hne
    · have hb := run_sliceBound (P := P) (w := w) (x := .int km m) (k := km) (i := m) (y := cap) (c := if isS then .slice3Acap else .slice3Alen) rfl (by omega)
      have hc := run_sliceBound (P := P) (w := w) (x := .int kh h) (k := kh) (i := h) (y := m.toNat) (c := .slice3B) rfl (by omega)
      rcases hl with ⟨rfl, rfl⟩ | ⟨lv, kl, rfl, rfl⟩
      · simp [hb, hc]
      · have := run_sliceBound (P := P) (w := w) (x := .int kl l) (k := kl) (i := l) (y := h.toNat) (c := .slice3C) rfl (by omega)
        simp [hb, hc, this]

theorem cut_length {α : Type} (l h : Nat) (xs : List α) (h1 : l ≤ h) (h2 : h ≤ xs.length) : (cut l h xs).length = h - l := by
  simp [cut]
  omega

/-- A cut of a slice's cells. -/
theorem SlOK.cut {z : Nat} {es : List (List D)} {ad : Option Addr} {len cap : Nat} (h : SlOK z es ad len cap (fun b o => RRow γ b o es)) {l k m : Nat} (h1 : l ≤ k) (h2 : k ≤ es.length) (h3 : k ≤ m) (h4 : m ≤ cap) :
    SlOK z (cut l k es) (if m = l then ad else ad.map (·.add (l * z))) (k - l) (m - l) (fun b o => RRow γ b o (cut l k es)) := by
  obtain ⟨g1, g2, g3, g4, g5⟩ := h
  refine ⟨(cut_length l k es h1 h2).symm, by omega, fun e he => g3 e ?_, fun hn => ?_, fun ad' hd => ?_⟩
  · unfold Ev.cut at he
    exact List.mem_of_mem_drop (List.mem_of_mem_take he)
  · have hn' : ad = none := by
      split at hn
      · exact hn
      · simpa using hn
    have := g4 hn'
    rw [this.1]
    exact ⟨by simp [Ev.cut], by omega⟩
  · cases ad with
    | none => split at hd <;> simp at hd
    | some ad =>
      obtain ⟨g6, g7⟩ := g5 ad rfl
      obtain ⟨b, o', sp⟩ := ad
      simp only at g6
      split at hd
      · rename_i hml
        simp only [Option.some.injEq] at hd
        subst hd
        have : Ev.cut l k es = [] := List.eq_nil_of_length_eq_zero (by rw [cut_length l k es h1 h2]; omega)
        rw [this]
        exact ⟨fun _ => by omega, by simp only [RRow]⟩
      · rename_i hml
        obtain rfl := g6 (by omega)
        simp only [Option.map_some, Option.some.injEq, Addr.add_none] at hd
        subst hd
        exact ⟨fun _ => rfl, RRow.take _ _ _ _ (RRow.drop l es z b o' g7 g3)⟩

theorem land_slice (hi : Inv N dep γ β s a w) {t : TypeId} {x : Operand} {lo hi' mx : Option Operand} (ho : o.op = .slice t x lo hi' mx) {v : V}
    (h : sliceV P t (ev P 0 s.m x) (lo.map (ev P 0 s.m)) (hi'.map (ev P 0 s.m)) (mx.map (ev P 0 s.m)) = some v) : Land P N dep γ β s a w o v (give s x) := by
  obtain ⟨hx, hxl⟩ := hi.ev P 0 x
  unfold sliceV at h
  split at h
  · -- a string
    rename_i ht
    split at h
    · rename_i l hs hm
      split at h
      · rename_i i j h1 h2
        split at h
        · rename_i hj
          split at h
          · rename_i hij
            simp only [Option.some.injEq] at h
            subst h
            rw [hs] at hx
            simp only [RV, RC] at hx
            have hmx : mx = none := by cases mx <;> simp at hm ⊢
            subst hmx
            have hb := run_sliceBounds (P := P) (w := w) false l.length l.length (lo := lo.map a.eval) (hi := hi'.map a.eval) (mx := none) (l := i) (h := j) (m := l.length)
              (by rcases bound_ok hi h1 with ⟨rfl, rfl⟩ | ⟨y, k, rfl, hy⟩
                  · exact .inl ⟨rfl, rfl⟩
                  · exact .inr ⟨_, k, rfl, hy⟩)
              (by rcases bound_ok hi h2 with ⟨rfl, rfl⟩ | ⟨y, k, rfl, hy⟩
                  · exact .inl ⟨rfl, rfl⟩
                  · exact .inr ⟨_, k, rfl, hy⟩)
              (.inl ⟨rfl, rfl⟩) hij (by omega) (by omega)
            refine Land.moved hi (u := .string ⟨(cut i.toNat j.toNat l).toArray⟩) ?_ (by simp only [RV, RC]) rfl (fun _ _ hh => by cases hh)
            have hsz : (⟨l.toArray⟩ : ByteArray).size = l.length := by simp [ByteArray.size]
            have hex : (⟨l.toArray⟩ : ByteArray).extract i.toNat j.toNat = ⟨(cut i.toNat j.toNat l).toArray⟩ := by
              apply ByteArray.ext
              rw [ByteArray.data_extract]
              apply Array.ext'
              simp [cut]
            simp [execOp, ho, Instr.sliceAt, Instr.slice, run_underlying ht, hx, hsz, hb, hex]
          · cases h
        · cases h
      · cases h
    · cases h
  · -- a slice
    rename_i e ht
    split at h
    · rename_i k z es hs
      split at h
      · rename_i hz
        split at h
        · rename_i i j h1 h2
          split at h
          · rename_i hj
            split at h
            · rename_i hij
              rw [hs] at hx hxl
              simp only [RV, RC] at hx
              obtain ⟨ad, len, cap, hX, hok, hk⟩ := hx
              have hlen := hok.1
              have hcap := hok.2.1
              have hlo : (lo.map a.eval = none ∧ i = 0) ∨ ∃ x k, lo.map a.eval = some x ∧ x = .int k i := by
                rcases bound_ok hi h1 with ⟨rfl, rfl⟩ | ⟨y, k, rfl, hy⟩
                · exact .inl ⟨rfl, rfl⟩
                · exact .inr ⟨_, k, rfl, hy⟩
              have hhi : (hi'.map a.eval = none ∧ j = len) ∨ ∃ x k, hi'.map a.eval = some x ∧ x = .int k j := by
                rcases bound_ok hi h2 with ⟨rfl, rfl⟩ | ⟨y, k, rfl, hy⟩
                · exact .inl ⟨rfl, by omega⟩
                · exact .inr ⟨_, k, rfl, hy⟩
              have hgive : ∀ (v : V) (u : Value), (execOp a.eval o).run P w = .ok (.value u) w → RV γ β (opPos dep x) v u → v.le dep = true → Land P N dep γ β s a w o v (give s x) := fun v u hr hv hl =>
                Land.moved hi hr hv hl (fun t' ht' _ => by
                  subst ht'
                  have : getT s.m t' = .c (.sl k z es) := hs
                  rw [this]; rfl)
              have hrun : ∀ m : Int, ((mx.map a.eval = none ∧ m = cap) ∨ ∃ x k, mx.map a.eval = some x ∧ x = .int k m ∧ hi'.map a.eval ≠ none) → j ≤ m → m ≤ cap →
                  (execOp a.eval o).run P w = .ok (.value (.slice (if m.toNat = i.toNat then ad else ad.map (·.add (i.toNat * z))) (j.toNat - i.toNat) (m.toNat - i.toNat))) w := by
                intro m hm h3 h4
                have hb := run_sliceBounds (P := P) (w := w) true len cap hlo hhi hm hij (by omega) h4
                simp [execOp, ho, Instr.sliceAt, Instr.slice, run_underlying ht, hX, hb, run_sizeOf' hz]
              split at h
              · -- x[lo:]
                rename_i hm hh
                simp only [Option.some.injEq] at h
                subst h
                have hmx : mx = none := by cases mx <;> simp at hm ⊢
                have hhi0 : hi' = none := by cases hi' <;> simp at hh ⊢
                subst hmx hhi0
                have hjl : j = len := by
                  rcases hhi with ⟨_, h⟩ | ⟨_, _, h, _⟩
                  · exact h
                  · simp at h
                refine hgive _ _ (hrun cap (.inl ⟨rfl, rfl⟩) (by omega) (by omega)) ?_ rfl
                have hcut := hok.cut (l := i.toNat) (k := j.toNat) (m := (cap : Int).toNat) (by omega) (by omega) (by omega) (by omega)
                have hd : cut i.toNat j.toNat es = es.drop i.toNat := by
                  unfold cut
                  rw [List.take_of_length_le (by simp; omega)]
                rw [hd] at hcut
                simp only [RV, RC]
                refine ⟨_, _, _, rfl, hcut, ?_⟩
                cases k with
                | own =>
                  simp only [KOK] at hk ⊢
                  cases hp : opPos dep x with
                  | none => rw [hp] at hk; exact hk
                  | some p =>
                    rw [hp] at hk
                    intro ad' had o'' h5 h6
                    cases ad with
                    | none => split at had <;> simp at had
                    | some ad =>
                      obtain ⟨g6, _⟩ := hok.2.2.2.2 ad rfl
                      obtain ⟨b, o', sp⟩ := ad
                      simp only at g6
                      have hok2 := hok.2.1
                      split at had
                      · simp only [Option.some.injEq] at had
                        subst had
                        rename_i hci
                        rw [show (cap : Int).toNat - i.toNat = 0 by omega, Nat.zero_mul] at h6
                        omega
                      · rename_i hci
                        obtain rfl := g6 (by omega)
                        simp only [Option.map_some, Option.some.injEq, Addr.add_none] at had
                        subst had
                        refine hk _ rfl o'' ?_ ?_
                        · have : len * z = i.toNat * z + (j.toNat - i.toNat) * z := by rw [← Nat.add_mul]; congr 1; omega
                          simp only at h5 ⊢
                          omega
                        · have : cap * z = i.toNat * z + ((cap : Int).toNat - i.toNat) * z := by rw [← Nat.add_mul]; congr 1; omega
                          simp only at h6 ⊢
                          omega
                | nil => trivial
                | ro => trivial
                | exact => trivial
              · -- x[lo:hi]
                rename_i hm hh
                simp only [Option.some.injEq] at h
                subst h
                have hmx : mx = none := by cases mx <;> simp at hm ⊢
                subst hmx
                refine hgive _ _ (hrun cap (.inl ⟨rfl, rfl⟩) (by omega) (by omega)) ?_ rfl
                simp only [RV, RC]
                exact ⟨_, _, _, rfl, hok.cut (by omega) (by omega) (by omega) (by omega), trivial⟩
              · -- x[lo:hi:max]
                rename_i vm vh hm hh
                split at h
                · rename_i m hm'
                  split at h
                  · rename_i hmj
                    subst hmj
                    simp only [Option.some.injEq] at h
                    subst h
                    have hmx : ∃ x k, mx.map a.eval = some x ∧ x = .int k m ∧ hi'.map a.eval ≠ none := by
                      cases mx with
                      | none => simp at hm
                      | some y =>
                        have hb : boundV ((some y).map (ev P 0 s.m)) 0 = some m := by
                          simp only [Option.map_some, Option.some.injEq] at hm
                          simp only [Option.map_some, boundV, hm, hm']
                        rcases bound_ok hi hb with ⟨h, _⟩ | ⟨y', k, hy', hy⟩
                        · cases h
                        · cases hy'
                          exact ⟨_, k, rfl, hy, by cases hi' <;> simp at hh ⊢⟩
                    refine hgive _ _ (hrun m (.inr hmx) (by omega) (by omega)) ?_ rfl
                    simp only [RV, RC]
                    refine ⟨_, _, _, rfl, hok.cut (by omega) (by omega) (by omega) (by omega), ?_⟩
                    cases k with
                    | nil =>
                      simp only [KOK] at hk ⊢
                      subst hk
                      split <;> rfl
                    | ro => simp only [KOK]
                    | exact => simp only [KOK]
                    | own => simp only [KOK]
                  · cases h
                · cases h
              · cases h
            · cases h
          · cases h
        · cases h
      · cases h
    · rename_i d k off len cap z hs
      split at h
      · rename_i hz
        split at h
        · cases h
        · rename_i hm
          split at h
          · rename_i i j h1 h2
            split at h
            · rename_i hj
              split at h
              · rename_i hij
                simp only [Option.some.injEq] at h
                subst h
                rw [hs] at hx hxl
                simp only [RV, RC] at hx
                obtain ⟨b, o', hb, hX, g1, g2⟩ := hx
                have hmx : mx = none := by cases mx <;> simp at hm ⊢
                subst hmx
                have hbs := run_sliceBounds (P := P) (w := w) true len cap (lo := lo.map a.eval) (hi := hi'.map a.eval) (mx := none) (l := i) (h := j) (m := cap)
                  (by rcases bound_ok hi h1 with ⟨rfl, rfl⟩ | ⟨y, k, rfl, hy⟩
                      · exact .inl ⟨rfl, rfl⟩
                      · exact .inr ⟨_, k, rfl, hy⟩)
                  (by rcases bound_ok hi h2 with ⟨rfl, rfl⟩ | ⟨y, k, rfl, hy⟩
                      · exact .inl ⟨rfl, rfl⟩
                      · exact .inr ⟨_, k, rfl, hy⟩)
                  (.inl ⟨rfl, rfl⟩) hij (by omega) (by omega)
                refine Land.moved hi (u := .slice (if cap = i.toNat then some ⟨b, o', none⟩ else some ⟨b, o' + i.toNat * z, none⟩) (j.toNat - i.toNat) (cap - i.toNat)) ?_ ?_ ?_ (fun _ _ hh => by cases hh)
                · simp [execOp, ho, Instr.sliceAt, Instr.slice, run_underlying ht, hX, hbs, run_sizeOf' hz, Addr.add_none]
                · simp only [RV, RC]
                  by_cases hc : cap = i.toNat
                  · exact ⟨b, o', hb, by rw [if_pos hc], by omega, .inl (by omega)⟩
                  · refine ⟨b, _, hb, by rw [if_neg hc], by omega, .inr ?_⟩
                    rw [g2.resolve_left (by omega)]
                · simpa only [V.le, C.le] using hxl
              · cases h
            · cases h
          · cases h
      · cases h
    · cases h
  · cases h

end

end Go.Ev
