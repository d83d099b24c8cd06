/- This seat's library functions. -/
import Derived.Test.YtbfllngekcckeaaGreatDoorEvT
import Derived.Test.YtbfllngekcckeaaGreatDoorEvPz
set_option linter.unusedSimpArgs false
set_option linter.unusedVariables false
namespace Go.Proofs.YtbfllngekcckeaaGreatDoor
open Go.Ev
open Go.RowKit (Below)

theorem tab_is {γ : Gh} {w : World} (h : GhOK γ w) : Lib.TabIs Tryz.prog w "internal/strconv.uint64pow10" .u64 Lib.pow10Tab := by
  obtain ⟨cs, t, fz, h1, h2⟩ := h.2.2 (gPow, 20) (by simp [tabSizes, gPow])
  have hc : ∀ i, i < 20 → cs[i]? = some (.int .u64 ((10 ^ i : Nat) : Int)) := fun i hi => by
    obtain ⟨v, h3, h4⟩ := h.2.1 (gPow, i, fun v => v = .int .u64 ((10 ^ i : Nat) : Int)) (by
      simp only [tabCells, List.mem_append, List.mem_map, List.mem_range]
      exact .inl ⟨i, hi, rfl⟩)
    have := h.1 gPow i
    rw [h3] at this
    simp only [World.cell?, h1] at this
    rw [h4] at this
    simpa using this
  have hg : Tryz.prog.globalNamed "internal/strconv.uint64pow10" = some gPow := by kernel_rfl
  unfold Lib.TabIs World.var?
  rw [hg]
  simp only [Option.bind_some, h1, Option.some.injEq]
  apply Array.ext_getElem?
  intro i
  simp only at h2
  by_cases hi : i < 20
  · rw [hc i hi]
    simp [Lib.pow10Tab, hi]
  · rw [Array.getElem?_eq_none (by omega), Array.getElem?_eq_none (by simp [Lib.pow10Tab]; omega)]

theorem err_is {γ : Gh} {w : World} (h : GhOK γ w) (g : Nat) (hg : g = gSyn ∨ g = gRng) : ∃ ev, w.cell? ⟨g, 0, none⟩ = some ev ∧ IsErr ev := by
  obtain ⟨v, h3, h4⟩ := h.2.1 (g, 0, IsErr) (by
    simp only [tabCells, List.mem_append, List.mem_cons]
    rcases hg with rfl | rfl
    · exact .inr (.inl rfl)
    · exact .inr (.inr (.inl rfl)))
  have := h.1 g 0
  rw [h3] at this
  exact ⟨v, this, h4⟩

theorem itoa_ok : PrimOK Tryz.prog 61 primItoa := by
  refine ⟨fun args fs v fs' h => ?_, callFunc_enter (fn := Tryz.f61) (by kernel_rfl) rfl (by kernel_rfl), fun args fs r fs' h dep γ β w vals q hd hw ha hl => ?_⟩
  · unfold primItoa at h
    split at h
    · split at h
      · cases h; rfl
      · cases h
    · cases h
  · unfold primItoa at h
    split at h
    · rename_i n
      split at h
      · rename_i hn
        cases h
        match vals, ha with
        | [v], ha =>
          simp only [RArgs, RV, RC, and_true] at ha
          subst ha
          refine (Tryz.strconv_Itoa n hn.1 hn.2 w (tab_is hw.gh)).mono ?_
          rintro e w' ⟨rfl, k, os, rfl⟩
          refine prim_ends hw (Lib.below_grow _ w (Nat.le_refl _) k os) ?_ rfl
          simp only [RV, RC, itoaF_eq n hn.1 hn.2]
        | [], ha => simp only [RArgs] at ha
        | _ :: _ :: _, ha => simp only [RArgs, and_false] at ha
      · cases h
    · cases h

theorem trim_ok : PrimOK Tryz.prog 72 primTrimPrefix := by
  refine ⟨fun args fs v fs' h => ?_, callFunc_enter (fn := Tryz.f72) (by kernel_rfl) rfl (by kernel_rfl), fun args fs r fs' h dep γ β w vals q hd hw ha hl => ?_⟩
  · unfold primTrimPrefix at h
    split at h
    · cases h; rfl
    · cases h
  · unfold primTrimPrefix at h
    split at h
    · rename_i s p
      cases h
      match vals, ha with
      | [v, u], ha =>
        simp only [RArgs, RV, RC, and_true] at ha
        obtain ⟨rfl, rfl⟩ := ha
        refine (Tryz.strings_TrimPrefix _ _ w).mono ?_
        rintro e w' ⟨rfl, rfl⟩
        refine prim_ends hw (Below.refl _ _) ?_ rfl
        simp only [RV, RC]
      | [], ha => simp only [RArgs] at ha
      | [_], ha => simp only [RArgs, and_false] at ha
      | _ :: _ :: _ :: _, ha => simp only [RArgs, and_false] at ha
    · cases h

theorem containsRune_ok : PrimOK Tryz.prog 42 primContainsRune := by
  refine ⟨fun args fs v fs' h => ?_, callFunc_enter (fn := Tryz.f42) (by kernel_rfl) rfl (by kernel_rfl), fun args fs r fs' h dep γ β w vals q hd hw ha hl => ?_⟩
  · unfold primContainsRune at h
    split at h
    · split at h
      · cases h; rfl
      · cases h
    · cases h
  · unfold primContainsRune at h
    split at h
    · rename_i s c
      split at h
      · rename_i hc
        cases h
        match vals, ha with
        | [v, u], ha =>
          simp only [RArgs, RV, RC, and_true] at ha
          obtain ⟨rfl, rfl⟩ := ha
          refine (Tryz.strings_ContainsRune_ascii _ c w hc.1 hc.2).mono ?_
          rintro e w' ⟨rfl, rfl⟩
          refine prim_ends hw (Below.refl _ _) ?_ rfl
          simp only [RV, RC, Lib.contains_iff_indexByte]
        | [], ha => simp only [RArgs] at ha
        | [_], ha => simp only [RArgs, and_false] at ha
        | _ :: _ :: _ :: _, ha => simp only [RArgs, and_false] at ha
      · cases h
    · cases h

theorem flat_strs : ∀ l : List (List UInt8), (l.map fun s => [D.str s]).flatten = l.map D.str
  | [] => rfl
  | x :: r => by
    have := flat_strs r
    simp only [List.map_cons, List.flatten_cons, this]
    rfl

theorem join_ok : PrimOK Tryz.prog 36 primJoin := by
  refine ⟨fun args fs v fs' h => ?_, callFunc_enter (fn := Tryz.f36) (by kernel_rfl) rfl (by kernel_rfl), fun args fs r fs' h dep γ β w vals q hd hw ha hl => ?_⟩
  · unfold primJoin at h
    split at h
    · split at h
      · split at h
        · cases h; rfl
        · cases h
      · cases h
    · cases h
  · unfold primJoin at h
    split at h
    · rename_i k es sep
      split at h
      · rename_i l hs
        split at h
        · rename_i hb
          cases h
          have hes := strsOf_eq hs
          match vals, ha with
          | [v, u], ha =>
            simp only [RArgs, RV, RC, and_true] at ha
            obtain ⟨⟨a, len, cap, rfl, ⟨g1, g2, g3, g4, g5⟩, _⟩, rfl⟩ := ha
            have hlen : len = l.length := by rw [g1, hes, List.length_map]
            have fin : ∀ (e : Ending) (w' : World), e = .returned (.string ⟨(joinF sep l).toArray⟩) ∧ Below w.heap.size w w' → Ev.Ends dep fs γ β w (some (.c (.str (joinF sep l)))) fs (.tmp dep q) e w' := by
              rintro e w' ⟨rfl, hb⟩
              exact prim_ends hw hb (by simp only [RV, RC]) rfl
            by_cases h0 : l = []
            · subst h0
              obtain rfl : len = 0 := hlen
              refine (Tryz.strings_Join_none a cap _ w).mono ?_
              rintro e w' ⟨rfl, rfl⟩
              exact fin _ _ ⟨rfl, Below.refl _ _⟩
            · have hpos : 0 < l.length := List.length_pos_iff.2 h0
              cases a with
              | none =>
                have := (g4 rfl).2
                omega
              | some ad =>
                obtain ⟨g6, g7⟩ := g5 ad rfl
                obtain ⟨b, o, sp⟩ := ad
                obtain rfl := g6 (by omega)
                obtain ⟨vs, hv, hp⟩ := RRow.vr g7
                have hcell : ∀ (j : Nat) x, (l.map fun s => (⟨s.toArray⟩ : ByteArray))[j]? = some x → w.cell? ⟨b, o + j, none⟩ = some (.string x) := fun j x hx => by
                  simp only [List.getElem?_map, Option.map_eq_some_iff] at hx
                  obtain ⟨s, hs, rfl⟩ := hx
                  have hj : es.flatten[j]? = some (.str s) := by
                    rw [hes]
                    rw [flat_strs]
                    simp [hs]
                  obtain ⟨v, h1, h2⟩ := hv.2 j _ hj
                  simp only [RD] at h2
                  subst h2
                  have := hw.gh.1 b (o + j)
                  rw [hp j _ h1] at this
                  exact this
                have hmap : (l.map fun s => (⟨s.toArray⟩ : ByteArray)).map (·.data.toList) = l := by
                  rw [List.map_map]
                  exact (List.map_congr_left fun _ _ => rfl).trans (List.map_id l)
                have hblk : b < w.heap.size := by
                  obtain ⟨s, hs⟩ : ∃ s, l[0]? = some s := ⟨l[0], by simp⟩
                  exact World.block_lt_of_cell? w _ (hcell 0 ⟨s.toArray⟩ (by simp [hs]))
                have hj := Tryz.strings_Join b o cap (l.map fun s => (⟨s.toArray⟩ : ByteArray)) ⟨sep.toArray⟩ w hcell hblk (by simpa using hb.1) (by simp; omega) (by rw [hmap, ← joinF_eq]; exact hb.2)
                rw [hmap, List.length_map, ← hlen, ← joinF_eq] at hj
                exact hj.mono fin
          | [], ha => simp only [RArgs] at ha
          | [_], ha => simp only [RArgs, and_false] at ha
          | _ :: _ :: _ :: _, ha => simp only [RArgs, and_false] at ha
        · cases h
      · cases h
    · cases h

theorem atoi_else {s : List UInt8} (h1 : ∀ n, Lib.atoiAll s = .ok n → False) (h2 : Lib.atoiAll s = .range → False) : Lib.atoiAll s = Lib.atoiAll [] := by
  cases e : Lib.atoiAll s with
  | ok n => exact (h1 n e).elim
  | range => exact (h2 e).elim
  | _ => rfl

theorem atoi_ok : PrimOK Tryz.prog 71 primAtoi := by
  refine ⟨fun args fs v fs' h => ?_, callFunc_enter (fn := Tryz.f71) (by kernel_rfl) rfl (by kernel_rfl), fun args fs r fs' h dep γ β w vals q hd hw ha hl => ?_⟩
  · unfold primAtoi at h
    split at h
    · split at h
      · split at h <;> (cases h; rfl)
      · cases h
    · cases h
  · unfold primAtoi at h
    split at h
    · rename_i s
      split at h
      · rename_i hs
        match vals, ha with
        | [v], ha =>
          simp only [RArgs, RV, RC, and_true] at ha
          subst ha
          split at h
          · rename_i n hn
            cases h
            refine (Tryz.strconv_Atoi_ok ⟨s.toArray⟩ (by rw [str_size]; omega) n hn w).mono ?_
            rintro e w' ⟨rfl, hw'⟩
            refine prim_ends hw ?_ ?_ rfl
            · rcases hw' with rfl | ⟨t, rfl⟩
              · exact Below.refl _ _
              · exact Lib.bytesWorld_below _ _ _
            · exact ⟨_, rfl, rfl, rfl, trivial⟩
          · rename_i hn
            cases h
            obtain ⟨ev, h1, h2⟩ := err_is hw.gh gRng (.inr rfl)
            refine (Tryz.strconv_Atoi_range ⟨s.toArray⟩ (by rw [str_size]; omega) hn ev w h1 h2).mono ?_
            rintro e w' ⟨N, rfl, _, _, hb⟩
            exact prim_ends hw hb ⟨_, rfl, rfl, ⟨_, _, rfl⟩, trivial⟩ rfl
          · rename_i hn hn'
            cases h
            obtain ⟨ev, h1, h2⟩ := err_is hw.gh gSyn (.inl rfl)
            refine (Tryz.strconv_Atoi_syntax ⟨s.toArray⟩ (by rw [str_size]; omega) (atoi_else hn hn') ev w h1 h2).mono ?_
            rintro e w' ⟨N, rfl, _, _, hb⟩
            exact prim_ends hw hb ⟨_, rfl, rfl, ⟨_, _, rfl⟩, trivial⟩ rfl
        | [], ha => simp only [RArgs] at ha
        | _ :: _ :: _, ha => simp only [RArgs, and_false] at ha
      · cases h
    · cases h

end Go.Proofs.YtbfllngekcckeaaGreatDoor
