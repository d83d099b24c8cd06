/- Every operation that is no call of a function. -/
import Derived.Test.YtbfllngekcckeaaGreatDoorEvN
set_option linter.unusedSimpArgs false
namespace Go.Ev

section
variable {N dep : Nat} {γ : Gh} {β : Bl} {s : S} {a : Act} {w : World} {o : Oper}

theorem opv_ok (c : Cfg) (hi : Inv N dep γ β s a w) {f r : Nat} {fd : List Nat} {strict : Bool} {v : V} {s' : S} (h : opv c f r fd strict o s = some (v, s')) : Land c.P N dep γ β s a w o v s' := by
  unfold opv at h
  split at h
  case h_1 x ho =>
    have := land_move (P := c.P) (fd := fd) hi ho
    split at h
    · rename_i hf
      simp only [Option.some.injEq, Prod.mk.injEq] at h
      obtain ⟨rfl, rfl⟩ := h
      simpa only [hf, if_true] using this
    · rename_i hf
      simp only [Option.some.injEq, Prod.mk.injEq] at h
      obtain ⟨rfl, rfl⟩ := h
      rwa [if_neg hf, if_neg hf] at this
  case h_2 x ho =>
    simp only [Option.some.injEq, Prod.mk.injEq] at h
    obtain ⟨rfl, rfl⟩ := h
    exact land_assign hi ho
  case h_3 x y z ho =>
    split at h
    · rename_i t hx
      have := land_pick hi ho hx (y := y) (z := z)
      split at h
      · rename_i p q hy hz
        simp only [Option.some.injEq, Prod.mk.injEq] at h
        obtain ⟨rfl, rfl⟩ := h
        rw [hy, hz] at this
        cases t <;> exact this
      · simp only [Option.some.injEq, Prod.mk.injEq] at h
        obtain ⟨rfl, rfl⟩ := h
        exact this
    · cases h
  case h_4 t ho =>
    split at h
    · rename_i cs hz
      split at h
      · rename_i p s'' hn
        simp only [Option.some.injEq, Prod.mk.injEq] at h
        obtain ⟨rfl, rfl⟩ := h
        exact land_alloc hi ho hz hn
      · cases h
    · cases h
  case h_5 t x ho =>
    split at h
    · rename_i cs hc
      split at h
      · rename_i p s'' hn
        simp only [Option.some.injEq, Prod.mk.injEq] at h
        obtain ⟨rfl, rfl⟩ := h
        exact land_box hi ho hc hn
      · cases h
    · cases h
  case h_6 t parts ho =>
    split at h
    · rename_i cs pl hz hl
      split at h
      · rename_i cs' hf
        simp only [Option.some.injEq, Prod.mk.injEq] at h
        obtain ⟨rfl, rfl⟩ := h
        exact land_build hi ho hz hl hf
      · cases h
    · cases h
  case h_7 t len parts ho =>
    split at h
    · cases h
    · rename_i e he
      split at h
      · cases h
      · rename_i z hz
        split at h
        · cases h
        · rename_i dz hd
          split at h
          · rename_i h0
            split at h
            · rename_i es hes
              split at h
              · split at h
                · rename_i d k p s'' hn
                  simp only [Option.some.injEq, Prod.mk.injEq] at h
                  obtain ⟨rfl, rfl⟩ := h
                  exact land_buildSlice_arr hi ho he hz hd h0 hes hn
                · cases h
              · simp only [Option.some.injEq, Prod.mk.injEq] at h
                obtain ⟨rfl, rfl⟩ := h
                exact land_buildSlice hi ho he hz hd h0 hes
            · cases h
          · cases h
  case h_8 t x ho =>
    split at h
    · rename_i z es i j hx
      split at h
      · rename_i e he
        split at h
        · rename_i v' hv
          simp only [Option.some.injEq, Prod.mk.injEq] at h
          obtain ⟨rfl, rfl⟩ := h
          exact land_load_pe hi ho hx he hv
        · cases h
      · cases h
    · rename_i d k off hx
      split at h
      · cases h
      · split at h
        · rename_i cs hl
          split at h
          · rename_i v' hv
            split at h
            · split at h
              · rename_i y
                simp only [Option.some.injEq, Prod.mk.injEq] at h
                obtain ⟨rfl, rfl⟩ := h
                exact land_load_take hi ho hx hl hv
              · cases h
            · simp only [Option.some.injEq, Prod.mk.injEq] at h
              obtain ⟨rfl, rfl⟩ := h
              exact land_load_ptr hi ho hx hl hv
          · cases h
        · cases h
    · cases h
  case h_9 t x y ho =>
    split at h
    · rename_i d k off vs hx hv
      split at h
      · rename_i cs hl
        split at h
        · rename_i hc
          simp only [Option.some.injEq, Prod.mk.injEq] at h
          obtain ⟨rfl, rfl⟩ := h
          exact land_store hi ho hx hv hl hc.1 hc.2.1 hc.2.2
        · cases h
      · cases h
    · cases h
  case h_10 x ho =>
    split at h
    · rename_i d k off hx
      simp only [Option.some.injEq, Prod.mk.injEq] at h
      obtain ⟨rfl, rfl⟩ := h
      exact land_nilCheck hi ho hx (.inl ⟨_, _, _, rfl⟩)
    · rename_i z es i j hx
      simp only [Option.some.injEq, Prod.mk.injEq] at h
      obtain ⟨rfl, rfl⟩ := h
      exact land_nilCheck hi ho hx (.inr (.inl ⟨_, _, _, _, rfl⟩))
    · rename_i g p q hx
      simp only [Option.some.injEq, Prod.mk.injEq] at h
      obtain ⟨rfl, rfl⟩ := h
      exact land_nilCheck hi ho hx (.inr (.inr ⟨_, _, _, rfl⟩))
    · cases h
  case h_11 op t x y t' ho =>
    split at h
    · rename_i v' hv
      simp only [Option.some.injEq, Prod.mk.injEq] at h
      obtain ⟨rfl, rfl⟩ := h
      exact land_binOp hi ho hv
    · cases h
  case h_12 op t x ho =>
    split at h
    · rename_i v' hv
      simp only [Option.some.injEq, Prod.mk.injEq] at h
      obtain ⟨rfl, rfl⟩ := h
      exact land_unOp hi ho hv
    · cases h
  case h_13 src dst x ho =>
    split at h
    · rename_i v' hv
      simp only [Option.some.injEq, Prod.mk.injEq] at h
      obtain ⟨rfl, rfl⟩ := h
      by_cases hk : (convKind c.P src dst).1 = 2
      · exact land_bytes hi ho hk hv
      · obtain ⟨h1, h2⟩ := convV_ok hi.gh hv hk (hi.ev c.P src x).1
        exact Plain.land h2 hi (by simp only [execOp, ho, Sem.run_bind, h1, Result.andThen_ok, Sem.run_pure])
    · cases h
  case h_14 t x ho =>
    split at h
    · cases h
    · rename_i hf
      simp only [Bool.not_eq_true] at hf
      split at h
      · rename_i y hx
        simp only [Option.some.injEq, Prod.mk.injEq] at h
        obtain ⟨rfl, rfl⟩ := h
        exact land_makeInterface hi ho hf (.inl ⟨y, hx, rfl⟩)
      · rename_i cs hx
        simp only [Option.some.injEq, Prod.mk.injEq] at h
        obtain ⟨rfl, rfl⟩ := h
        exact land_makeInterface hi ho hf (.inr ⟨cs, hx, rfl⟩)
      · cases h
  case h_15 fn x y ho =>
    split at h
    · rename_i xs ys h1 h2
      simp only [Option.some.injEq, Prod.mk.injEq] at h
      obtain ⟨rfl, rfl⟩ := h
      exact land_makeFunc hi ho h1 h2
    · cases h
  case h_16 t l n ho =>
    split at h
    · rename_i k1 x k2 y e hl hn he
      split at h
      · rename_i z hz
        split at h
        · rename_i h1
          split at h
          · rename_i d k p s'' hnew
            simp only [Option.some.injEq, Prod.mk.injEq] at h
            obtain ⟨rfl, rfl⟩ := h
            exact land_makeSlice hi ho hl hn he hz h1 hnew
          · cases h
        · cases h
      · cases h
    · cases h
  case h_17 t x lo hi' mx ho =>
    split at h
    · rename_i v' hv
      simp only [Option.some.injEq, Prod.mk.injEq] at h
      obtain ⟨rfl, rfl⟩ := h
      exact land_slice hi ho hv
    · cases h
  case h_18 t x i ho =>
    split at h
    · rename_i off n ft hl
      split at h
      · cases h
      · rename_i hn
        split at h
        · rename_i z es p j hx
          simp only [Option.some.injEq, Prod.mk.injEq] at h
          obtain ⟨rfl, rfl⟩ := h
          exact land_fieldAddr hi ho hl hn (.inl ⟨_, _, _, _, hx, rfl⟩)
        · rename_i d k p hx
          simp only [Option.some.injEq, Prod.mk.injEq] at h
          obtain ⟨rfl, rfl⟩ := h
          exact land_fieldAddr hi ho hl hn (.inr ⟨_, _, _, hx, rfl⟩)
        · cases h
    · cases h
  case h_19 t x i ho =>
    split at h
    · rename_i off n ft cs hl hx
      split at h
      · rename_i v' hv
        simp only [Option.some.injEq, Prod.mk.injEq] at h
        obtain ⟨rfl, rfl⟩ := h
        exact land_field hi ho hl hx hv
      · cases h
    · cases h
  case h_20 t x i ho =>
    split at h
    · rename_i k n hn
      split at h
      · rename_i kd z es hx
        split at h
        · rename_i h0
          split at h
          · rename_i hz
            simp only [Option.some.injEq, Prod.mk.injEq] at h
            obtain ⟨rfl, rfl⟩ := h
            exact land_indexAddr_sl hi ho hn hx h0 hz
          · cases h
        · cases h
      · rename_i d k' off len cap z hx
        split at h
        · rename_i h0
          split at h
          · rename_i hz
            simp only [Option.some.injEq, Prod.mk.injEq] at h
            obtain ⟨rfl, rfl⟩ := h
            exact land_indexAddr_asl hi ho hn hx h0 hz
          · cases h
        · cases h
      · rename_i d k' p hx
        split at h
        · rename_i len e hu
          split at h
          · rename_i h0
            split at h
            · rename_i z hz
              split at h
              · simp only [Option.some.injEq, Prod.mk.injEq] at h
                obtain ⟨rfl, rfl⟩ := h
                exact land_indexAddr_arr hi ho hn hx hu h0 hz
              · cases h
            · cases h
          · cases h
        · cases h
      · cases h
    · cases h
  case h_21 t x i ho =>
    split at h
    · rename_i k n hn
      split at h
      · rename_i b hx
        split at h
        · rename_i hu
          split at h
          · rename_i h0
            split at h
            · rename_i u hb
              simp only [Option.some.injEq, Prod.mk.injEq] at h
              obtain ⟨rfl, rfl⟩ := h
              exact land_index_str hi ho hn hx hu h0 hb
            · cases h
          · cases h
        · cases h
      · rename_i cs hx
        split at h
        · rename_i len e hu
          split at h
          · rename_i h0
            split at h
            · rename_i z hz
              split at h
              · rename_i v' hv
                simp only [Option.some.injEq, Prod.mk.injEq] at h
                obtain ⟨rfl, rfl⟩ := h
                exact land_index_arr hi ho hn hx hu h0 hz hv
              · cases h
            · cases h
          · cases h
        · cases h
      · cases h
    · cases h
  case h_22 x i ho =>
    split at h
    · rename_i t
      split at h
      · rename_i vs ht
        split at h
        · rename_i v' hv
          simp only [Option.some.injEq, Prod.mk.injEq] at h
          obtain ⟨rfl, rfl⟩ := h
          exact land_extract hi ho ht hv
        · cases h
      · cases h
    · cases h
  case h_23 k ho =>
    split at h
    · rename_i hk
      split at h
      · rename_i x t ha ht
        split at h
        · rename_i hu
          split at h
          · rename_i n hn
            simp only [Option.some.injEq, Prod.mk.injEq] at h
            obtain ⟨rfl, rfl⟩ := h
            exact land_len (is := true) hi ho hk ha ht hu hn
          · cases h
        · rename_i e hu
          split at h
          · rename_i n hn
            simp only [Option.some.injEq, Prod.mk.injEq] at h
            obtain ⟨rfl, rfl⟩ := h
            exact land_len (is := false) hi ho hk ha ht ⟨e, hu⟩ hn
          · cases h
        · rename_i n e hu
          simp only [Option.some.injEq, Prod.mk.injEq] at h
          obtain ⟨rfl, rfl⟩ := h
          exact land_len_arr hi ho hk ha ht hu
        · cases h
      · cases h
    · rename_i hk
      split at h
      · rename_i x y t u ha ht
        split at h
        · rename_i v' hv
          simp only [Option.some.injEq, Prod.mk.injEq] at h
          obtain ⟨rfl, rfl⟩ := h
          exact land_append hi ho hk ha ht hv
        · cases h
      · cases h
    · rename_i hk
      split at h
      · rename_i x y t u ha ht
        split at h
        · rename_i d k' off len cap z hx
          split at h
          · rename_i hz
            split at h
            · rename_i n fs hc
              simp only [Option.some.injEq, Prod.mk.injEq] at h
              obtain ⟨rfl, rfl⟩ := h
              exact land_copy hi ho hk ha ht hx hz hc
            · cases h
          · cases h
        · cases h
      · cases h
    · rename_i hk
      split at h
      · rename_i kd n r' hx
        split at h
        · rename_i z hz
          simp only [Option.some.injEq, Prod.mk.injEq] at h
          obtain ⟨rfl, rfl⟩ := h
          exact land_min hi ho hk hx hz
        · cases h
      · cases h
    · rename_i hk
      split at h
      · rename_i kd n r' hx
        split at h
        · rename_i z hz
          simp only [Option.some.injEq, Prod.mk.injEq] at h
          obtain ⟨rfl, rfl⟩ := h
          exact land_max hi ho hk hx hz
        · cases h
      · cases h
    · cases h
  case h_24 => cases h

end

end Go.Ev
