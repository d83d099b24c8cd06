/- Ranging over a string of bytes below 128: the iterator's block, beside the evaluator's invariant. -/
import Derived.Test.YtbfllngekcckeaaGreatDoorEvPz
import Derived.Test.YtbfllngekcckeaaGreatDoorEvSx
import Derived.Laws.RangeString
import Derived.Tactics
set_option linter.unusedSimpArgs false
set_option linter.unusedVariables false
namespace Go.Ev
open Go.RowKit (Below)

section
variable {c : Cfg} {call : CallF} {it : (S → Out) → List Nat → S → Out} {f : Nat} {res : List Tmp} {P : Program} {N dep : Nat} {γ γ₀ : Gh} {β β₀ : Bl} {s s1 : S} {fs : Frames} {a : Act} {w w' w₀ : World}

theorem Inv.below (hi : Inv N dep γ β s a w) (hb : Below w.heap.size w w') : Inv N dep γ β s a w' := by
  have hw := hi.winv.below hb
  exact ⟨hi.size, hi.len, hi.tm, hi.tle, hw.ob, hi.ole, hi.dom, hw.gh, hi.mix⟩

/-- The iterator's block is no one's but the loop's. -/
structure Iter (γ : Gh) (w w₀ : World) (B : Nat) (t : ByteArray) (pos : Nat) : Prop where
  here : w.heap[B]? = some (.stringIter t pos)
  free : ∀ o, γ B o = .none
  late : w₀.heap.size ≤ B

def moved (w : World) (B : Nat) (t : ByteArray) (pos : Nat) : World := { w with heap := w.heap.setIfInBounds B (.stringIter t pos) }

theorem moved_other {B b : Nat} {t : ByteArray} {pos : Nat} (h : b ≠ B) : (moved w B t pos).heap[b]? = w.heap[b]? := by
  simp only [moved, Array.getElem?_setIfInBounds]
  rw [if_neg (fun e => h e.symm)]

theorem Iter.lt {B : Nat} {t : ByteArray} {pos : Nat} (h : Iter γ w w₀ B t pos) : B < w.heap.size := by
  rcases Nat.lt_or_ge B w.heap.size with hb | hb
  · exact hb
  · have := h.here
    rw [Array.getElem?_eq_none hb] at this
    cases this

theorem moved_here {B : Nat} {t : ByteArray} {pos : Nat} (h : B < w.heap.size) : (moved w B t pos).heap[B]? = some (.stringIter t pos) := by
  simp only [moved, Array.getElem?_setIfInBounds]
  rw [if_pos trivial, if_pos h]

theorem moved_cell {ad : Addr} {B : Nat} {t : ByteArray} {pos : Nat} (h : ad.block ≠ B) : (moved w B t pos).cell? ad = w.cell? ad := by
  simp only [World.cell?, moved_other h]

theorem moved_frozen {ad : Addr} {B : Nat} {t : ByteArray} {pos : Nat} (h : ad.block ≠ B) : (moved w B t pos).frozen? ad = w.frozen? ad := by
  simp only [World.frozen?, moved_other h]

theorem Inv.moved (hi : Inv N dep γ β s a w) {B : Nat} {t : ByteArray} {pos pos' : Nat} (h : Iter γ w w₀ B t pos) : Inv N dep γ β s a (moved w B t pos') := by
  have hne : ∀ {b o : Nat}, γ b o ≠ .none → b ≠ B := fun {b o} h1 e => by
    subst e
    exact h1 (h.free o)
  have hob : ∀ {b : Nat} {cs t' fz}, w.heap[b]? = some (.cells cs t' fz) → b ≠ B := fun {b cs t' fz} e1 e2 => by
    subst e2
    rw [h.here] at e1
    cases e1
  refine ⟨hi.size, hi.len, hi.tm, hi.tle, fun d k cs hl => ?_, hi.ole, hi.dom, ⟨fun b o => ?_, hi.gh.2.mono (fun _ _ _ h => h) fun b cs t' fz e => ⟨cs, t', fz, by rw [moved_other (hob e)]; exact e, rfl⟩⟩, hi.mix⟩
  · obtain ⟨b, vs, ty, fz, h1, h2, h3⟩ := hi.ob d k cs hl
    exact ⟨b, vs, ty, fz, h1, by rw [moved_other (hob h2)]; exact h2, h3⟩
  · have := hi.gh.1 b o
    cases e : γ b o with
    | none => trivial
    | perm v => simp only [e] at this ⊢; rw [moved_cell (hne (by rw [e]; simp))]; exact this
    | tail r => simp only [e] at this ⊢; rw [moved_cell (hne (by rw [e]; simp)), moved_frozen (hne (by rw [e]; simp))]; exact this
    | obj d k => simp only [e] at this ⊢; rw [moved_cell (hne (by rw [e]; simp)), moved_frozen (hne (by rw [e]; simp))]; exact this

theorem Ext.moved (hx : Ext dep fs γ₀ β₀ w₀ γ β w) (hg : GhOK γ₀ w₀) {B : Nat} {t : ByteArray} {pos pos' : Nat} (h : Iter γ w w₀ B t pos) : Ext dep fs γ₀ β₀ w₀ γ β (moved w B t pos') := by
  refine ⟨hx.perm, hx.tail, hx.bl, ?_, fun b hb hs => ?_, fun b d k h0 h1 h2 h3 => ?_, hx.hidt, hx.os, hx.tape, hx.output⟩
  · have := hx.size
    simp only [Ev.moved, Array.size_setIfInBounds]
    exact this
  · obtain ⟨h1, h2⟩ := hx.still b hb hs
    have := h.late
    exact ⟨by rw [moved_other (by omega)]; exact h1, h2⟩
  · obtain ⟨h4, h5⟩ := hx.hid b d k h0 h1 h2 h3
    have hb : b < w₀.heap.size := by obtain ⟨o, ho⟩ := h3; exact hg.lt (by rw [ho]; simp)
    have := h.late
    exact ⟨by rw [moved_other (by omega)]; exact h4, h5⟩

theorem Iter.moved {B : Nat} {t : ByteArray} {pos pos' : Nat} (h : Iter γ w w₀ B t pos) : Iter γ (moved w B t pos') w₀ B t pos' := ⟨moved_here h.lt, h.free, h.late⟩

theorem Iter.after {B : Nat} {t : ByteArray} {pos : Nat} (h : Iter γ w w₀ B t pos) {γ' : Gh} {β' : Bl} {fs' : Frames} (hx : Ext dep fs' γ β w γ' β' w') : Iter γ' w' w₀ B t pos := by
  obtain ⟨h1, h2⟩ := hx.still B h.lt fun o => .inl (h.free o)
  exact ⟨h1.trans h.here, fun o => by rw [h2]; exact h.free o, h.late⟩

theorem next_more {B pos : Nat} {t : ByteArray} (hB : w.heap[B]? = some (.stringIter t pos)) (ty : TypeId) (h : pos < t.size) (ha : (t[pos]'h).toNat < 128) :
    (Instr.next (.pointer (some ⟨B, 0, none⟩)) true ty).run P w = .ok (.tuple #[.bool true, .int .i64 pos, .int .i32 (t[pos]'h).toNat]) (moved w B t (pos + 1)) := by
  simp only [Instr.next, getObj, setObj, Sem.run_bind, Sem.run, hB, Result.andThen, h, if_true, decode_ascii t pos h ha]
  simp [goInt, Sem.run, moved]

theorem next_end {B pos : Nat} {t : ByteArray} (hB : w.heap[B]? = some (.stringIter t pos)) (ty : TypeId) (h : ¬pos < t.size) :
    (Instr.next (.pointer (some ⟨B, 0, none⟩)) true ty).run P w = .ok (.tuple #[.bool false]) w := by
  simp [Instr.next, getObj, Sem.run, hB, h]

theorem range_wp {o : Oper} {t : TypeId} {x : Operand} {u : ByteArray} {K : Act → World → Prop} {Q : Exit → Act → World → Prop} (ho : o.op = .range t x) (he : a.eval x = .string u) (ht : P.underlying t = some .string)
    (hK : K (a.put o.dst (.pointer (some ⟨w.heap.size, 0, none⟩))) (w.iter u 0)) : o.wp P a w K Q := by
  have : (execOp a.eval o).run P w = .ok (.value (.pointer (some ⟨w.heap.size, 0, none⟩))) (w.iter u 0) := by
    have := run_range_string (P := P) w t u ht
    simp [execOp, ho, he, this]
  unfold Oper.wp
  rw [this]
  exact hK

theorem nextMore_wp {o : Oper} {x : Operand} {u : ByteArray} {B pos : Nat} {K : Act → World → Prop} {Q : Exit → Act → World → Prop} (ho : o.op = .next x true) (he : a.eval x = .pointer (some ⟨B, 0, none⟩)) (hB : w.heap[B]? = some (.stringIter u pos))
    (h : pos < u.size) (ha : (u[pos]'h).toNat < 128) (hK : K (a.put o.dst (.tuple #[.bool true, .int .i64 pos, .int .i32 (u[pos]'h).toNat])) (moved w B u (pos + 1))) : o.wp P a w K Q := by
  have : (execOp a.eval o).run P w = .ok (.value (.tuple #[.bool true, .int .i64 pos, .int .i32 (u[pos]'h).toNat])) (moved w B u (pos + 1)) := by
    have := next_more (P := P) hB o.type h ha
    simp [execOp, ho, he, this]
  unfold Oper.wp
  rw [this]
  exact hK

theorem nextEnd_wp {o : Oper} {x : Operand} {u : ByteArray} {B pos : Nat} {K : Act → World → Prop} {Q : Exit → Act → World → Prop} (ho : o.op = .next x true) (he : a.eval x = .pointer (some ⟨B, 0, none⟩)) (hB : w.heap[B]? = some (.stringIter u pos))
    (h : ¬pos < u.size) (hK : K (a.put o.dst (.tuple #[.bool false])) w) : o.wp P a w K Q := by
  have : (execOp a.eval o).run P w = .ok (.value (.tuple #[.bool false])) w := by
    have := next_end (P := P) hB o.type h
    simp [execOp, ho, he, this]
  unfold Oper.wp
  rw [this]
  exact hK

theorem frag_any {code : Code} {Q : Exit → Act → World → Prop} (hcall : CallOK c.P call) (hc : Even call) (hit : ItOK it) (hdep : 1 ≤ dep) (hm : c.P.follows .mixedOrders = true) (hok : codeOK c f res N code = true)
    (h : evC c call it f res code s = some (.normal, s1)) (hi : Inv N dep γ β s a w)
    (hk : ∀ γ' β' a' w', Inv N dep γ' β' s1 a' w' → Ext dep s.fs γ β w γ' β' w' → Shape dep s.fs s1.fs → a'.defers = a.defers → Q .normal a' w') : code.wp c.P Q a w := by
  refine evC_ok hcall hc hit hdep hm code hok s s1 .normal γ β a w _ h hi fun e γ' β' a' w' k1 k2 k3 k4 k5 => ?_
  cases e with
  | normal => exact hk _ _ _ _ k2 k3 k4 k5
  | exit _ => exact k1.elim
  | goto _ => exact k1.elim
  | ret => exact k1.elim
  | panic _ => exact k1.elim
  | outgrown => exact k1.elim

/-- A piece of code that the evaluator runs through. -/
theorem frag_ok {code : Code} {next : Act → World → Prop} {Q : Exit → Act → World → Prop} (hcall : CallOK c.P call) (hc : Even call) (hit : ItOK it) (hdep : 1 ≤ dep) (hm : c.P.follows .mixedOrders = true) (hok : codeOK c f res N code = true)
    (h : evC c call it f res code s = some (.normal, s1)) (hi : Inv N dep γ β s a w)
    (hk : ∀ γ' β' a' w', Inv N dep γ' β' s1 a' w' → Ext dep s.fs γ β w γ' β' w' → Shape dep s.fs s1.fs → a'.defers = a.defers → next a' w') : code.wp c.P (Exit.then next Q) a w := by
  refine evC_ok hcall hc hit hdep hm code hok s s1 .normal γ β a w _ h hi fun e γ' β' a' w' k1 k2 k3 k4 k5 => ?_
  cases e with
  | normal => exact hk _ _ _ _ k2 k3 k4 k5
  | exit _ => exact k1.elim
  | goto _ => exact k1.elim
  | ret => exact k1.elim
  | panic _ => exact k1.elim
  | outgrown => exact k1.elim

end

end Go.Ev
