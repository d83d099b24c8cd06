/- A configuration's closed checks. -/
import Derived.Test.YtbfllngekcckeaaDoorEvLim
set_option linter.unusedSimpArgs false
namespace Go.Ev

def fnOK (c : Cfg) (f : FuncId) : Bool := match c.P.funcs[f]? with
  | some fn => (match fn.body with
    | some b => !(fn.name == "runtime.NumGoroutine") && codeOK c f (resTmps fn) fn.ntmps b
    | none => true)
  | none => true

def allOK (c : Cfg) (n : Nat) : Bool := (List.range n).all fun f => !c.ok f || fnOK c f

theorem fns_of {c : Cfg} {n : Nat} (hn : ∀ f, c.ok f = true → f < n) (h : allOK c n = true) : ∀ f, c.ok f = true → ∀ fn b, c.P.funcs[f]? = some fn → fn.body = some b → (fn.name == "runtime.NumGoroutine") = false ∧ codeOK c f (resTmps fn) fn.ntmps b = true := by
  intro f hf fn b h1 h2
  simp only [allOK, List.all_eq_true, List.mem_range] at h
  have := h f (hn f hf)
  rw [hf] at this
  simp only [Bool.not_true, Bool.false_or, fnOK, h1, h2, Bool.and_eq_true, Bool.not_eq_true'] at this
  exact this

theorem mask_lt {m n : Nat} (h : m < 2 ^ n) (f : Nat) (hf : Nat.testBit m f = true) : f < n := by
  rcases Nat.lt_or_ge f n with h1 | h1
  · exact h1
  · rw [Nat.testBit_lt_two_pow (Nat.lt_of_lt_of_le h (Nat.pow_le_pow_right (by omega) h1))] at hf
    cases hf

/-! ### A call, of which the record of its function is not in the way -/

def finishR (c : Cfg) (rs : List ResultVar) : Out → Option (Option V × Frames)
  | some (.panic, { fs := _ :: rest, .. }) => some (none, rest)
  | some (.normal, s) | some (.ret, s) => match s.fs with
    | own :: rest => match resVs c.P s rs with
      | some vs => match freezeVs own rest.length vs with
        | some [v] => some (some v, rest)
        | some vs => some (some (.tup (vs.map V.strip)), rest)
        | none => none
      | none => none
    | [] => none
  | _ => none

theorem finishR_eq (c : Cfg) (fn : Func) (o : Out) : finish c fn o = finishR c fn.results.toList o := by
  cases o with
  | none => rfl
  | some x =>
    obtain ⟨ex, m, fs⟩ := x
    cases ex <;> rfl

def resTmpsR (rs : List ResultVar) : List Tmp := rs.filterMap fun | .tmp t => some t | .cell _ _ => none

theorem callE_code {c : Cfg} {g : FuncId} {fn : Func} {b : Code} {rs : List ResultVar} {n : Nat} {args : List V} {fs : Frames} {x : Option V × Frames} (hf : c.P.funcs[g]? = some fn) (hp : c.prim g = none) (hok : c.ok g = true) (hb : fn.body = some b) (hr : fn.results.toList = rs)
    (ht : fn.ntmps = n) (hn : args.length ≤ n) (h : finishR c rs (evC c (callE c) itE g (resTmpsR rs) b { m := params 0 args, fs := [] :: fs }) = some x) : callE c g args fs = some x := by
  refine callE_of hp hok hf hb (by rw [ht]; exact hn) ?_
  rw [finishR_eq, hr]
  have : resTmps fn = resTmpsR rs := by
    unfold resTmps resTmpsR
    rw [hr]
    congr 1
  rw [this]
  exact h

end Go.Ev
