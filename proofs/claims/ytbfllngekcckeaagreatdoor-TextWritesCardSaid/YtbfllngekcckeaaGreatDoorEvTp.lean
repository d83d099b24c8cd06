/- What a row of this seat holds at its start; TextPacks at the machine. -/
import Derived.Test.YtbfllngekcckeaaGreatDoorTie
import Derived.Test.YtbfllngekcckeaaGreatDoorCards
import Derived.Test.YtbfllngekcckeaaGreatDoorEvCf
import Derived.Test.YtbfllngekcckeaaGreatDoorEvRw
import Derived.Test.YtbfllngekcckeaaGreatDoorEvF13
import Derived.Lib.LaidTab
import Derived.LaidMore
set_option linter.unusedSimpArgs false
set_option linter.unusedVariables false
namespace Go.Proofs.YtbfllngekcckeaaGreatDoor
open Go.Ev
open Go.RowKit (Below)
set_option maxRecDepth 100000

abbrev seatLaid : List (String × DataW Unit) := [("math/bits.deBruijn32tab", Rows.laid_math_bits_deBruijn32tab), ("math/bits.deBruijn64tab", Rows.laid_math_bits_deBruijn64tab), ("internal/strconv.uint64pow10", Rows.laid_internal_strconv_uint64pow10), ("strconv.ErrRange", Rows.laid_strconv_ErrRange), ("strconv.ErrSyntax", Rows.laid_strconv_ErrSyntax)]

theorem tab_eq : (Rows.laid_internal_strconv_uint64pow10 : DataW Unit) = Lib.tabData .u64 Lib.pow10Tab := by kernel_rfl

theorem tab_start {W : World} (h : laidMetH Tryz.prog seatLaid W) : Tab (startG W) W := by
  rw [MakeChecks.laidMetH_plain _ _ _ (by kernel_rfl)] at h
  obtain ⟨ps, ⟨_, _, _, _, _, _, _, _, _, _, ⟨_, _, _, _, _, _, _, _, _, _, ⟨g2, t2, cs2, f2, p2, q2, hg2, ht2, hv2, hd2, ⟨g3, t3, cs3, f3, p3, q3, hg3, ht3, hv3, hd3, ⟨g4, t4, cs4, f4, p4, q4, hg4, ht4, hv4, hd4, _, _⟩, _⟩, _⟩, _⟩, _⟩, _⟩ := h
  obtain rfl := Option.some.inj ((show Tryz.prog.globalNamed "internal/strconv.uint64pow10" = some gPow by kernel_rfl).symm.trans hg2)
  obtain rfl := Option.some.inj ((show Tryz.prog.globalNamed "strconv.ErrRange" = some gRng by kernel_rfl).symm.trans hg3)
  obtain rfl := Option.some.inj ((show Tryz.prog.globalNamed "strconv.ErrSyntax" = some gSyn by kernel_rfl).symm.trans hg4)
  obtain rfl := Option.some.inj ((show (Tryz.prog.globals[gPow]?).map (·.type) = some tPow by kernel_rfl).symm.trans ht2)
  obtain rfl := Option.some.inj ((show (Tryz.prog.globals[gRng]?).map (·.type) = some tErr by kernel_rfl).symm.trans ht3)
  obtain rfl := Option.some.inj ((show (Tryz.prog.globals[gSyn]?).map (·.type) = some tErr by kernel_rfl).symm.trans ht4)
  rw [tab_eq] at hd2
  have e2 : cs2.toList = Lib.pow10Tab.map fun z => Value.int .u64 z :=
    Lib.cells_of_tab (zs := Lib.pow10Tab) Tryz.underlying132 Tryz.underlying86 (by kernel_rfl) (by kernel_rfl) hd2
  have hlen : cs2.size = 20 := by
    have := congrArg List.length e2
    rw [List.length_map, Lib.pow10Tab_length] at this
    simpa using this
  obtain ⟨v3, e3, h3⟩ := trod_iface Tryz.underlying95 hd3
  obtain ⟨v4, e4, h4⟩ := trod_iface Tryz.underlying95 hd4
  refine ⟨fun x hx => ?_, fun x hx => ?_⟩
  · simp only [tabCells, List.mem_append, List.mem_map, List.mem_range, List.mem_cons, List.not_mem_nil, or_false] at hx
    rcases hx with ⟨i, hi, rfl⟩ | rfl | rfl
    · refine ⟨_, startG_perm ((World.var?_cell hg2 hv2 i).trans ?_), rfl⟩
      rw [← Array.getElem?_toList, e2]
      simp [Lib.pow10Tab, hi]
    · refine ⟨v4, startG_perm ((World.var?_cell hg4 hv4 0).trans ?_), h4⟩
      rw [← Array.getElem?_toList, e4]
      rfl
    · refine ⟨v3, startG_perm ((World.var?_cell hg3 hv3 0).trans ?_), h3⟩
      rw [← Array.getElem?_toList, e3]
      rfl
  · simp only [tabSizes, List.mem_cons, List.not_mem_nil, or_false] at hx
    subst hx
    unfold World.var? at hv2
    rw [hg2] at hv2
    simp only [Option.bind_some] at hv2
    split at hv2
    · rename_i cs t fz hh
      simp only [Option.some.injEq] at hv2
      subst hv2
      exact ⟨cs, t, fz, hh, hlen⟩
    · cases hv2

section
variable {H : Type} {enc : TypeId × Value → H} {W : World}

/-- Polygons that came in. -/
theorem open_polys {fuel : Nat} {cs : List Value} {d : DataW H} {ps : List MemPlace} (h : DataW.trod enc Tryz.prog W 0 (fun _ => true) true fuel 22 cs = some (d, ps)) (hw : ∀ x ∈ d.weights Tryz.prog 22, x ≤ reachBytes) :
    ∃ (l : List Pg) (v : Value), cs = [v] ∧ Small l ∧ RD (startG W) (.sl 1 (encL l)) v := by
  have hr : reachBytes = 140737488351232 := rfl
  obtain ⟨l, v, h1, h2, h3, h4⟩ := open_sl1 (α := Pg) (fun g => .sl 1 (encG g)) (fun g => g.length ≤ reachBytes ∧ ∀ r ∈ g, r.length ≤ reachBytes) Tryz.underlying22 (by kernel_rfl) (of_decide_eq_true (by kernel_rfl)) (fun n v d ps h hw => by
    obtain ⟨g, v', g1, g2, g3, g4⟩ := open_sl1 (α := Rg) (fun r => .sl 2 (encR r)) (fun r => r.length ≤ reachBytes) Tryz.underlying37 (by kernel_rfl) (of_decide_eq_true (by kernel_rfl)) (fun n v d ps h hw => by
      obtain ⟨r, v', e1, e2, e3⟩ := open_sl2 Tryz.underlying39 Tryz.underlying41 (by kernel_rfl) rfl rfl (by kernel_rfl) (by kernel_rfl) Tryz.underlying3 Tryz.underlying3 (of_decide_eq_true (by kernel_rfl)) h hw
      cases e1
      exact ⟨r, e2, e3⟩) h hw
    cases g1
    exact ⟨g, ⟨g2, g3⟩, g4⟩) h hw
  exact ⟨l, v, h1, ⟨by omega, fun g hg => ⟨by have := (h3 g hg).1; omega, fun r hr' => by have := (h3 g hg).2 r hr'; omega⟩⟩, h4⟩

theorem rv_of_rd {γ : Gh} {β : Bl} {p : Option Pos} {s : Nat} {es : List (List D)} {v : Value} (h : RD γ (.sl s es) v) : RV γ β p (.c (.sl .ro s es)) v := by
  simp only [RD] at h
  obtain ⟨a, len, cap, h1, h2⟩ := h
  simp only [RV, RC]
  exact ⟨a, len, cap, h1, h2, trivial⟩

theorem cells_one {v u : Value} {b : Nat} {t e : TypeId} (ht : Tryz.prog.underlying t = some (.slice e)) (hok : Value.okWide Tryz.prog W .any b t v) (h : v.cells.toList = [u]) : v = u := by
  cases v with
  | agg cs => simp [Value.okWide, ht, Cell.okWide, Cell.ok] at hok
  | _ => simpa [Value.cells] using h

theorem laidOut : laidOutB Tryz.prog = true := by kernel_rfl
theorem own : ownKnob Tryz.prog.godebug = none := by kernel_rfl

end

end Go.Proofs.YtbfllngekcckeaaGreatDoor
