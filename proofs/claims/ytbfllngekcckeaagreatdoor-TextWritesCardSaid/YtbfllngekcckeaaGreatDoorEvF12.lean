/- What is packed is unpacked. -/
import Derived.Test.YtbfllngekcckeaaGreatDoorEvF11
namespace Go.Proofs.YtbfllngekcckeaaGreatDoor
open Go.Ev
set_option linter.unusedSimpArgs false
set_option linter.unusedVariables false

def u8of (m : Int) : UInt8 := UInt8.ofNat (m % 256).toNat
def b4 (n : Int) : List UInt8 := [u8of (n / 16777216), u8of (n / 65536), u8of (n / 256), u8of n]
def bP (p : Int × Int) : List UInt8 := b4 p.1 ++ b4 p.2
def bR (r : Rg) : List UInt8 := b4 r.length ++ r.flatMap bP
def bG (g : Pg) : List UInt8 := b4 g.length ++ g.flatMap bR
def bL (l : List Pg) : List UInt8 := b4 l.length ++ l.flatMap bG

theorem u8of_nat (m : Int) : (u8of m).toNat = (m % 256).toNat := by
  unfold u8of
  rw [UInt8.toNat_ofNat']
  omega

theorem byteD_eq (m : Int) : byteD m = [.int .u8 ((u8of m).toNat : Int)] := by
  unfold byteD
  rw [u8of_nat]
  have : IntKind.u8.wrap m = m % 256 := by simp [IntKind.wrap, IntKind.bits, IntKind.signed]
  rw [this, show (((m % 256).toNat : Nat) : Int) = m % 256 by omega]

theorem put4_eq (n : Int) : put4 n = bytesOf (b4 n) := by
  unfold put4 b4
  rw [Int.fdiv_eq_ediv_of_nonneg _ (by omega), Int.fdiv_eq_ediv_of_nonneg _ (by omega), Int.fdiv_eq_ediv_of_nonneg _ (by omega)]
  simp only [byteD_eq, bytesOf, List.map]

theorem bytesOf_append (a b : List UInt8) : bytesOf (a ++ b) = bytesOf a ++ bytesOf b := by simp [bytesOf]

theorem flat_eq {α : Type} {f : α → List (List D)} {g : α → List UInt8} (h : ∀ x, f x = bytesOf (g x)) : ∀ l : List α, l.flatMap f = bytesOf (l.flatMap g)
  | [] => rfl
  | x :: l => by simp only [List.flatMap_cons, bytesOf_append, h, flat_eq h l]

theorem pP_eq (p : Int × Int) : pP p = bytesOf (bP p) := by simp only [pP, bP, bytesOf_append, put4_eq]
theorem pR_eq (r : Rg) : pR r = bytesOf (bR r) := by simp only [pR, bR, bytesOf_append, put4_eq, flat_eq pP_eq]
theorem pG_eq (g : Pg) : pG g = bytesOf (bG g) := by simp only [pG, bG, bytesOf_append, put4_eq, flat_eq pR_eq]
theorem pL_eq (l : List Pg) : pL l = bytesOf (bL l) := by simp only [pL, bL, bytesOf_append, put4_eq, flat_eq pG_eq]

theorem strOf_bytesOf : ∀ s : List UInt8, strOf (bytesOf s) = some s
  | [] => rfl
  | b :: r => by
    simp only [bytesOf_cons, strOf, strOf_bytesOf r]
    simp

theorem numB_put (n : Int) (r : List UInt8) (h1 : -2147483648 ≤ n) (h2 : n < 2147483648) : numB (b4 n ++ r, false) = (n, (r, false)) := by
  have : dec4 (u8of (n / 16777216)) (u8of (n / 65536)) (u8of (n / 256)) (u8of n) = n := by
    unfold dec4
    simp only [u8of_nat]
    split <;> omega
  show (dec4 (u8of (n / 16777216)) (u8of (n / 65536)) (u8of (n / 256)) (u8of n), (r, false)) = _
  rw [this]

theorem pointB_put (p : Int × Int) (r : List UInt8) (h : badP p = false) : pointB (bP p ++ r, false) = (p, (r, false)) := by
  obtain ⟨h1, h2, h3, h4⟩ := badP_le h
  unfold pointB bP
  rw [List.append_assoc, numB_put _ _ h1 h2]
  simp only
  rw [numB_put _ _ h3 h4]

theorem loopB_put {α : Type} {one : St → α × St} {enc : α → List UInt8} (r : List UInt8) : ∀ (xs : List α), (∀ x ∈ xs, ∀ r, one (enc x ++ r, false) = (x, (r, false))) → loopB one xs.length (xs.flatMap enc ++ r, false) = (xs, (r, false))
  | [], _ => rfl
  | x :: xs, h => by
    simp only [List.length_cons, loopB, List.flatMap_cons, List.append_assoc, h x (List.mem_cons_self ..), Bool.false_eq_true, if_false]
    rw [loopB_put r xs fun y hy => h y (List.mem_cons_of_mem _ hy)]

theorem flat_len {α : Type} {enc : α → List UInt8} (h : ∀ x, 4 ≤ (enc x).length) : ∀ l : List α, 4 * l.length ≤ (l.flatMap enc).length
  | [] => by simp
  | x :: l => by
    have := flat_len h l
    have := h x
    simp only [List.flatMap_cons, List.length_append, List.length_cons]
    omega

theorem manyB_put {α : Type} {one : St → α × St} {enc : α → List UInt8} (few : Nat) (xs : List α) (r : List UInt8) (hf : few ≤ xs.length) (hm : xs.length < 2147483648) (he : ∀ x, 4 ≤ (enc x).length)
    (h : ∀ x ∈ xs, ∀ r, one (enc x ++ r, false) = (x, (r, false))) : manyB one few (b4 xs.length ++ xs.flatMap enc ++ r, false) = (xs, (r, false)) := by
  have h1 := flat_len he xs
  have h2 : numB (b4 xs.length ++ xs.flatMap enc ++ r, false) = ((xs.length : Int), (xs.flatMap enc ++ r, false)) := by
    rw [List.append_assoc, numB_put _ _ (by omega) (by omega)]
  have h3 : afterN few (b4 xs.length ++ xs.flatMap enc ++ r, false) = (xs.flatMap enc ++ r, false) := by
    unfold afterN
    rw [h2, if_neg]
    simp only [List.length_append]
    rw [Int.tdiv_eq_ediv_of_nonneg (by omega)]
    omega
  unfold manyB
  rw [h2, h3]
  exact loopB_put r xs h

theorem ringB_put (g : Rg) (r : List UInt8) (h : GoodR g) : ringB (bR g ++ r, false) = (g, (r, false)) :=
  manyB_put 3 g r h.few (by have := h.many; omega) (fun x => by simp [bP, b4]) fun p hp r => pointB_put p r (h.pts p hp)

theorem polyB_put (g : Pg) (r : List UInt8) (h : GoodG g) : polyB (bG g ++ r, false) = (g, (r, false)) :=
  manyB_put 1 g r h.few (by have := h.many; omega) (fun x => by simp [bR, b4]) fun p hp r => ringB_put p r (h.rings p hp)

theorem polysB_put (l : List Pg) (h : mayL 0 l = true) : polysB (bL l, false) = (l, ([], false)) := by
  obtain ⟨h1, h2, _⟩ := mayL_good 0 l (by omega) h
  have := manyB_put (one := polyB) (enc := bG) 0 l [] (by omega) (by omega) (fun x => by simp [bG, b4]) fun p hp r => polyB_put p r (h2 p hp)
  rw [List.append_nil] at this
  exact this

theorem bL_len {l : List Pg} (h : mayL 0 l = true) : (bL l).length ≤ 64004 := by
  have := pL_len h
  rwa [pL_eq, bytesOf_len] at this

/-- Of few there are few. -/
theorem fewG_len : ∀ (n : Nat) (g : Pg) {n' : Nat}, fewG n g = some n' → n ≤ n'
  | n, [], n', h => by simp only [fewG, Option.some.injEq] at h; omega
  | n, r :: g, n', h => by
    simp only [fewG] at h
    split at h
    · cases h
    · have := fewG_len _ g h
      omega

theorem fewL_len : ∀ (n : Nat) (l : List Pg), fewL n l = true → l.length + n ≤ 150
  | n, [], h => by
    simp only [fewL, decide_eq_true_eq] at h
    simpa using h
  | n, g :: l, h => by
    simp only [fewL] at h
    split at h
    · cases h
    · rename_i n' hn
      have := fewG_len _ g hn
      have := fewL_len n' l h
      simp only [List.length_cons]
      omega

end Go.Proofs.YtbfllngekcckeaaGreatDoor
