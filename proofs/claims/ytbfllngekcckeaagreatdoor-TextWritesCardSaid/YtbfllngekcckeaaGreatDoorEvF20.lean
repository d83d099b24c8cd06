/- Write: rows in brackets. Read, as a plain function of the signs; and what it makes of the signs of a text that was written. -/
import Derived.Test.YtbfllngekcckeaaGreatDoorEvF12
namespace Go.Proofs.YtbfllngekcckeaaGreatDoor
open Go.Ev
set_option linter.unusedSimpArgs false
set_option linter.unusedVariables false
set_option maxHeartbeats 400000
set_option maxRecDepth 4000

def encW (ss : List (List UInt8)) : List (List D) := ss.map fun s => [.str s]
theorem encW_len (ss : List (List UInt8)) : (encW ss).length = ss.length := by simp [encW]
theorem strsOf_encW : ∀ ss : List (List UInt8), strsOf (encW ss) = some ss
  | [] => rfl
  | s :: r => by
    have := strsOf_encW r
    simp only [encW, List.map_cons, strsOf] at this ⊢
    rw [this]

def rowW (ss : List (List UInt8)) : List UInt8 := [40] ++ joinF [44, 32] ss ++ [41]
def ptW (p : Int × Int) : List UInt8 := itoaF p.1 ++ [32] ++ itoaF p.2
def closed (r : Rg) : Rg := r ++ r.take 1
def rgW (r : Rg) : List UInt8 := rowW ((closed r).map ptW)
def pgW (g : Pg) : List UInt8 := rowW (g.map rgW)
def emptyW : List UInt8 := [77, 85, 76, 84, 73, 80, 79, 76, 89, 71, 79, 78, 32, 69, 77, 80, 84, 89]
def wordW : List UInt8 := [77, 85, 76, 84, 73, 80, 79, 76, 89, 71, 79, 78, 32]
def wL (l : List Pg) : List UInt8 := if l.length = 0 then emptyW else wordW ++ rowW (l.map pgW)

theorem joinF_len (B : Nat) : ∀ ss : List (List UInt8), (∀ s ∈ ss, s.length ≤ B) → (joinF [44, 32] ss).length ≤ ss.length * (B + 2)
  | [], _ => by simp [joinF]
  | [x], h => by
    have := h x (by simp)
    simp only [joinF, List.length_cons, List.length_nil]
    omega
  | x :: y :: r, h => by
    have h1 := h x (by simp)
    have h2 := joinF_len B (y :: r) fun s hs => h s (by simp [hs])
    simp only [joinF, List.length_append, List.length_cons, List.length_nil] at h2 ⊢
    rw [Nat.add_mul] at h2 ⊢
    rw [Nat.add_mul]
    omega

theorem rowW_len {B n : Nat} {ss : List (List UInt8)} (hs : ∀ s ∈ ss, s.length ≤ B) (hn : ss.length ≤ n) : (joinF [44, 32] ss).length ≤ n * (B + 2) ∧ (rowW ss).length ≤ n * (B + 2) + 2 := by
  have h1 := joinF_len B ss hs
  have h2 : ss.length * (B + 2) ≤ n * (B + 2) := Nat.mul_le_mul_right _ hn
  refine ⟨by omega, ?_⟩
  simp only [rowW, List.length_append, List.length_cons, List.length_nil]
  omega

theorem digs_len : ∀ (k u : Nat), (digs k u).length ≤ k + 1
  | 0, u => by simp [digs]
  | k + 1, u => by
    have := digs_len k (u / 10)
    simp only [digs]
    split
    · simp
    · simp only [List.length_append, List.length_cons, List.length_nil]
      omega

theorem itoaF_len (n : Int) : (itoaF n).length ≤ 22 := by
  have h1 := digs_len 20 n.natAbs
  have h2 := digs_len 20 n.toNat
  unfold itoaF
  split
  · simp only [List.length_cons]
    omega
  · omega

theorem ptW_len (p : Int × Int) : (ptW p).length ≤ 45 := by
  have h1 := itoaF_len p.1
  have h2 := itoaF_len p.2
  simp only [ptW, List.length_append, List.length_cons, List.length_nil]
  omega

theorem closed_len (r : Rg) : (closed r).length ≤ r.length + 1 := by
  simp only [closed, List.length_append, List.length_take]
  omega

theorem rgW_len {r : Rg} (h : GoodR r) : (joinF [44, 32] ((closed r).map ptW)).length ≤ 4001 * 47 ∧ (rgW r).length ≤ 4001 * 47 + 2 :=
  rowW_len (fun s hs => by
    obtain ⟨p, _, rfl⟩ := List.mem_map.1 hs
    exact ptW_len p) (by
    have := closed_len r
    have := h.many
    simp only [List.length_map]
    omega)

theorem pgW_len {g : Pg} (h : GoodG g) : (joinF [44, 32] (g.map rgW)).length ≤ 4000 * 188051 ∧ (pgW g).length ≤ 4000 * 188051 + 2 :=
  rowW_len (fun s hs => by
    obtain ⟨r, hr, rfl⟩ := List.mem_map.1 hs
    have := (rgW_len (h.rings r hr)).2
    omega) (by
    have := h.many
    simpa using this)

theorem polysW_len {l : List Pg} (h : ∀ g ∈ l, GoodG g) (hn : l.length ≤ 4000) : (joinF [44, 32] (l.map pgW)).length ≤ 4000 * 752204004 ∧ (rowW (l.map pgW)).length ≤ 4000 * 752204004 + 2 :=
  rowW_len (fun s hs => by
    obtain ⟨g, hg, rfl⟩ := List.mem_map.1 hs
    have := (pgW_len (h g hg)).2
    omega) (by simpa using hn)

theorem itoa_prim (n : Int) (fs : Frames) (h1 : -134217728 ≤ n) (h2 : n ≤ 134217728) : callE cfg 61 [.c (.int .i64 n)] fs = some (some (.c (.str (itoaF n))), fs) :=
  callE_prim (p := primItoa) rfl (by
    unfold primItoa
    exact if_pos ⟨by omega, by omega⟩)

theorem join_prim (k : K) (ss : List (List UInt8)) (fs : Frames) (h1 : ss.length ≤ 140737488355328) (h2 : (joinF [44, 32] ss).length ≤ 140737488355328) :
    callE cfg 36 [.c (.sl k 1 (encW ss)), .c (.str [44, 32])] fs = some (some (.c (.str (joinF [44, 32] ss))), fs) :=
  callE_prim (p := primJoin) rfl (by
    unfold primJoin
    simp only [strsOf_encW]
    rw [if_pos ⟨h1, h2⟩])

theorem badP_nums {p : Int × Int} (h : badP p = false) : -134217728 ≤ p.1 ∧ p.1 ≤ 134217728 ∧ -134217728 ≤ p.2 ∧ p.2 ≤ 134217728 := by
  simp [badP, nearB] at h
  omega

theorem pt_ev (p : Int × Int) (fr : Fr) (fs : Frames) (h : badP p = false) : callE cfg 53 [.agg [.int .i64 p.1, .int .i64 p.2]] (fr :: fs) = some (some (.c (.str (ptW p))), fr :: fs) := by
  refine callE_code (fn := Tryz.f53) (rs := [.tmp 2]) (by kernel_rfl) (by kernel_rfl) (by kernel_rfl) rfl rfl rfl (by show 1 ≤ 11; decide) ?_
  obtain ⟨a1, a2, a3, a4⟩ := badP_nums h
  have h1 := itoa_prim p.1 ([] :: fr :: fs) a1 a2
  have h2 := itoa_prim p.2 ([] :: fr :: fs) a3 a4
  have l1 := itoaF_len p.1
  have l2 := itoaF_len p.2
  have h3 : (itoaF p.1).length + 1 ≤ 9223372036854775807 := by omega
  have h4 : (itoaF p.1).length + 1 + (itoaF p.2).length ≤ 9223372036854775807 := by omega
  simp only [resTmpsR, List.filterMap, evC_ret, evC_region, evC_draw, evC_seq, feedL, feedOf, runL, stepW, wantedV, Ev.step, opv, ev, getT, binV, strOp, put, params, constV, List.map, List.contains_nil, Bool.or_self, Nat.reduceEqDiff, if_true, if_false, reduceCtorEq, Nat.reduceBEq, give, gives, V.hasSl, C.isSl, V.strip, C.strip, feeds, List.append_nil, List.nil_append, List.contains_cons, Bool.false_eq_true, List.length_cons, constC, List.getElem?_cons_zero, List.getElem?_cons_succ, Bool.or_false, beq_self_eq_true, Bool.not_true, Bool.and_false, Bool.and_true, readV, List.drop_zero, V.cells, List.length_nil, Nat.zero_add, cfg_esc, List.drop_succ_cons, List.take_succ_cons, List.take_zero, Bool.not_true, List.set_cons_zero, Nat.reduceAdd, finishR, resVs, resV, freezeVs, freezeV, freezeC, target, consOf, doCall, argsG, List.all_cons, List.all_nil, V.le, C.le, C.leL, Ev.newObj, Ev.look, Ev.setF, Ev.setRange, List.cons_append, Nat.add_one_sub_one, cons_61, sealed_61, strict_53_1, agg_3, lay_41, h1, h2, List.length_append, h3, h4]
  rfl

theorem take_map {α β : Type} {f : α → β} {l : List α} {i : Nat} {x : α} (h : l[i]? = some x) : (l.map f).take i ++ [f x] = (l.map f).take (i + 1) := by
  rw [List.take_add_one, List.getElem?_map, h]
  rfl

theorem encW_snoc (ss : List (List UInt8)) (s : List UInt8) : encW ss ++ [[.str s]] = encW (ss ++ [s]) := by simp [encW]

end Go.Proofs.YtbfllngekcckeaaGreatDoor
namespace Go.Proofs.YtbfllngekcckeaaGreatDoor
open Go.Ev

/-! ### Numbers -/

theorem digs_isDigit : ∀ (k u : Nat), u < 10 ^ (k + 1) → ∀ b ∈ digs k u, 48 ≤ b.toNat ∧ b.toNat ≤ 57
  | 0, u, h, b, hb => by
    simp only [digs, List.mem_singleton] at hb
    subst hb
    rw [UInt8.toNat_ofNat']
    omega
  | k + 1, u, h, b, hb => by
    simp only [digs] at hb
    split at hb
    · simp only [List.mem_singleton] at hb
      subst hb
      rw [UInt8.toNat_ofNat']
      omega
    · simp only [List.mem_append, List.mem_singleton] at hb
      rcases hb with hb | rfl
      · exact digs_isDigit k (u / 10) (by rw [Nat.pow_succ] at h; omega) b hb
      · rw [UInt8.toNat_ofNat']
        omega

theorem digs_ne : ∀ (k u : Nat), digs k u ≠ []
  | 0, u => by simp [digs]
  | k + 1, u => by
    simp only [digs]
    split <;> simp

theorem parse_snoc : ∀ (l : List UInt8) (acc v d : Nat), d ≤ 9 → v < 1844674407370955161 → Lib.parseUint10 acc l = .ok v → Lib.parseUint10 acc (l ++ [UInt8.ofNat (48 + d)]) = .ok (v * 10 + d)
  | [], acc, v, d, hd, hv, h => by
    simp only [Lib.parseUint10, Lib.NumEnd.ok.injEq] at h
    subst h
    have : (UInt8.ofNat (48 + d)).toNat = 48 + d := by rw [UInt8.toNat_ofNat']; omega
    simp only [List.nil_append, Lib.parseUint10, this]
    rw [if_pos (by omega), if_neg (by omega), if_neg (by omega)]
    congr 2
    omega
  | c :: r, acc, v, d, hd, hv, h => by
    simp only [Lib.parseUint10, List.cons_append] at h ⊢
    split at h
    · rename_i h1
      rw [if_pos h1]
      split at h
      · cases h
      · rename_i h2
        rw [if_neg h2]
        split at h
        · cases h
        · rename_i h3
          rw [if_neg h3]
          exact parse_snoc r _ v d hd hv h
    · cases h

theorem parse_digs : ∀ (k u : Nat), u < 10 ^ (k + 1) → u < 1000000000000 → Lib.parseUint10 0 (digs k u) = .ok u
  | 0, u, h, h2 => by
    have : digs 0 u = [] ++ [UInt8.ofNat (48 + u % 10)] := rfl
    rw [this, parse_snoc [] 0 0 (u % 10) (by omega) (by omega) rfl]
    congr 1
    omega
  | k + 1, u, h, h2 => by
    simp only [digs]
    split
    · rename_i h3
      have : [UInt8.ofNat (48 + u)] = [] ++ [UInt8.ofNat (48 + u)] := rfl
      rw [this, parse_snoc [] 0 0 u (by omega) (by omega) rfl]
      congr 1
      omega
    · rw [parse_snoc _ 0 (u / 10) (u % 10) (by omega) (by omega) (parse_digs k (u / 10) (by rw [Nat.pow_succ] at h; omega) (by omega))]
      congr 1
      omega

theorem digs_short : ∀ (k n u : Nat), u < 10 ^ (n + 1) → (digs k u).length ≤ n + 1
  | 0, n, u, h => by simp [digs]
  | k + 1, n, u, h => by
    simp only [digs]
    split
    · simp
    · rename_i h1
      cases n with
      | zero => omega
      | succ n =>
        have := digs_short k n (u / 10) (by rw [Nat.pow_succ] at h; omega)
        simp only [List.length_append, List.length_cons, List.length_nil]
        omega

theorem digs_cons (k u : Nat) (h : u < 10 ^ (k + 1)) : ∃ c r, digs k u = c :: r ∧ 48 ≤ c.toNat ∧ c.toNat ≤ 57 := by
  cases e : digs k u with
  | nil => exact absurd e (digs_ne k u)
  | cons c r => exact ⟨c, r, rfl, digs_isDigit k u h c (by rw [e]; simp)⟩

/-- A sign as a number, and whether it is none. -/
def numT (w : List UInt8) : Int × Bool := match Lib.atoiAll w with
  | .ok n => (n, !(itoaF n == w) || decide ((Lib.trimPrefix w [45]).length > 9))
  | .range => (Lib.atoiSat w, true)
  | _ => (0, true)

theorem numT_itoa (n : Int) (h1 : -134217728 ≤ n) (h2 : n ≤ 134217728) : numT (itoaF n) = (n, false) := by
  have hat : Lib.atoiAll (itoaF n) = .ok n := by
    unfold itoaF
    split
    · rename_i h
      obtain ⟨c, r, e, _⟩ := digs_cons 20 n.natAbs (by omega)
      have hp := parse_digs 20 n.natAbs (by omega) (by omega)
      rw [e] at hp ⊢
      unfold Lib.atoiAll
      have h45 : (45 : UInt8).toNat = 45 := rfl
      simp only [h45, or_true, if_true, Lib.parseMag, reduceCtorEq, if_false, hp, true_and, not_true, false_and]
      rw [if_neg (by omega)]
      congr 1
      omega
    · rename_i h
      obtain ⟨c, r, e, h3, h4⟩ := digs_cons 20 n.toNat (by omega)
      have hp := parse_digs 20 n.toNat (by omega) (by omega)
      rw [e] at hp ⊢
      unfold Lib.atoiAll
      have h5 : ¬(c.toNat = 43) := by omega
      have h6 : ¬(c.toNat = 45) := by omega
      simp only [h5, h6, or_self, if_false, Lib.parseMag, reduceCtorEq, hp, false_and, not_false_eq_true, true_and]
      rw [if_neg (by omega)]
      congr 1
      omega
  have hlen : (Lib.trimPrefix (itoaF n) [45]).length ≤ 9 := by
    unfold itoaF Lib.trimPrefix
    split
    · have := digs_short 20 8 n.natAbs (by omega)
      have e : Lib.hasPrefix (45 :: digs 20 n.natAbs) [45] = true := by simp [Lib.hasPrefix]
      rw [if_pos e]
      simpa using this
    · have := digs_short 20 8 n.toNat (by omega)
      split
      · simp only [List.length_drop]
        omega
      · exact this
  unfold numT
  rw [hat]
  have : decide ((Lib.trimPrefix (itoaF n) [45]).length > 9) = false := by simp; omega
  simp only [this, beq_self_eq_true, Bool.not_true, Bool.or_self]

/-! ### The signs of a text that was written -/

/-- No blank, bracket or comma. -/
def plain (b : UInt8) : Bool := !(b == 32) && !(b == 40 || b == 41 || b == 44)

theorem signsT_word : ∀ (w last r : List UInt8), (∀ b ∈ w, plain b = true) → signsF last (w ++ r) = signsF (last ++ w) r
  | [], last, r, _ => by simp
  | b :: w, last, r, h => by
    have hb := h b (by simp)
    simp only [plain, Bool.and_eq_true, Bool.not_eq_true', beq_eq_false_iff_ne, Bool.or_eq_false_iff] at hb
    simp only [List.cons_append, signsF]
    rw [if_neg hb.1, if_neg (by rintro (h | h | h); exact hb.2.1.1 h; exact hb.2.1.2 h; exact hb.2.2 h), signsT_word w _ r fun x hx => h x (by simp [hx])]
    simp

theorem signsT_end {w : List UInt8} (c : UInt8) (r : List UInt8) (hw : w ≠ []) (hc : c = 40 ∨ c = 41 ∨ c = 44) : signsF w (c :: r) = w :: signsF [] (c :: r) := by
  have h32 : c ≠ 32 := by rcases hc with rfl | rfl | rfl <;> decide
  simp only [signsF, if_neg h32, if_pos hc, if_neg hw, if_true]

theorem signsT_sp {w : List UInt8} (r : List UInt8) (hw : w ≠ []) : signsF w (32 :: r) = w :: signsF [] r := by
  simp only [signsF, if_true, if_neg hw]

theorem signsT_c (c : UInt8) (r : List UInt8) (hc : c = 40 ∨ c = 41 ∨ c = 44) : signsF [] (c :: r) = [c] :: signsF [] r := by
  have h32 : c ≠ 32 := by rcases hc with rfl | rfl | rfl <;> decide
  simp only [signsF, if_neg h32, if_pos hc, if_true]

theorem signsT_b (r : List UInt8) : signsF [] (32 :: r) = signsF [] r := by simp only [signsF, if_true]

abbrev Toks := List (List UInt8)
def commaT : List Toks → Toks
  | [] => []
  | [x] => x
  | x :: r => x ++ [[44]] ++ commaT r
def rowT (ts : List Toks) : Toks := [[40]] ++ commaT ts ++ [[41]]
def ptT (p : Int × Int) : Toks := [itoaF p.1, itoaF p.2]
def rgT (r : Rg) : Toks := rowT ((closed r).map ptT)
def pgT (g : Pg) : Toks := rowT (g.map rgT)
def multiT : List UInt8 := [77, 85, 76, 84, 73, 80, 79, 76, 89, 71, 79, 78]
def emptyT : List UInt8 := [69, 77, 80, 84, 89]
def lT (l : List Pg) : Toks := if l.length = 0 then [multiT, emptyT] else multiT :: rowT (l.map pgT)

/-- A thing's text ends where a bracket closes, or a comma comes. -/
def SignsTo (w : List UInt8) (t : Toks) : Prop := ∀ (c : UInt8) (r : List UInt8), c = 41 ∨ c = 44 → signsF [] (w ++ c :: r) = t ++ signsF [] (c :: r)

theorem signsT_comma {α : Type} {w : α → List UInt8} {t : α → Toks} : ∀ (xs : List α), (∀ x ∈ xs, SignsTo (w x) (t x)) → SignsTo (joinF [44, 32] (xs.map w)) (commaT (xs.map t))
  | [], _, c, r, hc => rfl
  | [x], h, c, r, hc => h x (by simp) c r hc
  | x :: y :: xs, h, c, r, hc => by
    have h2 := signsT_comma (y :: xs) (fun z hz => h z (List.mem_cons_of_mem _ hz)) c r hc
    simp only [List.map_cons, joinF, commaT, List.append_assoc, List.cons_append, List.nil_append] at h2 ⊢
    rw [h x (by simp) 44 _ (.inr rfl), signsT_c 44 _ (by simp), signsT_b, h2]

theorem signsT_row {α : Type} {w : α → List UInt8} {t : α → Toks} {xs : List α} (h : ∀ x ∈ xs, SignsTo (w x) (t x)) (r : List UInt8) : signsF [] (rowW (xs.map w) ++ r) = rowT (xs.map t) ++ signsF [] r := by
  have h2 := signsT_comma xs h 41 r (.inl rfl)
  simp only [rowW, rowT, List.append_assoc, List.cons_append, List.nil_append]
  rw [signsT_c 40 _ (by simp), h2, signsT_c 41 _ (by simp)]

theorem itoa_plain (n : Int) (h1 : -134217728 ≤ n) (h2 : n ≤ 134217728) : itoaF n ≠ [] ∧ ∀ b ∈ itoaF n, plain b = true := by
  have hd : ∀ b : UInt8, (48 ≤ b.toNat ∧ b.toNat ≤ 57) ∨ b = 45 → plain b = true := fun b hb => by
    have e : ∀ c : UInt8, c.toNat < 45 → (b == c) = false := fun c hc => by
      rw [beq_eq_false_iff_ne]
      rintro rfl
      rcases hb with hb | rfl
      · omega
      · exact absurd hc (by decide)
    simp [plain, e 32 (by decide), e 40 (by decide), e 41 (by decide), e 44 (by decide)]
  unfold itoaF
  split
  · exact ⟨by simp, fun b hb => hd b (by
      rcases List.mem_cons.1 hb with rfl | hb
      · exact .inr rfl
      · exact .inl (digs_isDigit 20 _ (by omega) b hb))⟩
  · exact ⟨digs_ne _ _, fun b hb => hd b (.inl (digs_isDigit 20 _ (by omega) b hb))⟩

theorem signsT_pt {p : Int × Int} (h : badP p = false) : SignsTo (ptW p) (ptT p) := fun c r hc => by
  obtain ⟨a1, a2, a3, a4⟩ := badP_nums h
  obtain ⟨b1, b2⟩ := itoa_plain p.1 a1 a2
  obtain ⟨b3, b4⟩ := itoa_plain p.2 a3 a4
  simp only [ptW, ptT, List.append_assoc, List.cons_append, List.nil_append]
  rw [signsT_word _ _ _ b2, List.nil_append, signsT_sp _ b1, signsT_word _ _ _ b4, List.nil_append, signsT_end c r b3 (.inr hc)]

theorem closed_mem {r : Rg} {p : Int × Int} (h : p ∈ closed r) : p ∈ r := by
  simp only [closed, List.mem_append] at h
  rcases h with h | h
  · exact h
  · exact List.mem_of_mem_take h

theorem signsT_rg {g : Rg} (h : GoodR g) (r : List UInt8) : signsF [] (rgW g ++ r) = rgT g ++ signsF [] r := signsT_row (fun x hx => signsT_pt (h.pts x (closed_mem hx))) r
theorem signsT_pg {g : Pg} (h : GoodG g) (r : List UInt8) : signsF [] (pgW g ++ r) = pgT g ++ signsF [] r := signsT_row (fun x hx c r _ => signsT_rg (h.rings x hx) (c :: r)) r

theorem signsT_w (w r : List UInt8) (h : ∀ b ∈ w, plain b = true) (hw : w ≠ []) : signsF [] (w ++ 32 :: r) = w :: signsF [] r := by
  rw [signsT_word _ _ _ h, List.nil_append, signsT_sp _ hw]

theorem signsT_wL {l : List Pg} (h : ∀ g ∈ l, GoodG g) (r : List UInt8) (hr : r = [] ∨ ∃ c t, r = c :: t ∧ (c = 40 ∨ c = 41 ∨ c = 44 ∨ c = 32)) : signsF [] (wL l ++ r) = lT l ++ signsF [] r := by
  have hm : ∀ b ∈ multiT, plain b = true := by decide
  have he : ∀ b ∈ emptyT, plain b = true := by decide
  unfold wL lT
  by_cases h0 : l.length = 0
  · rw [if_pos h0, if_pos h0]
    have e : emptyW ++ r = multiT ++ 32 :: (emptyT ++ r) := rfl
    rw [e, signsT_w _ _ hm (by decide), signsT_word _ _ _ he, List.nil_append]
    rcases hr with rfl | ⟨c, t, rfl, hc⟩
    · rfl
    · by_cases h32 : c = 32
      · subst h32
        rw [signsT_sp _ (by decide), signsT_b]
        rfl
      · rw [signsT_end c t (by decide) (by rcases hc with h | h | h | h; exact .inl h; exact .inr (.inl h); exact .inr (.inr h); exact absurd h h32)]
        rfl
  · rw [if_neg h0, if_neg h0]
    have e : wordW ++ rowW (l.map pgW) ++ r = multiT ++ 32 :: (rowW (l.map pgW) ++ r) := by
      have : wordW = multiT ++ [32] := rfl
      rw [this]
      simp
    rw [e, signsT_w _ _ hm (by decide), signsT_row (t := pgT) fun x hx c r _ => signsT_pg (h x hx) (c :: r)]
    rfl

/-! ### The reader -/

abbrev Rs := Toks × Bool
def nextB (s : Rs) : List UInt8 × Rs := if s.2 = true then ([], (s.1, true)) else match s.1 with
  | [] => ([], ([], true))
  | w :: r => (w, (r, false))
def isB (w : List UInt8) (s : Rs) : Rs := ((nextB s).2.1, !((nextB s).1 == w) || (nextB s).2.2)
def numberB (s : Rs) : Int × Rs := ((numT (nextB s).1).1, ((nextB s).2.1, (numT (nextB s).1).2 || (nextB s).2.2))
def ptB (s : Rs) : (Int × Int) × Rs := (((numberB s).1, (numberB (numberB s).2).1), (numberB (numberB s).2).2)
def rowsLoop {α : Type} (one : Rs → α × Rs) : Nat → List α → Rs → List α × Rs
  | 0, _, s => ([], s)
  | n + 1, out, s => if s.2 = true then ([], s) else
    if (nextB (one s).2).1 = [41] then (out ++ [(one s).1], (nextB (one s).2).2) else
    if (nextB (one s).2).1 = [44] then rowsLoop one n (out ++ [(one s).1]) (nextB (one s).2).2 else
    rowsLoop one n (out ++ [(one s).1]) ((nextB (one s).2).2.1, true)
def rowsB {α : Type} (one : Rs → α × Rs) (s : Rs) : List α × Rs := rowsLoop one ((isB [40] s).1.length + 1) [] (isB [40] s)
def rgB (s : Rs) : Rg × Rs := let x := rowsB ptB s
  if x.1.length ≤ 3 ∨ x.1[0]? ≠ x.1[x.1.length - 1]? then ([], (x.2.1, true)) else (x.1.take (x.1.length - 1), x.2)
def pgB (s : Rs) : Pg × Rs := rowsB rgB s
def lB (s : Rs) : List Pg × Rs := rowsB pgB s
/-- All of it: what there is, and whether it is none. -/
def readB (ts : Toks) : List Pg × Bool := let s := isB multiT (ts, false)
  if s.1.length = 1 ∧ s.1[0]? = some emptyT then ([], s.2) else ((lB s).1, (lB s).2.2 || decide ((lB s).2.1.length > 0))

theorem nextB_cons (w : List UInt8) (r : Toks) : nextB (w :: r, false) = (w, (r, false)) := rfl
theorem isB_cons (w : List UInt8) (r : Toks) : isB w (w :: r, false) = (r, false) := by simp [isB, nextB_cons]

theorem commaT_len {α : Type} {enc : α → Toks} : ∀ xs : List α, xs.length ≤ (commaT (xs.map enc)).length + 1
  | [] => by simp
  | [x] => by simp
  | x :: y :: xs => by
    have := commaT_len (enc := enc) (y :: xs)
    simp only [List.map_cons, commaT, List.length_append, List.length_cons, List.length_nil] at this ⊢
    omega

theorem loop_put {α : Type} {one : Rs → α × Rs} {enc : α → Toks} (r : Toks) : ∀ (xs : List α) (n : Nat) (out : List α), xs ≠ [] → xs.length ≤ n → (∀ x ∈ xs, ∀ r, one (enc x ++ r, false) = (x, (r, false))) →
    rowsLoop one n out (commaT (xs.map enc) ++ [41] :: r, false) = (out ++ xs, (r, false))
  | [], n, out, h, _, _ => absurd rfl h
  | [x], 0, out, _, hn, _ => by simp at hn
  | [x], n + 1, out, _, hn, h => by
    simp only [List.map_cons, List.map_nil, commaT, rowsLoop, h x (by simp), nextB_cons, if_true, Bool.false_eq_true, if_false]
  | x :: y :: xs, 0, out, _, hn, _ => by simp at hn
  | x :: y :: xs, n + 1, out, _, hn, h => by
    have h2 := loop_put r (y :: xs) n (out ++ [x]) (by simp) (by simp at hn ⊢; omega) fun z hz => h z (List.mem_cons_of_mem _ hz)
    have h3 : ¬(([44] : List UInt8) = [41]) := by decide
    simp only [List.map_cons, commaT, List.append_assoc, List.cons_append, List.nil_append] at h2 ⊢
    simp only [rowsLoop, h x (by simp), nextB_cons, h3, if_true, Bool.false_eq_true, if_false, h2]

theorem rows_put {α : Type} {one : Rs → α × Rs} {enc : α → Toks} (xs : List α) (r : Toks) (hx : xs ≠ []) (h : ∀ x ∈ xs, ∀ r, one (enc x ++ r, false) = (x, (r, false))) : rowsB one (rowT (xs.map enc) ++ r, false) = (xs, (r, false)) := by
  unfold rowsB rowT
  simp only [List.append_assoc, List.cons_append, List.nil_append, isB_cons]
  have := commaT_len (enc := enc) xs
  exact loop_put r xs _ [] hx (by simp only [List.length_append, List.length_cons]; omega) h

theorem number_put (n : Int) (r : Toks) (h1 : -134217728 ≤ n) (h2 : n ≤ 134217728) : numberB (itoaF n :: r, false) = (n, (r, false)) := by
  simp only [numberB, nextB_cons, numT_itoa n h1 h2, Bool.or_self]

theorem pt_put (p : Int × Int) (r : Toks) (h : badP p = false) : ptB (ptT p ++ r, false) = (p, (r, false)) := by
  obtain ⟨a1, a2, a3, a4⟩ := badP_nums h
  simp only [ptB, ptT, List.cons_append, List.nil_append, number_put _ _ a1 a2, number_put _ _ a3 a4]

theorem rg_put (g : Rg) (r : Toks) (h : GoodR g) : rgB (rgT g ++ r, false) = (g, (r, false)) := by
  have hf := h.few
  obtain ⟨p, t, rfl⟩ : ∃ p t, g = p :: t := by
    cases g with
    | nil => simp at hf
    | cons p t => exact ⟨p, t, rfl⟩
  have hc : closed (p :: t) = (p :: t) ++ [p] := rfl
  have h1 := rows_put (one := ptB) (enc := ptT) (closed (p :: t)) r (by simp [closed]) fun x hx r => pt_put x r (h.pts x (closed_mem hx))
  have h2 : ((p :: t) ++ [p]).length - 1 = (p :: t).length := by simp
  have h3 : ((p :: t) ++ [p])[(p :: t).length]? = some p := by
    rw [List.getElem?_append_right (Nat.le_refl _)]
    simp
  unfold rgB rgT
  simp only [h1]
  rw [hc, h2, h3, if_neg]
  · simp
  · rintro (h | h)
    · simp only [List.length_append, List.length_cons, List.length_nil] at h hf
      omega
    · exact h rfl

theorem pg_put (g : Pg) (r : Toks) (h : GoodG g) : pgB (pgT g ++ r, false) = (g, (r, false)) :=
  rows_put g r (by have := h.few; intro e; rw [e] at this; simp at this) fun x hx r => rg_put x r (h.rings x hx)

theorem l_put (l : List Pg) (r : Toks) (h0 : l ≠ []) (h : ∀ g ∈ l, GoodG g) : lB (rowT (l.map pgT) ++ r, false) = (l, (r, false)) := rows_put l r h0 fun x hx r => pg_put x r (h x hx)

theorem read_put (l : List Pg) (h : ∀ g ∈ l, GoodG g) : readB (lT l) = (l, false) := by
  unfold readB lT
  by_cases h0 : l.length = 0
  · rw [if_pos h0]
    have : l = [] := List.length_eq_zero_iff.1 h0
    subst this
    rfl
  · rw [if_neg h0]
    have hne : l ≠ [] := fun e => h0 (by rw [e]; rfl)
    have h1 := l_put l [] hne h
    rw [List.append_nil] at h1
    have h2 : (rowT (l.map pgT))[0]? = some [40] := rfl
    have h3 : ¬((some [40] : Option (List UInt8)) = some emptyT) := by decide
    simp only [isB_cons, h2, h3, and_false, if_false, h1]
    rfl

theorem read_behind (l : List Pg) (h : ∀ g ∈ l, GoodG g) (w : List UInt8) : (readB (lT l ++ [w])).2 = true := by
  unfold readB lT
  by_cases h0 : l.length = 0
  · rw [if_pos h0]
    have e : ([multiT, emptyT] ++ [w] : Toks) = multiT :: [emptyT, w] := rfl
    have h2 : ¬(([emptyT, w] : Toks).length = 1 ∧ ([emptyT, w] : Toks)[0]? = some emptyT) := by simp
    rw [e]
    simp only [isB_cons, h2, if_false]
    have h3 : isB [40] ([emptyT, w], false) = ([w], true) := by simp [isB, nextB_cons, emptyT]
    have h4 : lB ([emptyT, w], false) = ([], ([w], true)) := by
      unfold lB rowsB
      rw [h3]
      rfl
    rw [h4]
    rfl
  · rw [if_neg h0]
    have hne : l ≠ [] := fun e => h0 (by rw [e]; rfl)
    have h1 := l_put l [w] hne h
    have h2 : (rowT (l.map pgT) ++ [w])[0]? = some [40] := rfl
    have h3 : ¬((some [40] : Option (List UInt8)) = some emptyT) := by decide
    simp only [List.cons_append, isB_cons, h2, h3, and_false, if_false, h1]
    rfl

/-- Two rows of polygons that may be have one text just if they are the same. -/
theorem wL_inj {a b : List Pg} (ha : ∀ g ∈ a, GoodG g) (hb : ∀ g ∈ b, GoodG g) (h : wL a = wL b) : a = b := by
  have h1 := signsT_wL ha [] (.inl rfl)
  have h2 := signsT_wL hb [] (.inl rfl)
  rw [h, h2] at h1
  have h3 : lT b = lT a := List.append_cancel_right h1
  have h4 := read_put a ha
  rw [← h3, read_put b hb] at h4
  exact (congrArg Prod.fst h4).symm

theorem bL_inj {a b : List Pg} (ha : mayL 0 a = true) (hb : mayL 0 b = true) (h : bL a = bL b) : a = b := by
  have h1 := polysB_put a ha
  rw [h, polysB_put b hb] at h1
  exact (congrArg Prod.fst h1).symm

end Go.Proofs.YtbfllngekcckeaaGreatDoor
