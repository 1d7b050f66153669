/-
  IterU, Bits, put together.
-/
import Derived.Test.YtlaofcgllchedaaZ14UnfG
import Derived.Test.YtlaofcgllchedaaZ00View
import Derived.Laws.BitsAllLaws
import Derived.Laws.BitsLemmas

/-
  What an unfolded repeat fits: so many rounds. Plain.
-/
namespace Go.Proofs.Ytlaofcgllchedaa
set_option linter.unusedVariables false

def IterN (R : Nat → Nat → Prop) : Nat → Nat → Nat → Prop
  | 0, i, j => i = j
  | n + 1, i, j => ∃ k, R i k ∧ IterN R n k j
theorem iter_add {R : Nat → Nat → Prop} : ∀ (a b i j : Nat), IterN R (a + b) i j ↔ ∃ k, IterN R a i k ∧ IterN R b k j
  | 0, b, i, j => by
    rw [Nat.zero_add]
    exact ⟨fun h => ⟨i, rfl, h⟩, fun ⟨k, h1, h2⟩ => by cases h1; exact h2⟩
  | a + 1, b, i, j => by
    rw [Nat.add_right_comm]
    constructor
    · rintro ⟨k, h1, h2⟩
      obtain ⟨q, h3, h4⟩ := (iter_add a b k j).1 h2
      exact ⟨q, ⟨k, h1, h3⟩, h4⟩
    · rintro ⟨q, ⟨k, h1, h3⟩, h4⟩
      exact ⟨k, h1, (iter_add a b k j).2 ⟨q, h3, h4⟩⟩
theorem star_iter {R : Nat → Nat → Prop} {i j : Nat} : StarR R i j ↔ ∃ n, IterN R n i j := by
  constructor
  · intro h
    induction h with
    | nil i => exact ⟨0, rfl⟩
    | cons i k j h1 _ ih =>
      obtain ⟨n, hn⟩ := ih
      exact ⟨n + 1, k, h1, hn⟩
  · rintro ⟨n, h⟩
    induction n generalizing i with
    | zero => cases h; exact .nil _
    | succ n ih =>
      obtain ⟨k, h1, h2⟩ := h
      exact .cons _ _ _ h1 (ih h2)
theorem fitC_append (E : Env) : ∀ (a b : List UT) (i j : Nat), fitC E (a ++ b) i j ↔ ∃ k, fitC E a i k ∧ fitC E b k j
  | [], b, i, j => by
    simp only [List.nil_append, fitC]
    exact ⟨fun h => ⟨i, rfl, h⟩, fun ⟨k, h1, h2⟩ => by cases h1; exact h2⟩
  | x :: a, b, i, j => by
    simp only [List.cons_append, fitC]
    constructor
    · rintro ⟨k, h1, h2⟩
      obtain ⟨q, h3, h4⟩ := (fitC_append E a b k j).1 h2
      exact ⟨q, ⟨k, h1, h3⟩, h4⟩
    · rintro ⟨q, ⟨k, h1, h3⟩, h4⟩
      exact ⟨k, h1, (fitC_append E a b k j).2 ⟨q, h3, h4⟩⟩
theorem fitC_one (E : Env) (x : UT) (i j : Nat) : fitC E [x] i j ↔ fitU E x i j := by
  simp only [fitC]
  exact ⟨fun ⟨k, h1, h2⟩ => by cases h2; exact h1, fun h => ⟨j, h, rfl⟩⟩
theorem fitC_times (E : Env) (x : UT) : ∀ (n i j : Nat), fitC E (List.replicate n x) i j ↔ IterN (fitU E x) n i j
  | 0, i, j => by simp [fitC, IterN]
  | n + 1, i, j => by
    rw [List.replicate_succ]
    simp only [fitC, IterN]
    constructor
    · rintro ⟨k, h1, h2⟩; exact ⟨k, h1, (fitC_times E x n k j).1 h2⟩
    · rintro ⟨k, h1, h2⟩; exact ⟨k, h1, (fitC_times E x n k j).2 h2⟩
theorem fit_row (E : Env) (l : List UT) (i j : Nat) : fitU E (rowU l) i j ↔ fitC E l i j := by
  match l with
  | [] => simp [rowU, fitU, fitC]
  | [x] => rw [fitC_one]; rfl
  | x :: y :: r => simp [rowU, fitU]
theorem fit_opt (E : Env) (x : UT) (lz : Bool) : ∀ (k i j : Nat), 0 < k → (fitU E (optU x lz k) i j ↔ ∃ n, n ≤ k ∧ IterN (fitU E x) n i j)
  | 0, i, j, h => by omega
  | 1, i, j, _ => by
    simp only [optU, fitU]
    constructor
    · rintro (rfl | h)
      · exact ⟨0, by omega, rfl⟩
      · exact ⟨1, by omega, j, h, rfl⟩
    · rintro ⟨n, hn, h⟩
      match n, hn, h with
      | 0, _, h => exact .inl h
      | 1, _, ⟨k, h1, h2⟩ => cases h2; exact .inr h1
  | k + 2, i, j, _ => by
    simp only [optU, fitU, fitC]
    constructor
    · rintro (rfl | ⟨q, h1, q2, h2, rfl⟩)
      · exact ⟨0, by omega, rfl⟩
      · obtain ⟨n, hn, h3⟩ := (fit_opt E x lz (k + 1) q q2 (by omega)).1 h2
        exact ⟨n + 1, by omega, q, h1, h3⟩
    · rintro ⟨n, hn, h⟩
      match n, hn, h with
      | 0, _, h => exact .inl h
      | n + 1, hn, ⟨q, h1, h2⟩ => exact .inr ⟨q, h1, j, (fit_opt E x lz (k + 1) q j (by omega)).2 ⟨n, by omega, h2⟩, rfl⟩
theorem fit_rep (E : Env) (x : UT) (mn mx : Int) (lz : Bool) (h0 : 0 ≤ mn) (hm : mx < 0 ∨ mn ≤ mx) (i j : Nat) :
    fitU E (repU x mn mx lz) i j ↔ ∃ n : Nat, mn ≤ n ∧ (mx < 0 ∨ (n : Int) ≤ mx) ∧ IterN (fitU E x) n i j := by
  unfold repU
  by_cases h1 : mx < 0 ∧ mn = 0
  · rw [if_pos h1]
    simp only [fitU]
    rw [star_iter]
    exact ⟨fun ⟨n, h⟩ => ⟨n, by omega, .inl h1.1, h⟩, fun ⟨n, _, _, h⟩ => ⟨n, h⟩⟩
  rw [if_neg h1, fit_row]
  by_cases h2 : mx < 0
  · rw [if_pos h2, if_pos h2, fitC_append]
    constructor
    · rintro ⟨k, h3, h4⟩
      rw [fitC_times] at h3
      rw [fitC_one] at h4
      simp only [fitU] at h4
      obtain ⟨q, h5, h6⟩ := h4
      obtain ⟨n, h6⟩ := star_iter.1 h6
      exact ⟨(mn - 1).toNat + (n + 1), by omega, .inl h2, (iter_add _ _ _ _).2 ⟨k, h3, q, h5, h6⟩⟩
    · rintro ⟨n, h3, -, h4⟩
      have e : n = (mn - 1).toNat + ((n - (mn - 1).toNat - 1) + 1) := by omega
      rw [e] at h4
      obtain ⟨k, h5, q, h6, h7⟩ := (iter_add _ _ _ _).1 h4
      refine ⟨k, (fitC_times E x _ i k).2 h5, (fitC_one E _ k j).2 ?_⟩
      simp only [fitU]
      exact ⟨q, h6, star_iter.2 ⟨_, h7⟩⟩
  rw [if_neg h2, if_neg h2]
  have hmm : mn ≤ mx := by omega
  by_cases h3 : mn < mx
  · rw [if_pos h3, fitC_append]
    constructor
    · rintro ⟨k, h4, h5⟩
      rw [fitC_times] at h4
      rw [fitC_one, fit_opt E x lz _ k j (by omega)] at h5
      obtain ⟨n, h6, h7⟩ := h5
      exact ⟨mn.toNat + n, by omega, .inr (by omega), (iter_add _ _ _ _).2 ⟨k, h4, h7⟩⟩
    · rintro ⟨n, h4, h5, h6⟩
      have e : n = mn.toNat + (n - mn.toNat) := by omega
      rw [e] at h6
      obtain ⟨k, h7, h8⟩ := (iter_add _ _ _ _).1 h6
      exact ⟨k, (fitC_times E x _ i k).2 h7, (fitC_one E _ k j).2 ((fit_opt E x lz _ k j (by omega)).2 ⟨_, by omega, h8⟩)⟩
  · rw [if_neg h3, List.append_nil, fitC_times]
    constructor
    · exact fun h => ⟨mn.toNat, by omega, .inr (by omega), h⟩
    · rintro ⟨n, h4, h5, h6⟩
      have e : n = mn.toNat := by omega
      rw [← e]
      exact h6

/-! ### backward -/
def Rev (m : Nat) (R R' : Nat → Nat → Prop) : Prop := ∀ i j, i ≤ m → j ≤ m → (R i j ↔ R' (m - j) (m - i))
def Bnd (m : Nat) (R : Nat → Nat → Prop) : Prop := ∀ i j, i ≤ m → R i j → j ≤ m
theorem Rev.symm {m : Nat} {R R' : Nat → Nat → Prop} (h : Rev m R R') : Rev m R' R := fun i j hi hj => by
  have := h (m - j) (m - i) (by omega) (by omega)
  rw [show m - (m - i) = i by omega, show m - (m - j) = j by omega] at this
  exact this.symm
theorem iter_bnd {m : Nat} {R : Nat → Nat → Prop} (hb : Bnd m R) : ∀ n, Bnd m (IterN R n)
  | 0, i, j, hi, h => by cases h; exact hi
  | n + 1, i, j, hi, ⟨k, h1, h2⟩ => iter_bnd hb n k j (hb i k hi h1) h2
theorem iter_to {m : Nat} {R R' : Nat → Nat → Prop} (h : Rev m R R') (hb : Bnd m R) : ∀ (n i j : Nat), i ≤ m → IterN R n i j → IterN R' n (m - j) (m - i)
  | 0, i, j, hi, hr => by cases hr; rfl
  | n + 1, i, j, hi, ⟨k, h1, h2⟩ => by
    have hk := hb i k hi h1
    have h3 := iter_to h hb n k j hk h2
    exact (iter_add n 1 _ _).2 ⟨m - k, h3, m - i, (h i k hi hk).1 h1, rfl⟩
theorem iter_rev {m : Nat} {R R' : Nat → Nat → Prop} (h : Rev m R R') (hb : Bnd m R) (hb' : Bnd m R') (n : Nat) : Rev m (IterN R n) (IterN R' n) := fun i j hi hj => by
  constructor
  · exact iter_to h hb n i j hi
  · intro hr
    have := iter_to h.symm hb' n (m - j) (m - i) (by omega) hr
    rw [show m - (m - i) = i by omega, show m - (m - j) = j by omega] at this
    exact this
mutual
theorem fit_bnd {E : Env} {m : Nat} (hE : ∀ rs p, E.cls rs p = true → p < m) : ∀ (u : UT), Bnd m (fitU E u)
  | .eps, i, j, hi, h => by simp only [fitU] at h; omega
  | .cls rs, i, j, hi, h => by simp only [fitU] at h; have := hE rs i h.1; omega
  | .asr a, i, j, hi, h => by simp only [fitU] at h; omega
  | .cat l, i, j, hi, h => by simp only [fitU] at h; exact fitC_bnd hE l i j hi h
  | .alt l, i, j, hi, h => by simp only [fitU] at h; exact fitA_bnd hE l i j hi h
  | .grp _ x, i, j, hi, h => by simp only [fitU] at h; exact fit_bnd hE x i j hi h
  | .star x _, i, j, hi, h => by
    simp only [fitU] at h
    obtain ⟨n, h⟩ := star_iter.1 h
    exact iter_bnd (fit_bnd hE x) n i j hi h
  | .plus x _, i, j, hi, h => by
    simp only [fitU] at h
    obtain ⟨k, h1, h⟩ := h
    obtain ⟨n, h⟩ := star_iter.1 h
    exact iter_bnd (fit_bnd hE x) n k j (fit_bnd hE x i k hi h1) h
  | .quest x _, i, j, hi, h => by
    simp only [fitU] at h
    rcases h with rfl | h
    · exact hi
    · exact fit_bnd hE x i j hi h
theorem fitC_bnd {E : Env} {m : Nat} (hE : ∀ rs p, E.cls rs p = true → p < m) : ∀ (l : List UT), Bnd m (fitC E l)
  | [], i, j, hi, h => by simp only [fitC] at h; omega
  | x :: r, i, j, hi, h => by
    simp only [fitC] at h
    obtain ⟨k, h1, h2⟩ := h
    exact fitC_bnd hE r k j (fit_bnd hE x i k hi h1) h2
theorem fitA_bnd {E : Env} {m : Nat} (hE : ∀ rs p, E.cls rs p = true → p < m) : ∀ (l : List UT), Bnd m (fitA E l)
  | [], i, j, hi, h => by simp only [fitA] at h
  | x :: r, i, j, hi, h => by
    simp only [fitA] at h
    rcases h with h | h
    · exact fit_bnd hE x i j hi h
    · exact fitA_bnd hE r i j hi h
end
/-- a list of trees, each of which fits backward: the list the other way round -/
theorem cat_rev {E E' : Env} {m : Nat} (hE : ∀ rs p, E.cls rs p = true → p < m) (hE' : ∀ rs p, E'.cls rs p = true → p < m) (f : Tree → UT) (g : Tree → UT) : ∀ (l : List Tree), (∀ x ∈ l, Rev m (fitU E (f x)) (fitU E' (g x))) → Rev m (fitC E (l.map f)) (fitC E' (l.map g).reverse)
  | [], _ => fun i j hi hj => by simp only [List.map_nil, List.reverse_nil, fitC]; omega
  | x :: l, h => fun i j hi hj => by
    have h1 := h x (by simp)
    have h2 := cat_rev hE hE' f g l (fun y hy => h y (by simp [hy]))
    simp only [List.map_cons, List.reverse_cons, fitC]
    rw [fitC_append]
    constructor
    · rintro ⟨k, a, b⟩
      have hk := fit_bnd hE _ i k hi a
      exact ⟨m - k, (h2 k j hk hj).1 b, (fitC_one E' _ _ _).2 ((h1 i k hi hk).1 a)⟩
    · rintro ⟨k', a, b⟩
      have hk := fitC_bnd hE' _ (m - j) k' (by omega) a
      rw [fitC_one] at b
      have e : k' = m - (m - k') := by omega
      rw [e] at a b
      exact ⟨m - k', (h1 i (m - k') hi (by omega)).2 b, (h2 (m - k') j (by omega) hj).2 a⟩
end Go.Proofs.Ytlaofcgllchedaa

/-
  Plain facts on the bits of an int: one bit, and, or, andNot with a power of two.
-/
namespace Go.Proofs.Ytlaofcgllchedaa
open Go.RowKit
set_option linter.unusedVariables false

theorem ofInt_nat (a : Nat) (ha : a < 9223372036854775808) : (BitVec.ofInt 64 (a : Int)).toNat = a := by
  rw [BitVec.ofInt_natCast, BitVec.toNat_ofNat]; exact Nat.mod_eq_of_lt (by omega)
theorem i64_and1 (n : Int) : bits .and .i64 n 1 = n % 2 := by
  have h3 : (BitVec.ofInt 64 1).toNat = 2 ^ 1 - 1 := by decide
  have key : (BitVec.ofInt 64 n &&& BitVec.ofInt 64 1).toNat = (n % ((2 ^ 64 : Nat) : Int)).toNat % 2 ^ 1 := by
    rw [BitVec.toNat_and, BitVec.toNat_ofInt, h3, Nat.and_two_pow_sub_one_eq_mod]
  show IntKind.i64.wrap ((BitVec.ofInt 64 n &&& BitVec.ofInt 64 1).toNat : Nat) = n % 2
  rw [key, IntKind.wrap_i64]
  omega
theorem i64_and3 (n : Int) : bits .and .i64 n 3 = n % 4 := by
  have h3 : (BitVec.ofInt 64 3).toNat = 2 ^ 2 - 1 := by decide
  have key : (BitVec.ofInt 64 n &&& BitVec.ofInt 64 3).toNat = (n % ((2 ^ 64 : Nat) : Int)).toNat % 2 ^ 2 := by
    rw [BitVec.toNat_and, BitVec.toNat_ofInt, h3, Nat.and_two_pow_sub_one_eq_mod]
  show IntKind.i64.wrap ((BitVec.ofInt 64 n &&& BitVec.ofInt 64 3).toNat : Nat) = n % 4
  rw [key, IntKind.wrap_i64]
  omega
theorem i64_and15 (n : Int) : bits .and .i64 n 15 = n % 16 := by
  have h3 : (BitVec.ofInt 64 15).toNat = 2 ^ 4 - 1 := by decide
  have key : (BitVec.ofInt 64 n &&& BitVec.ofInt 64 15).toNat = (n % ((2 ^ 64 : Nat) : Int)).toNat % 2 ^ 4 := by
    rw [BitVec.toNat_and, BitVec.toNat_ofInt, h3, Nat.and_two_pow_sub_one_eq_mod]
  show IntKind.i64.wrap ((BitVec.ofInt 64 n &&& BitVec.ofInt 64 15).toNat : Nat) = n % 16
  rw [key, IntKind.wrap_i64]
  omega
def bitAt (x : Int) (k : Nat) : Bool := (x / 2 ^ k) % 2 == 1

theorem getLsb_ofInt (x : Int) (k : Nat) (hk : k < 64) : (BitVec.ofInt 64 x).getLsbD k = bitAt x k := by
  have hp : (0 : Int) < 2 ^ k := Int.pow_pos (by decide)
  have e64 : (18446744073709551616 : Int) = 2 ^ k * (2 ^ (63 - k) * 2) := by
    rw [← Int.mul_assoc, ← Int.pow_add, ← Int.pow_succ]
    have h64 : (k + (63 - k)).succ = 64 := by omega
    rw [h64]
    decide
  have hm : ((x % ((2 ^ 64 : Nat) : Int)).toNat : Int) = x % 18446744073709551616 := by
    have : ((2 ^ 64 : Nat) : Int) = 18446744073709551616 := by decide
    rw [this]; omega
  unfold BitVec.getLsbD bitAt
  rw [BitVec.toNat_ofInt, Nat.testBit_eq_decide_div_mod_eq]
  have key : ((x % 18446744073709551616) / 2 ^ k) % 2 = (x / 2 ^ k) % 2 := by
    have hx : x = x % 18446744073709551616 + 2 ^ k * (2 ^ (63 - k) * 2 * (x / 18446744073709551616)) := by
      have := Int.emod_add_mul_ediv x 18446744073709551616
      rw [← Int.mul_assoc, ← e64]
      omega
    have h2 : x / 2 ^ k = (x % 18446744073709551616) / 2 ^ k + 2 ^ (63 - k) * 2 * (x / 18446744073709551616) := by
      conv => lhs; rw [hx]
      rw [Int.add_mul_ediv_left _ _ (by omega)]
    rw [h2]
    have h3 : 2 ^ (63 - k) * 2 * (x / 18446744073709551616) = 2 * (2 ^ (63 - k) * (x / 18446744073709551616)) := by
      rw [Int.mul_comm (2 ^ (63 - k)) 2, Int.mul_assoc]
    rw [h3]
    omega
  rw [← key, ← hm]
  generalize (x % ((2 ^ 64 : Nat) : Int)).toNat = m
  have : ((m : Int) / 2 ^ k) % 2 = ((m / 2 ^ k % 2 : Nat) : Int) := by simp
  rw [this]
  rw [Bool.eq_iff_iff]
  simp
  omega
/-! ### one bit out of a number: and, or, andNot with a power of two -/
theorem ofInt_pow (k : Nat) (hk : k < 60) : BitVec.ofInt 64 ((2 ^ k : Nat) : Int) = BitVec.twoPow 64 k := by
  have hp : 2 ^ k ≤ 2 ^ 59 := Nat.pow_le_pow_right (by decide) (by omega)
  apply BitVec.eq_of_toNat_eq
  rw [ofInt_nat _ (by omega), BitVec.toNat_twoPow, Nat.mod_eq_of_lt (by omega)]
theorem bits_and_pow (x : Int) (k : Nat) (hk : k < 60) : bits .and .i64 x ((2 ^ k : Nat) : Int) = if bitAt x k = true then ((2 ^ k : Nat) : Int) else 0 := by
  have hp : 2 ^ k ≤ 2 ^ 59 := Nat.pow_le_pow_right (by decide) (by omega)
  have e : bits .and .i64 x ((2 ^ k : Nat) : Int) = IntKind.i64.wrap ((BitVec.ofInt 64 x &&& BitVec.ofInt 64 ((2 ^ k : Nat) : Int)).toNat : Int) := rfl
  rw [e, ofInt_pow k hk, BitVec.and_twoPow, getLsb_ofInt x k (by omega)]
  cases bitAt x k
  · simp [IntKind.wrap_i64]
  · simp only [if_true, BitVec.toNat_twoPow]
    rw [Nat.mod_eq_of_lt (by omega), IntKind.wrap_i64]
    generalize 2 ^ k = m at *
    omega
theorem wrap_ofInt (x : Int) (h : In64 x) : IntKind.i64.wrap ((BitVec.ofInt 64 x).toNat : Int) = x := by
  obtain ⟨h1, h2⟩ := h
  have e : ((2 ^ 64 : Nat) : Int) = 18446744073709551616 := by decide
  rw [BitVec.toNat_ofInt, IntKind.wrap_i64, e]
  omega
theorem bits_or_pow (x : Int) (k : Nat) (hk : k < 60) (h : In64 x) : bits .or .i64 x ((2 ^ k : Nat) : Int) = if bitAt x k = true then x else IntKind.i64.wrap (x + ((2 ^ k : Nat) : Int)) := by
  have hp : 2 ^ k ≤ 2 ^ 59 := Nat.pow_le_pow_right (by decide) (by omega)
  have e : bits .or .i64 x ((2 ^ k : Nat) : Int) = IntKind.i64.wrap ((BitVec.ofInt 64 x ||| BitVec.ofInt 64 ((2 ^ k : Nat) : Int)).toNat : Int) := rfl
  cases hb : bitAt x k
  · have hz : BitVec.ofInt 64 x &&& BitVec.ofInt 64 ((2 ^ k : Nat) : Int) = 0#64 := by
      rw [ofInt_pow k hk, BitVec.and_twoPow, getLsb_ofInt x k (by omega), hb]; rfl
    rw [e, ← BitVec.add_eq_or_of_and_eq_zero _ _ hz, ← BitVec.ofInt_add]
    simp only [Bool.false_eq_true, if_false]
    have e64 : ((2 ^ 64 : Nat) : Int) = 18446744073709551616 := by decide
    rw [BitVec.toNat_ofInt, IntKind.wrap_i64, IntKind.wrap_i64, e64]
    generalize ((2 ^ k : Nat) : Int) = m at *
    omega
  · rw [e, ofInt_pow k hk]
    have : BitVec.ofInt 64 x ||| BitVec.twoPow 64 k = BitVec.ofInt 64 x := by
      apply BitVec.eq_of_getLsbD_eq
      intro j hj
      rw [BitVec.getLsbD_or, BitVec.getLsbD_twoPow]
      by_cases hjk : k = j
      · subst hjk
        rw [getLsb_ofInt x k (by omega), hb]; simp
      · simp [hjk]
    rw [this, wrap_ofInt x h]
    rfl
theorem bits_andNot_pow (x : Int) (k : Nat) (hk : k < 60) (h : In64 x) : bits .andNot .i64 x ((2 ^ k : Nat) : Int) = if bitAt x k = true then IntKind.i64.wrap (x - ((2 ^ k : Nat) : Int)) else x := by
  have hp : 2 ^ k ≤ 2 ^ 59 := Nat.pow_le_pow_right (by decide) (by omega)
  have e : bits .andNot .i64 x ((2 ^ k : Nat) : Int) = IntKind.i64.wrap ((BitVec.ofInt 64 x &&& ~~~ BitVec.ofInt 64 ((2 ^ k : Nat) : Int)).toNat : Int) := rfl
  cases hb : bitAt x k
  · rw [e, ofInt_pow k hk]
    have : BitVec.ofInt 64 x &&& ~~~ BitVec.twoPow 64 k = BitVec.ofInt 64 x := by
      apply BitVec.eq_of_getLsbD_eq
      intro j hj
      rw [BitVec.getLsbD_and, BitVec.getLsbD_not, BitVec.getLsbD_twoPow]
      by_cases hjk : k = j
      · subst hjk
        rw [getLsb_ofInt x k (by omega), hb]; simp
      · simp [hjk, hj]
    rw [this, wrap_ofInt x h]
    rfl
  · have hz : (BitVec.ofInt 64 x &&& ~~~ BitVec.twoPow 64 k) &&& BitVec.twoPow 64 k = 0#64 := by
      apply BitVec.eq_of_getLsbD_eq
      intro j hj
      simp only [BitVec.getLsbD_and, BitVec.getLsbD_not, BitVec.getLsbD_zero]
      cases (BitVec.twoPow 64 k).getLsbD j <;> simp
    have hs : (BitVec.ofInt 64 x &&& ~~~ BitVec.twoPow 64 k) + BitVec.twoPow 64 k = BitVec.ofInt 64 x := by
      rw [BitVec.add_eq_or_of_and_eq_zero _ _ hz]
      apply BitVec.eq_of_getLsbD_eq
      intro j hj
      simp only [BitVec.getLsbD_or, BitVec.getLsbD_and, BitVec.getLsbD_not, BitVec.getLsbD_twoPow]
      by_cases hjk : k = j
      · subst hjk
        rw [getLsb_ofInt x k (by omega), hb]; simp [hj]
      · simp [hjk, hj]
    have hn := congrArg BitVec.toNat hs
    rw [BitVec.toNat_add, BitVec.toNat_ofInt, BitVec.toNat_twoPow, Nat.mod_eq_of_lt (by omega : 2 ^ k < 2 ^ 64)] at hn
    rw [e, ofInt_pow k hk]
    have hlt := (BitVec.ofInt 64 x &&& ~~~ BitVec.twoPow 64 k).isLt
    generalize (BitVec.ofInt 64 x &&& ~~~ BitVec.twoPow 64 k).toNat = m at *
    have e64 : ((2 ^ 64 : Nat) : Int) = 18446744073709551616 := by decide
    rw [e64] at hn
    simp only [if_true]
    rw [IntKind.wrap_i64, IntKind.wrap_i64]
    generalize (2 ^ k : Nat) = b at *
    omega
end Go.Proofs.Ytlaofcgllchedaa
