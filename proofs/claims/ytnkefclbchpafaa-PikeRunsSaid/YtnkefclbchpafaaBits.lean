/-
  Plain facts on the bits of an int: one bit, and, or, andNot with a power of two.
-/
import Derived.Test.YtnkefclbchpafaaMem
import Derived.Test.YtnkefclbchpafaaView
import Derived.Laws.BitsAllLaws
import Derived.Laws.BitsLemmas
namespace Go.Proofs.Ytnkefclbchpafaa
open Go.RowKit
set_option linter.unusedVariables false

theorem ofInt_nat (a : Nat) (ha : a < 9223372036854775808) : (BitVec.ofInt 64 (a : Int)).toNat = a := by
  rw [BitVec.ofInt_natCast, BitVec.toNat_ofNat]; exact Nat.mod_eq_of_lt (by omega)
theorem i64_and1 (n : Int) : bits .and .i64 n 1 = n % 2 := by
  have h3 : (BitVec.ofInt 64 1).toNat = 2 ^ 1 - 1 := by decide
  have key : (BitVec.ofInt 64 n &&& BitVec.ofInt 64 1).toNat = (n % ((2 ^ 64 : Nat) : Int)).toNat % 2 ^ 1 := by
    rw [BitVec.toNat_and, BitVec.toNat_ofInt, h3, Nat.and_two_pow_sub_one_eq_mod]
  show IntKind.i64.wrap ((BitVec.ofInt 64 n &&& BitVec.ofInt 64 1).toNat : Nat) = n % 2
  rw [key, IntKind.wrap_i64]
  omega
theorem i64_and3 (n : Int) : bits .and .i64 n 3 = n % 4 := by
  have h3 : (BitVec.ofInt 64 3).toNat = 2 ^ 2 - 1 := by decide
  have key : (BitVec.ofInt 64 n &&& BitVec.ofInt 64 3).toNat = (n % ((2 ^ 64 : Nat) : Int)).toNat % 2 ^ 2 := by
    rw [BitVec.toNat_and, BitVec.toNat_ofInt, h3, Nat.and_two_pow_sub_one_eq_mod]
  show IntKind.i64.wrap ((BitVec.ofInt 64 n &&& BitVec.ofInt 64 3).toNat : Nat) = n % 4
  rw [key, IntKind.wrap_i64]
  omega
theorem i64_and15 (n : Int) : bits .and .i64 n 15 = n % 16 := by
  have h3 : (BitVec.ofInt 64 15).toNat = 2 ^ 4 - 1 := by decide
  have key : (BitVec.ofInt 64 n &&& BitVec.ofInt 64 15).toNat = (n % ((2 ^ 64 : Nat) : Int)).toNat % 2 ^ 4 := by
    rw [BitVec.toNat_and, BitVec.toNat_ofInt, h3, Nat.and_two_pow_sub_one_eq_mod]
  show IntKind.i64.wrap ((BitVec.ofInt 64 n &&& BitVec.ofInt 64 15).toNat : Nat) = n % 16
  rw [key, IntKind.wrap_i64]
  omega
def bitAt (x : Int) (k : Nat) : Bool := (x / 2 ^ k) % 2 == 1

theorem getLsb_ofInt (x : Int) (k : Nat) (hk : k < 64) : (BitVec.ofInt 64 x).getLsbD k = bitAt x k := by
  have hp : (0 : Int) < 2 ^ k := Int.pow_pos (by decide)
  have e64 : (18446744073709551616 : Int) = 2 ^ k * (2 ^ (63 - k) * 2) := by
    rw [← Int.mul_assoc, ← Int.pow_add, ← Int.pow_succ]
    have h64 : (k + (63 - k)).succ = 64 := by omega
    rw [h64]
    decide
  have hm : ((x % ((2 ^ 64 : Nat) : Int)).toNat : Int) = x % 18446744073709551616 := by
    have : ((2 ^ 64 : Nat) : Int) = 18446744073709551616 := by decide
    rw [this]; omega
  unfold BitVec.getLsbD bitAt
  rw [BitVec.toNat_ofInt, Nat.testBit_eq_decide_div_mod_eq]
  have key : ((x % 18446744073709551616) / 2 ^ k) % 2 = (x / 2 ^ k) % 2 := by
    have hx : x = x % 18446744073709551616 + 2 ^ k * (2 ^ (63 - k) * 2 * (x / 18446744073709551616)) := by
      have := Int.emod_add_mul_ediv x 18446744073709551616
      rw [← Int.mul_assoc, ← e64]
      omega
    have h2 : x / 2 ^ k = (x % 18446744073709551616) / 2 ^ k + 2 ^ (63 - k) * 2 * (x / 18446744073709551616) := by
      conv => lhs; rw [hx]
      rw [Int.add_mul_ediv_left _ _ (by omega)]
    rw [h2]
    have h3 : 2 ^ (63 - k) * 2 * (x / 18446744073709551616) = 2 * (2 ^ (63 - k) * (x / 18446744073709551616)) := by
      rw [Int.mul_comm (2 ^ (63 - k)) 2, Int.mul_assoc]
    rw [h3]
    omega
  rw [← key, ← hm]
  generalize (x % ((2 ^ 64 : Nat) : Int)).toNat = m
  have : ((m : Int) / 2 ^ k) % 2 = ((m / 2 ^ k % 2 : Nat) : Int) := by simp
  rw [this]
  rw [Bool.eq_iff_iff]
  simp
  omega
/-! ### one bit out of a number: and, or, andNot with a power of two -/
theorem ofInt_pow (k : Nat) (hk : k < 60) : BitVec.ofInt 64 ((2 ^ k : Nat) : Int) = BitVec.twoPow 64 k := by
  have hp : 2 ^ k ≤ 2 ^ 59 := Nat.pow_le_pow_right (by decide) (by omega)
  apply BitVec.eq_of_toNat_eq
  rw [ofInt_nat _ (by omega), BitVec.toNat_twoPow, Nat.mod_eq_of_lt (by omega)]
theorem bits_and_pow (x : Int) (k : Nat) (hk : k < 60) : bits .and .i64 x ((2 ^ k : Nat) : Int) = if bitAt x k = true then ((2 ^ k : Nat) : Int) else 0 := by
  have hp : 2 ^ k ≤ 2 ^ 59 := Nat.pow_le_pow_right (by decide) (by omega)
  have e : bits .and .i64 x ((2 ^ k : Nat) : Int) = IntKind.i64.wrap ((BitVec.ofInt 64 x &&& BitVec.ofInt 64 ((2 ^ k : Nat) : Int)).toNat : Int) := rfl
  rw [e, ofInt_pow k hk, BitVec.and_twoPow, getLsb_ofInt x k (by omega)]
  cases bitAt x k
  · simp [IntKind.wrap_i64]
  · simp only [if_true, BitVec.toNat_twoPow]
    rw [Nat.mod_eq_of_lt (by omega), IntKind.wrap_i64]
    generalize 2 ^ k = m at *
    omega
theorem wrap_ofInt (x : Int) (h : In64 x) : IntKind.i64.wrap ((BitVec.ofInt 64 x).toNat : Int) = x := by
  obtain ⟨h1, h2⟩ := h
  have e : ((2 ^ 64 : Nat) : Int) = 18446744073709551616 := by decide
  rw [BitVec.toNat_ofInt, IntKind.wrap_i64, e]
  omega
theorem bits_or_pow (x : Int) (k : Nat) (hk : k < 60) (h : In64 x) : bits .or .i64 x ((2 ^ k : Nat) : Int) = if bitAt x k = true then x else IntKind.i64.wrap (x + ((2 ^ k : Nat) : Int)) := by
  have hp : 2 ^ k ≤ 2 ^ 59 := Nat.pow_le_pow_right (by decide) (by omega)
  have e : bits .or .i64 x ((2 ^ k : Nat) : Int) = IntKind.i64.wrap ((BitVec.ofInt 64 x ||| BitVec.ofInt 64 ((2 ^ k : Nat) : Int)).toNat : Int) := rfl
  cases hb : bitAt x k
  · have hz : BitVec.ofInt 64 x &&& BitVec.ofInt 64 ((2 ^ k : Nat) : Int) = 0#64 := by
      rw [ofInt_pow k hk, BitVec.and_twoPow, getLsb_ofInt x k (by omega), hb]; rfl
    rw [e, ← BitVec.add_eq_or_of_and_eq_zero _ _ hz, ← BitVec.ofInt_add]
    simp only [Bool.false_eq_true, if_false]
    have e64 : ((2 ^ 64 : Nat) : Int) = 18446744073709551616 := by decide
    rw [BitVec.toNat_ofInt, IntKind.wrap_i64, IntKind.wrap_i64, e64]
    generalize ((2 ^ k : Nat) : Int) = m at *
    omega
  · rw [e, ofInt_pow k hk]
    have : BitVec.ofInt 64 x ||| BitVec.twoPow 64 k = BitVec.ofInt 64 x := by
      apply BitVec.eq_of_getLsbD_eq
      intro j hj
      rw [BitVec.getLsbD_or, BitVec.getLsbD_twoPow]
      by_cases hjk : k = j
      · subst hjk
        rw [getLsb_ofInt x k (by omega), hb]; simp
      · simp [hjk]
    rw [this, wrap_ofInt x h]
    rfl
theorem bits_andNot_pow (x : Int) (k : Nat) (hk : k < 60) (h : In64 x) : bits .andNot .i64 x ((2 ^ k : Nat) : Int) = if bitAt x k = true then IntKind.i64.wrap (x - ((2 ^ k : Nat) : Int)) else x := by
  have hp : 2 ^ k ≤ 2 ^ 59 := Nat.pow_le_pow_right (by decide) (by omega)
  have e : bits .andNot .i64 x ((2 ^ k : Nat) : Int) = IntKind.i64.wrap ((BitVec.ofInt 64 x &&& ~~~ BitVec.ofInt 64 ((2 ^ k : Nat) : Int)).toNat : Int) := rfl
  cases hb : bitAt x k
  · rw [e, ofInt_pow k hk]
    have : BitVec.ofInt 64 x &&& ~~~ BitVec.twoPow 64 k = BitVec.ofInt 64 x := by
      apply BitVec.eq_of_getLsbD_eq
      intro j hj
      rw [BitVec.getLsbD_and, BitVec.getLsbD_not, BitVec.getLsbD_twoPow]
      by_cases hjk : k = j
      · subst hjk
        rw [getLsb_ofInt x k (by omega), hb]; simp
      · simp [hjk, hj]
    rw [this, wrap_ofInt x h]
    rfl
  · have hz : (BitVec.ofInt 64 x &&& ~~~ BitVec.twoPow 64 k) &&& BitVec.twoPow 64 k = 0#64 := by
      apply BitVec.eq_of_getLsbD_eq
      intro j hj
      simp only [BitVec.getLsbD_and, BitVec.getLsbD_not, BitVec.getLsbD_zero]
      cases (BitVec.twoPow 64 k).getLsbD j <;> simp
    have hs : (BitVec.ofInt 64 x &&& ~~~ BitVec.twoPow 64 k) + BitVec.twoPow 64 k = BitVec.ofInt 64 x := by
      rw [BitVec.add_eq_or_of_and_eq_zero _ _ hz]
      apply BitVec.eq_of_getLsbD_eq
      intro j hj
      simp only [BitVec.getLsbD_or, BitVec.getLsbD_and, BitVec.getLsbD_not, BitVec.getLsbD_twoPow]
      by_cases hjk : k = j
      · subst hjk
        rw [getLsb_ofInt x k (by omega), hb]; simp [hj]
      · simp [hjk, hj]
    have hn := congrArg BitVec.toNat hs
    rw [BitVec.toNat_add, BitVec.toNat_ofInt, BitVec.toNat_twoPow, Nat.mod_eq_of_lt (by omega : 2 ^ k < 2 ^ 64)] at hn
    rw [e, ofInt_pow k hk]
    have hlt := (BitVec.ofInt 64 x &&& ~~~ BitVec.twoPow 64 k).isLt
    generalize (BitVec.ofInt 64 x &&& ~~~ BitVec.twoPow 64 k).toNat = m at *
    have e64 : ((2 ^ 64 : Nat) : Int) = 18446744073709551616 := by decide
    rw [e64] at hn
    simp only [if_true]
    rw [IntKind.wrap_i64, IntKind.wrap_i64]
    generalize (2 ^ k : Nat) = b at *
    omega
end Go.Proofs.Ytnkefclbchpafaa
