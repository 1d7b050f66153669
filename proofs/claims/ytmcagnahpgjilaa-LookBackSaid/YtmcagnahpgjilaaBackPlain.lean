/-
  Plain facts: what holds read backward; Flip undoes itself, and swaps bits.
-/
import Derived.Test.YtmcagnahpgjilaaHolds
namespace Go.Proofs.Ytmcagnahpgjilaa
open Go.RowKit
set_option linter.unusedVariables false

/-- a number by its four lowest bits -/
theorem four_bits (x : Int) : ∃ q b0 b1 b2 b3 : Int, 0 ≤ b0 ∧ b0 ≤ 1 ∧ 0 ≤ b1 ∧ b1 ≤ 1 ∧ 0 ≤ b2 ∧ b2 ≤ 1 ∧ 0 ≤ b3 ∧ b3 ≤ 1 ∧ x = 16 * q + 8 * b3 + 4 * b2 + 2 * b1 + b0 :=
  ⟨x / 16, x % 2, (x / 2) % 2, (x / 4) % 2, (x / 8) % 2, by omega⟩
theorem flipZ_bits (q b0 b1 b2 b3 : Int) (h0 : 0 ≤ b0) (h0' : b0 ≤ 1) (h1 : 0 ≤ b1) (h1' : b1 ≤ 1) (h2 : 0 ≤ b2) (h2' : b2 ≤ 1) (h3 : 0 ≤ b3) (h3' : b3 ≤ 1) :
    flipZ (16 * q + 8 * b3 + 4 * b2 + 2 * b1 + b0) = 16 * q + 8 * b2 + 4 * b3 + 2 * b0 + b1 := by
  unfold flipZ
  have e0 : (16 * q + 8 * b3 + 4 * b2 + 2 * b1 + b0) % 16 = 8 * b3 + 4 * b2 + 2 * b1 + b0 := by omega
  have e1 : (16 * q + 8 * b3 + 4 * b2 + 2 * b1 + b0) % 2 = b0 := by omega
  have e2 : (16 * q + 8 * b3 + 4 * b2 + 2 * b1 + b0) / 2 % 2 = b1 := by omega
  have e3 : (16 * q + 8 * b3 + 4 * b2 + 2 * b1 + b0) / 4 % 2 = b2 := by omega
  have e4 : (16 * q + 8 * b3 + 4 * b2 + 2 * b1 + b0) / 8 % 2 = b3 := by omega
  rw [e0, e1, e2, e3, e4]
  omega
theorem flipZ_flipZ (x : Int) : flipZ (flipZ x) = x := by
  obtain ⟨q, b0, b1, b2, b3, h0, h0', h1, h1', h2, h2', h3, h3', rfl⟩ := four_bits x
  rw [flipZ_bits q b0 b1 b2 b3 h0 h0' h1 h1' h2 h2' h3 h3', flipZ_bits q b1 b0 b3 b2 h1 h1' h0 h0' h3 h3' h2 h2']
def swp (k : Nat) : Nat := if k = 0 then 1 else if k = 1 then 0 else if k = 2 then 3 else if k = 3 then 2 else k
theorem swp_big {k : Nat} (h : 4 ≤ k) : swp k = k := by
  unfold swp
  rw [if_neg (by omega), if_neg (by omega), if_neg (by omega), if_neg (by omega)]
theorem swp_swp (k : Nat) : swp (swp k) = k := by
  rcases (by omega : k = 0 ∨ k = 1 ∨ k = 2 ∨ k = 3 ∨ 4 ≤ k) with rfl | rfl | rfl | rfl | h
  · rfl
  · rfl
  · rfl
  · rfl
  · rw [swp_big h, swp_big h]
theorem swp_lt {k : Nat} (h : k < 64) : swp k < 64 := by
  rcases (by omega : k = 0 ∨ k = 1 ∨ k = 2 ∨ k = 3 ∨ 4 ≤ k) with rfl | rfl | rfl | rfl | h'
  · decide
  · decide
  · decide
  · decide
  · rw [swp_big h']; exact h
theorem nib (q b0 b1 b2 b3 : Int) (h0 : 0 ≤ b0) (h0' : b0 ≤ 1) (h1 : 0 ≤ b1) (h1' : b1 ≤ 1) (h2 : 0 ≤ b2) (h2' : b2 ≤ 1) (h3 : 0 ≤ b3) (h3' : b3 ≤ 1) :
    bitAt (16 * q + 8 * b3 + 4 * b2 + 2 * b1 + b0) 0 = (b0 == 1) ∧ bitAt (16 * q + 8 * b3 + 4 * b2 + 2 * b1 + b0) 1 = (b1 == 1) ∧ bitAt (16 * q + 8 * b3 + 4 * b2 + 2 * b1 + b0) 2 = (b2 == 1) ∧ bitAt (16 * q + 8 * b3 + 4 * b2 + 2 * b1 + b0) 3 = (b3 == 1) := by
  have e1 : (16 * q + 8 * b3 + 4 * b2 + 2 * b1 + b0) / 1 % 2 = b0 := by omega
  have e2 : (16 * q + 8 * b3 + 4 * b2 + 2 * b1 + b0) / 2 % 2 = b1 := by omega
  have e3 : (16 * q + 8 * b3 + 4 * b2 + 2 * b1 + b0) / 4 % 2 = b2 := by omega
  have e4 : (16 * q + 8 * b3 + 4 * b2 + 2 * b1 + b0) / 8 % 2 = b3 := by omega
  refine ⟨?_, ?_, ?_, ?_⟩
  · show (_ / 1 % 2 == 1) = _; rw [e1]
  · show (_ / 2 % 2 == 1) = _; rw [e2]
  · show (_ / 4 % 2 == 1) = _; rw [e3]
  · show (_ / 8 % 2 == 1) = _; rw [e4]
theorem bitAt_flipZ (x : Int) (k : Nat) : bitAt (flipZ x) k = bitAt x (swp k) := by
  obtain ⟨q, b0, b1, b2, b3, h0, h0', h1, h1', h2, h2', h3, h3', rfl⟩ := four_bits x
  rw [flipZ_bits q b0 b1 b2 b3 h0 h0' h1 h1' h2 h2' h3 h3']
  by_cases hk : k < 4
  · rcases (by omega : k = 0 ∨ k = 1 ∨ k = 2 ∨ k = 3) with rfl | rfl | rfl | rfl
    · rw [(nib q b1 b0 b3 b2 h1 h1' h0 h0' h3 h3' h2 h2').1]; exact (nib q b0 b1 b2 b3 h0 h0' h1 h1' h2 h2' h3 h3').2.1.symm
    · rw [(nib q b1 b0 b3 b2 h1 h1' h0 h0' h3 h3' h2 h2').2.1]; exact (nib q b0 b1 b2 b3 h0 h0' h1 h1' h2 h2' h3 h3').1.symm
    · rw [(nib q b1 b0 b3 b2 h1 h1' h0 h0' h3 h3' h2 h2').2.2.1]; exact (nib q b0 b1 b2 b3 h0 h0' h1 h1' h2 h2' h3 h3').2.2.2.symm
    · rw [(nib q b1 b0 b3 b2 h1 h1' h0 h0' h3 h3' h2 h2').2.2.2]; exact (nib q b0 b1 b2 b3 h0 h0' h1 h1' h2 h2' h3 h3').2.2.1.symm
  · have hs : swp k = k := swp_big (by omega)
    rw [hs]
    unfold bitAt
    obtain ⟨j, rfl⟩ : ∃ j, k = 4 + j := ⟨k - 4, by omega⟩
    have hp : (2 : Int) ^ (4 + j) = 16 * 2 ^ j := by rw [Int.pow_add]; rfl
    have hd : ∀ y : Int, y / 2 ^ (4 + j) = y / 16 / 2 ^ j := by
      intro y
      rw [hp, Int.ediv_ediv_of_nonneg (by omega)]
    rw [hd, hd]
    have : (16 * q + 8 * b2 + 4 * b3 + 2 * b0 + b1) / 16 = (16 * q + 8 * b3 + 4 * b2 + 2 * b1 + b0) / 16 := by omega
    rw [this]
theorem holds_flip (x : Int) : holdsB (flipZ x) x = holdsB x (flipZ x) := by
  rw [Bool.eq_iff_iff, holds_iff, holds_iff]
  constructor
  · intro h k hk hb
    rw [bitAt_flipZ]
    have := h (swp k) (swp_lt hk)
    rw [bitAt_flipZ, swp_swp] at this
    exact this hb
  · intro h k hk hb
    rw [bitAt_flipZ] at hb
    have := h (swp k) (swp_lt hk) hb
    rw [bitAt_flipZ, swp_swp] at this
    exact this

theorem rev_get (xs : List Int) (i : Nat) (hi : i < xs.length) : xs.reverse[xs.length - 1 - i]? = xs[i]? := by
  rw [List.getElem?_reverse (by omega)]
  congr 1
  omega
theorem flag_back (xs : List Int) (i : Nat) (hi : i ≤ xs.length) :
    firstB (xs.length - i) = lastB xs i ∧ lastB xs.reverse (xs.length - i) = firstB i ∧ beginB xs.reverse (xs.length - i) = endB xs i ∧ endB xs.reverse (xs.length - i) = beginB xs i ∧
    aheadB xs.reverse (xs.length - i) = behindB xs i ∧ behindB xs.reverse (xs.length - i) = aheadB xs i := by
  have hl : xs.reverse.length = xs.length := List.length_reverse
  have h1 : i < xs.length → xs.reverse[xs.length - i - 1]? = xs[i]? := fun h => by
    rw [show xs.length - i - 1 = xs.length - 1 - i by omega]; exact rev_get xs i h
  have h2 : 0 < i → xs.reverse[xs.length - i]? = xs[i - 1]? := fun h => by
    rw [show xs.length - i = xs.length - 1 - (i - 1) by omega]; exact rev_get xs (i - 1) (by omega)
  have h3 : i = xs.length → xs[i]? = none := fun h => List.getElem?_eq_none (by omega)
  have h4 : i = 0 → xs.reverse[xs.length - i]? = none := fun h => List.getElem?_eq_none (by omega)
  refine ⟨?_, ?_, ?_, ?_, ?_, ?_⟩
  · unfold firstB lastB; simp; omega
  · unfold firstB lastB; simp [hl]; omega
  · unfold beginB endB
    by_cases h : i = xs.length
    · simp [h]
    · have : ¬ xs.length - i = 0 := by omega
      simp [h, this, h1 (by omega)]
  · unfold beginB endB
    by_cases h : i = 0
    · simp [h]
    · have : ¬ xs.length - i = xs.length := by omega
      simp only [hl, h, this, false_or, h2 (by omega)]
  · unfold aheadB behindB
    by_cases h : i = xs.length
    · simp [h]
    · have : ¬ xs.length - i = 0 := by omega
      simp [this, h1 (by omega)]
  · unfold aheadB behindB
    by_cases h : i = 0
    · rw [h4 h]; simp [h]
    · simp [h, h2 (by omega)]
theorem look_back (xs : List Int) (i : Nat) (hi : i ≤ xs.length) : flipZ (part xs.reverse (xs.length - i) 6) = part xs i 6 := by
  obtain ⟨f1, f2, f3, f4, f5, f6⟩ := flag_back xs i hi
  have e1 : part xs i 6 = ((((((0 + bitv (firstB i) 1) + bitv (lastB xs i) 2) + bitv (beginB xs i) 4) + bitv (endB xs i) 8) + bitv (aheadB xs i != behindB xs i) 16) + bitv (!(aheadB xs i != behindB xs i)) 32) := rfl
  have e2 : part xs.reverse (xs.length - i) 6 = ((((((0 + bitv (firstB (xs.length - i)) 1) + bitv (lastB xs.reverse (xs.length - i)) 2) + bitv (beginB xs.reverse (xs.length - i)) 4) + bitv (endB xs.reverse (xs.length - i)) 8) + bitv (aheadB xs.reverse (xs.length - i) != behindB xs.reverse (xs.length - i)) 16) + bitv (!(aheadB xs.reverse (xs.length - i) != behindB xs.reverse (xs.length - i))) 32) := rfl
  rw [e1, e2, f1, f2, f3, f4, f5, f6]
  generalize firstB i = a
  generalize lastB xs i = b
  generalize beginB xs i = c
  generalize endB xs i = d
  generalize aheadB xs i = e
  generalize behindB xs i = f
  cases a <;> cases b <;> cases c <;> cases d <;> cases e <;> cases f <;> decide
end Go.Proofs.Ytmcagnahpgjilaa
