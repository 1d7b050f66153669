/-
  The walks of the reference's Holds, Flip.
-/
import Derived.Test.YtmcagnahpgjilaaRef
import Derived.Test.YtmcagnahpgjilaaHolds
namespace Go.Proofs.Ytmcagnahpgjilaa
open Go.RowKit
set_option linter.unusedVariables false

theorem bit_cases (x : Int) (k : Nat) : (bitAt x k = true ∧ (x / 2 ^ k) % 2 = 1) ∨ (bitAt x k = false ∧ (x / 2 ^ k) % 2 = 0) := by
  unfold bitAt
  rcases (by omega : (x / 2 ^ k) % 2 = 1 ∨ (x / 2 ^ k) % 2 = 0) with h | h <;> simp [h]
set_option maxHeartbeats 1000000 in
theorem refHolds_any (w : World) (x y : Int) (hx : In64 x) (hy : In64 y) : Calls Try.prog 15 #[.int .i64 x, .int .i64 y] w fun e w' => e = .returned (.bool (holdsB x y)) ∧ w = w' := by
  have hh := holds_iff x y
  have HH := hide hh
  clear hh
  go_enter Try.func15, Try.ntmps15
  go_wp2
  go_loopg [5] 64 (fun gk v5 wr => ∃ k : Nat, k + gk = 64 ∧ v5 = .int .i64 (k : Int) ∧ (∀ j, j < k → bitAt x j = true → bitAt y j = true) ∧ w = wr)
  case atStart => exact ⟨0, rfl, rfl, fun j hj => absurd hj (by omega), rfl⟩
  case round =>
    obtain ⟨k, hk, rfl, hall, rfl⟩ := hrel
    have HA := hide hall
    clear hall
    by_cases hlt : k < 64
    · have hX := i64_and1 (x / 2 ^ k)
      have hY := i64_and1 (y / 2 ^ k)
      rcases bit_cases x k with ⟨bx, ex⟩ | ⟨bx, ex⟩ <;> rcases bit_cases y k with ⟨by_, ey⟩ | ⟨by_, ey⟩
      all_goals
        rw [ex] at hX
        rw [ey] at hY
        have HBX := hide bx
        have HBY := hide by_
        clear ex ey bx by_
        go_wp2
      · go_roundg (64 - (k + 1))
        case measure => omega
        case rel =>
          refine ⟨k + 1, by omega, by go_num, fun j hj hb => ?_, rfl⟩
          rcases (by omega : j < k ∨ j = k) with h | rfl
          · exact HA.out j h hb
          · exact HBY.out
      · go_ret
        refine ⟨ret_bool ?_, rfl⟩
        cases h : holdsB x y
        · rfl
        · have := HH.out.1 h k hlt HBX.out
          rw [HBY.out] at this
          cases this
      · go_roundg (64 - (k + 1))
        case measure => omega
        case rel =>
          refine ⟨k + 1, by omega, by go_num, fun j hj hb => ?_, rfl⟩
          rcases (by omega : j < k ∨ j = k) with h | rfl
          · exact HA.out j h hb
          · exact HBY.out
      · go_roundg (64 - (k + 1))
        case measure => omega
        case rel =>
          refine ⟨k + 1, by omega, by go_num, fun j hj hb => ?_, rfl⟩
          rcases (by omega : j < k ∨ j = k) with h | rfl
          · exact HA.out j h hb
          · rw [HBX.out] at hb; cases hb
    · have hk64 : k = 64 := by omega
      subst hk64
      go_wp2
      go_ret
      refine ⟨ret_bool ?_, rfl⟩
      exact (HH.out.2 (fun j hj hb => HA.out j hj hb)).symm

theorem and_pow (x : Int) (k : Nat) (b : Nat) (hb : b = 2 ^ k) (hk : k < 60) : bits .and .i64 x (b : Int) = (b : Int) * ((x / (b : Int)) % 2) := by
  subst hb
  rw [bits_and_pow x k hk, bitAt_eq x k ((2 ^ k : Nat) : Int) (by simp)]
  generalize ((2 ^ k : Nat) : Int) = b
  rcases (by omega : (x / b) % 2 = 1 ∨ (x / b) % 2 = 0) with h | h <;> simp [h]
set_option maxHeartbeats 4000000 in
theorem refFlip_any (w : World) (x : Int) (hx : In64 x) : Calls Try.prog 16 #[.int .i64 x] w fun e w' => e = .returned (.int .i64 (flipZ x)) ∧ w = w' := by
  obtain ⟨hx1, hx2⟩ := hx
  have h15 := i64_and15 x
  have h1 := i64_and1 x
  have h2 : bits .and .i64 x 2 = 2 * ((x / 2) % 2) := and_pow x 1 2 rfl (by omega)
  have h4 : bits .and .i64 x 4 = 4 * ((x / 4) % 2) := and_pow x 2 4 rfl (by omega)
  have h8 : bits .and .i64 x 8 = 8 * ((x / 8) % 2) := and_pow x 3 8 rfl (by omega)
  rcases (by omega : x % 2 = 1 ∨ x % 2 = 0) with a | a <;> rcases (by omega : (x / 2) % 2 = 1 ∨ (x / 2) % 2 = 0) with b | b <;>
    rcases (by omega : (x / 4) % 2 = 1 ∨ (x / 4) % 2 = 0) with c | c <;> rcases (by omega : (x / 8) % 2 = 1 ∨ (x / 8) % 2 = 0) with d | d
  all_goals
    rw [a] at h1
    rw [b] at h2
    rw [c] at h4
    rw [d] at h8
    simp only [Int.mul_one, Int.mul_zero] at h2 h4 h8
    obtain ⟨z, hz⟩ : ∃ z, flipZ x = z := ⟨_, rfl⟩
    have hz' := hz
    unfold flipZ at hz'
    rw [a, b, c, d] at hz'
    obtain ⟨m, hm⟩ : ∃ m, x % 16 = m := ⟨_, rfl⟩
    have hm0 : 0 ≤ m := by omega
    have hm1 : m ≤ 15 := by omega
    have hm2 : -9223372036854775808 ≤ x - m := by omega
    have hm3 : x - m ≤ 9223372036854775792 := by omega
    rw [hm] at h15 hz'
    have HZ := hide hz
    have HZ' := hide hz'
    clear hz hz' a b c d hm
    go_enter Try.func16, Try.ntmps16
    go_wp2
    go_ret
    exact ⟨ret_int (by rw [HZ.out, ← HZ'.out]; omega), rfl⟩
end Go.Proofs.Ytmcagnahpgjilaa
