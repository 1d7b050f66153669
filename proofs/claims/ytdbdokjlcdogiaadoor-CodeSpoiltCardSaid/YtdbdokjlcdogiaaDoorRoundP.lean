/-
  Plain law: what Bytes lays, Load reads back.
-/
import Derived.Test.YtdbdokjlcdogiaaDoorLoadP
namespace Go.Proofs.YtdbdokjlcdogiaaDoor
open Go.RowKit
set_option linter.unusedVariables false

theorem numF_put : ∀ (f : Nat) (n : Nat) (acc step : Int) (first : Bool) (r : List Int), n < 128 ^ f → (first = false → 0 < n) → 0 < f → numF f acc step first (putN n ++ r) = some (acc + n * step, r)
  | 0, n, acc, step, first, r, h, h1, h2 => by omega
  | f + 1, n, acc, step, first, r, h, h1, h2 => by
    by_cases hs : n < 128
    · rw [putN_small hs, List.singleton_append]
      unfold numF
      rw [if_pos (by omega), if_pos (by cases first <;> simp_all)]
      have : (n : Int) % 128 = n := by omega
      rw [this]
    · rw [putN_big hs, List.cons_append]
      unfold numF
      have hf : 0 < f := by
        rcases Nat.eq_zero_or_pos f with h0 | h0
        · subst h0; simp at h; omega
        · exact h0
      have hp : 128 ^ (f + 1) = 128 ^ f * 128 := Nat.pow_succ ..
      rw [if_neg (by omega), numF_put f (n / 128) _ _ false r (by omega) (fun _ => by omega) hf]
      have hm : ((128 + n % 128 : Nat) : Int) % 128 = ((n % 128 : Nat) : Int) := by omega
      have hn : (n : Int) = 128 * ((n / 128 : Nat) : Int) + ((n % 128 : Nat) : Int) := by omega
      rw [hm]
      congr 2
      rw [hn, Int.add_mul, Int.mul_comm 128 ((n / 128 : Nat) : Int), Int.mul_assoc, Int.mul_comm 128 step, Int.add_assoc, Int.add_comm (((n % 128 : Nat) : Int) * step)]
theorem numB_put (n : Nat) (r : List Int) (h : n < 268435456) : numB (putN n ++ r) = some ((n : Int), r) := by
  unfold numB
  rw [numF_put 4 n 0 1 true r (by omega) (fun h => by cases h) (by omega)]
  simp
end Go.Proofs.YtdbdokjlcdogiaaDoor
