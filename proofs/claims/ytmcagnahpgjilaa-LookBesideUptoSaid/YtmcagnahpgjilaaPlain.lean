/-
  The plain law of what holds at a place (no program in sight).
-/
namespace Go.Proofs.Ytmcagnahpgjilaa
set_option linter.unusedVariables false

/-- one of a word -/
def wordB (x : Int) : Bool := decide (97 ≤ x ∧ x ≤ 122 ∨ 65 ≤ x ∧ x ≤ 90 ∨ 48 ≤ x ∧ x ≤ 57 ∨ x = 95)
def firstB (i : Nat) : Bool := decide (i = 0)
def lastB (xs : List Int) (i : Nat) : Bool := decide (i = xs.length)
def beginB (xs : List Int) (i : Nat) : Bool := decide (i = 0 ∨ xs[i - 1]? = some 10)
def endB (xs : List Int) (i : Nat) : Bool := decide (i = xs.length ∨ xs[i]? = some 10)
def aheadB (xs : List Int) (i : Nat) : Bool := !decide (i = 0) && ((xs[i - 1]?).map wordB).getD false
def behindB (xs : List Int) (i : Nat) : Bool := ((xs[i]?).map wordB).getD false
def edgeB (xs : List Int) (i : Nat) : Bool := aheadB xs i != behindB xs i
/-- which assertions hold at place i, by their numbers -/
def flag (xs : List Int) (i : Nat) : Nat → Bool
  | 0 => firstB i
  | 1 => lastB xs i
  | 2 => beginB xs i
  | 3 => endB xs i
  | 4 => edgeB xs i
  | _ => !edgeB xs i
def bitv (b : Bool) (v : Int) : Int := if b = true then v else 0
/-- the first k of them, as a number -/
def part (xs : List Int) (i : Nat) : Nat → Int
  | 0 => 0
  | k + 1 => part xs i k + bitv (flag xs i k) (2 ^ k)
/-- what At answers -/
def lookAt (xs : List Int) (p : Int) : Int := if 0 ≤ p ∧ p ≤ xs.length then part xs p.toNat 6 else 0

theorem part_bounds (xs : List Int) (i : Nat) : ∀ k, 0 ≤ part xs i k ∧ part xs i k < 2 ^ k
  | 0 => by simp [part]
  | k + 1 => by
    have := part_bounds xs i k
    have h2 : (2 : Int) ^ (k + 1) = 2 ^ k * 2 := Int.pow_succ 2 k
    have h0 : (0 : Int) < 2 ^ k := Int.pow_pos (by decide)
    unfold part bitv
    split <;> omega
end Go.Proofs.Ytmcagnahpgjilaa
