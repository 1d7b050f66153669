/-
  The row of a program, step by step. No memory.
-/
import Derived.Test.YtebbnjbgmcdbcaaPlainP
namespace Go.Proofs.Ytebbnjbgmcdbcaa
set_option linter.unusedVariables false

theorem getD_some {bs : List Bool} {pc : Nat} {b : Bool} (h : bs[pc]? = some b) : bs.getD pc true = b := by
  rw [List.getD_eq_getElem?_getD, h]
  rfl
theorem prefix_met {is : List PInst} {f : Nat} {bs : List Bool} {pc : Nat} {row : List Int} (h : bs[pc]? = some true) : prefixFrom is (f + 1) bs pc row = (row, false) := by
  rw [prefixFrom, getD_some h]
  simp
theorem prefix_match {is : List PInst} {f : Nat} {bs : List Bool} {pc : Nat} {row : List Int} {x : PInst} (h : bs[pc]? = some false) (hx : is[pc]? = some x) (ho : x.op = 5) : prefixFrom is (f + 1) bs pc row = (row, true) := by
  rw [prefixFrom, getD_some h, hx]
  simp [ho]
theorem prefix_rune {is : List PInst} {f : Nat} {bs : List Bool} {pc : Nat} {row : List Int} {x : PInst} {lo hi : Int} (h : bs[pc]? = some false) (hx : is[pc]? = some x) (ho : x.op = 1) (hr : x.rs = [(lo, hi)]) (he : lo = hi) :
    prefixFrom is (f + 1) bs pc row = prefixFrom is f (bs.set pc true) x.x.toNat (row ++ [lo]) := by
  rw [prefixFrom, getD_some h, hx]
  simp [ho, hr, he]
theorem prefix_goes {is : List PInst} {f : Nat} {bs : List Bool} {pc : Nat} {row : List Int} {x : PInst} (h : bs[pc]? = some false) (hx : is[pc]? = some x) (ho : x.op = 7 ∨ x.op = 3) :
    prefixFrom is (f + 1) bs pc row = prefixFrom is f (bs.set pc true) x.x.toNat row := by
  rw [prefixFrom, getD_some h, hx]
  rcases ho with ho | ho <;> simp [ho]
theorem prefix_wide {is : List PInst} {f : Nat} {bs : List Bool} {pc : Nat} {row : List Int} {x : PInst} (h : bs[pc]? = some false) (hx : is[pc]? = some x) (ho : x.op = 1) (hr : x.rs.length ≠ 1) : prefixFrom is (f + 1) bs pc row = (row, false) := by
  rw [prefixFrom, getD_some h, hx]
  simp only [ho]
  rcases hrs : x.rs with _ | ⟨r, _ | ⟨r2, r3⟩⟩
  · simp
  · rw [hrs] at hr; simp at hr
  · simp
theorem prefix_two {is : List PInst} {f : Nat} {bs : List Bool} {pc : Nat} {row : List Int} {x : PInst} {lo hi : Int} (h : bs[pc]? = some false) (hx : is[pc]? = some x) (ho : x.op = 1) (hr : x.rs = [(lo, hi)]) (he : lo ≠ hi) :
    prefixFrom is (f + 1) bs pc row = (row, false) := by
  rw [prefixFrom, getD_some h, hx]
  simp [ho, hr, he]
theorem prefix_other {is : List PInst} {f : Nat} {bs : List Bool} {pc : Nat} {row : List Int} {x : PInst} (h : bs[pc]? = some false) (hx : is[pc]? = some x) (h5 : x.op ≠ 5) (h1 : x.op ≠ 1) (h7 : x.op ≠ 7) (h3 : x.op ≠ 3) : prefixFrom is (f + 1) bs pc row = (row, false) := by
  rw [prefixFrom, getD_some h, hx]
  simp [h5, h1, h7, h3]
end Go.Proofs.Ytebbnjbgmcdbcaa
