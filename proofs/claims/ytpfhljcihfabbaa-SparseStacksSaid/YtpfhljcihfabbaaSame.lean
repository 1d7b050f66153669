/-
  The walks of the law's own helpers: same; awake.
-/
import Derived.Test.YtpfhljcihfabbaaSet
import Derived.Test.YtpfhljcihfabbaaView
namespace Go.Proofs.Ytpfhljcihfabbaa
open Go.RowKit
set_option linter.unusedVariables false

theorem hide {p : Prop} (h : p) : Hid p := h

theorem ret_bool {a b : Bool} (h : a = b) : Ending.returned (.bool a) = .returned (.bool b) := by rw [h]

theorem take_next {α : Type} {xs : List α} {k : Nat} {x : α} (h : xs[k]? = some x) : xs.take (k + 1) = xs.take k ++ [x] := by
  rw [List.take_add_one, h]; rfl
/-- are two lists one? -/
def sameB (xs ys : List Int) : Bool := decide (xs = ys)

set_option maxHeartbeats 400000 in
theorem same_any (w : World) (S T : Nat → Prop) (A B : Option Addr) (n m c d : Nat) (xs ys : List Int) (hx : Reads w S 1 A n (intv xs)) (hy : Reads w T 1 B m (intv ys)) (hn : n ≤ 9223372036854775807) (hm : m ≤ 9223372036854775807) :
    Calls Try.prog 31 #[.slice A n c, .slice B m d] w fun e w' => e = .returned (.bool (sameB xs ys)) ∧ ∃ q, w' = w.drewN q := by
  have hxn : xs.length = n := by have := hx.1; simpa [intv] using this
  have hyn : ys.length = m := by have := hy.1; simpa [intv] using this
  by_cases hl : n = m
  · subst hl
    go_enter Try.func31, Try.ntmps31
    go_wp2
    go_loopw [5] (fun i wr => ∃ k q : Nat, k ≤ n ∧ i = .int .i64 (k : Int) ∧ xs.take k = ys.take k ∧ wr = w.drewN q) (fun i _ => n - (intOf i).toNat)
    case atStart => exact ⟨0, 0, Nat.zero_le _, rfl, rfl, rfl⟩
    case round =>
      obtain ⟨k, q, hk, rfl, hpre, rfl⟩ := hrel
      by_cases hlt : k < n
      · obtain ⟨ad, x, rfl, hxk, hcu⟩ := hx.int1 hlt
        obtain ⟨bd, y, rfl, hyk, hcv⟩ := hy.int1 hlt
        have H1 := hide hx
        have H2 := hide hy
        clear hx hy
        by_cases hxy : x = y
        · subst hxy
          have H3 : Hid (xs.take (k + 1) = ys.take (k + 1)) := by rw [take_next hxk, take_next hyk, hpre]; exact rfl
          clear hpre hxk hyk
          go_wp2
          go_quiet (fail)
          go_wp2
          go_roundw
          case rel => exact ⟨k + 1, _, by omega, by go_num, H3.out, by first | rfl | rw [World.drewN_drewN]⟩
          case measure => simp [intOf]; omega
        · have hr : sameB xs ys = false := by
            unfold sameB
            simp only [decide_eq_false_iff_not]
            rintro rfl
            rw [hxk] at hyk; injection hyk with hyk; exact hxy hyk
          have HR := hide hr
          have h1 : (x != y) = true := by simpa using hxy
          clear hr hpre hxk hyk
          go_wp2
          go_quiet (fail)
          go_wp2
          go_ret
          exact ⟨ret_bool HR.out.symm, _, by first | rfl | rw [World.drewN_drewN]⟩
      · have hr : sameB xs ys = true := by
          unfold sameB
          rw [List.take_of_length_le (by omega), List.take_of_length_le (by omega)] at hpre
          simpa using hpre
        have HR := hide hr
        have hkn : k = n := by omega
        subst hkn
        clear hr hpre
        go_wp2
        go_ret
        exact ⟨ret_bool HR.out.symm, q, rfl⟩
  · have hr : sameB xs ys = false := by
      unfold sameB
      simp only [decide_eq_false_iff_not]
      rintro rfl
      omega
    rw [hr]
    have h1 : ((n : Int) != (m : Int)) = true := by simp; omega
    clear hr
    go_enter Try.func31, Try.ntmps31
    go_wp2
    go_ret
    exact ⟨rfl, 0, rfl⟩
end Go.Proofs.Ytpfhljcihfabbaa
