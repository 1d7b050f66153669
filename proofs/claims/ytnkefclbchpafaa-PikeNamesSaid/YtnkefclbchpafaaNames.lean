/-
  The walk of heronlaw11.PikeNames.
-/
import Derived.Test.YtnkefclbchpafaaAwake
namespace Go.Proofs.Ytnkefclbchpafaa
open Go.RowKit
set_option linter.unusedVariables false

theorem num_any (w : World) (i : Int) : Calls Try.prog 9 #[.int .i64 i] w fun e w' => e = .returned (.int .i64 i) ∧ w = w' := by
  go_enter Try.func9, Try.ntmps9
  go_wp2
  go_ret
  exact ⟨rfl, rfl⟩
theorem pikeNames_any (w : World) : Calls Try.prog 3 #[] w fun e w' => e = .returned (.bool true) ∧ Upd Nob w w' := by
  go_enter Try.func3, Try.ntmps3
  go_wp2_with (first | (go_at_call 8; refine (awake_any w).mono ?_; rintro e w1 ⟨rfl, hU1⟩) | (go_at_call 9; refine (num_any _ _).mono ?_; rintro e w2 ⟨rfl, rfl⟩))
  go_ret
  exact ⟨rfl, hU1⟩
end Go.Proofs.Ytnkefclbchpafaa
