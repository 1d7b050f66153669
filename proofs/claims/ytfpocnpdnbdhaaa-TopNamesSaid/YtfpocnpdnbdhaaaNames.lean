/-
  herontop.TopNames: the walk: numbers alone.
-/
import Derived.Test.YtfpocnpdnbdhaaaMem
import Derived.Test.YtfpocnpdnbdhaaaRows
import Derived.WalkKit
namespace Go.Proofs.Ytfpocnpdnbdhaaa
open Go.RowKit
set_option linter.unusedVariables false

theorem errors_any (w : World) : Calls Try.prog 4 #[] w fun e w' => e = .returned (.bool true) ∧ Upd Nob w w' := by
  go_enter Try.func4, Try.ntmps4
  go_wp2
  go_ret
  exact ⟨rfl, Upd.refl _ _⟩
theorem limits_any (w : World) : Calls Try.prog 5 #[] w fun e w' => e = .returned (.bool true) ∧ Upd Nob w w' := by
  go_enter Try.func5, Try.ntmps5
  go_wp2
  go_ret
  exact ⟨rfl, Upd.refl _ _⟩
theorem kinds_any (w : World) : Calls Try.prog 6 #[] w fun e w' => e = .returned (.bool true) ∧ Upd Nob w w' := by
  go_enter Try.func6, Try.ntmps6
  go_wp2
  go_ret
  exact ⟨rfl, Upd.refl _ _⟩
theorem topNames_any (w : World) : Calls Try.prog 3 #[] w fun e w' => e = .returned (.bool true) ∧ Upd Nob w w' := by
  go_enter Try.func3, Try.ntmps3
  go_wp2_with fail
  refine (errors_any w).mono ?_
  rintro e w1 ⟨rfl, hU1⟩
  go_wp2_with fail
  refine (limits_any w1).mono ?_
  rintro e w2 ⟨rfl, hU2⟩
  go_wp2_with fail
  refine (kinds_any w2).mono ?_
  rintro e w3 ⟨rfl, hU3⟩
  go_wp2_with fail
  go_ret
  exact ⟨rfl, (hU1.trans hU2 (fun _ _ h => h)).trans hU3 (fun _ _ h => h)⟩
end Go.Proofs.Ytfpocnpdnbdhaaa
