/-
  The walk of code.need.
-/
import Derived.Test.YtdbdokjlcdogiaaDoorMem
import Derived.Test.YtdbdokjlcdogiaaDoorProg
import Derived.WalkLawsBesides
namespace Go.Proofs.YtdbdokjlcdogiaaDoor
open Go.RowKit
set_option linter.unusedVariables false

/-- the panic that need ends in -/
def brokenP : List PanicEntry := [{ v := .iface 86 (.agg #[]), recovered := false }]
theorem need_yes (w : World) : Calls Tryd.prog 31 #[.bool true] w fun e w' => e = .returned (.tuple #[]) ∧ w' = w := by
  go_enter Tryd.func31, Tryd.ntmps31
  go_wp2_with fail
  go_end0
  exact ⟨rfl, rfl⟩
theorem need_no (w : World) : Calls Tryd.prog 31 #[.bool false] w fun e w' => e = .panicked brokenP ∧ w' = w := by
  go_enter Tryd.func31, Tryd.ntmps31
  go_wp2_with fail
  exact ⟨rfl, rfl, rfl⟩
theorem need_is (w : World) (b : Bool) (h : b = true) : Calls Tryd.prog 31 #[.bool b] w fun e w' => e = .returned (.tuple #[]) ∧ w' = w := by subst h; exact need_yes w
theorem need_not (w : World) (b : Bool) (h : b = false) : Calls Tryd.prog 31 #[.bool b] w fun e w' => e = .panicked brokenP ∧ w' = w := by subst h; exact need_no w
end Go.Proofs.YtdbdokjlcdogiaaDoor
