/-
  The walks of code.given, and of the deferred closures of code.Load and code.Read.
-/
import Derived.Test.YtdbdokjlcdogiaaDoorNeed
import Derived.Defers
import Derived.Recover
namespace Go.Proofs.YtdbdokjlcdogiaaDoor
open Go.RowKit
set_option linter.unusedVariables false

theorem given_nil (w : World) : Calls Tryd.prog 30 #[Value.nilIface] w fun e w' => e = .returned (.bool false) ∧ w' = w := by
  go_enter Tryd.func30, Tryd.ntmps30
  go_wp2_with fail
  go_ret
  exact ⟨rfl, rfl⟩
theorem given_assert (w : World) : (Instr.typeAssert (.iface 86 (.agg #[])) 20 86 true).run Tryd.prog w = .ok (.tuple #[.agg #[], .bool true]) w := by kernel_rfl
set_option maxRecDepth 100000 in
theorem given_broken (w : World) : Calls Tryd.prog 30 #[.iface 86 (.agg #[])] w fun e w' => e = .returned (.bool true) ∧ Upd Nob w w' := by
  have hta := given_assert
  go_enter Tryd.func30, Tryd.ntmps30
  go_wp2_with fail
  go_ret
  exact ⟨rfl, (Upd.refl Nob w).alloc _⟩
/-- the panic, caught -/
def caughtP : List PanicEntry := [{ v := .iface 86 (.agg #[]), recovered := true }]
/-- what the closure lays where something was no program's -/
def laidW (w : World) (pb eb : Nat) (code : Int) : World := (((w.setCell ⟨pb, 0, none⟩ (.slice none 0 0)).setCell ⟨pb, 1, none⟩ (.int .i64 0)).setCell ⟨pb, 2, none⟩ (.int .i64 0)).setCell ⟨eb, 0, none⟩ (.int .i64 code)
set_option maxRecDepth 100000 in
theorem load_catch (pb eb : Nat) (v0 v1 v2 v3 : Value) (w : World) (hp : Cells w pb 24 #[v0, v1, v2]) (he : Cells w eb 31 #[v3]) (hne : pb ≠ eb) :
    CallsD Tryd.prog 29 #[.pointer (some ⟨pb, 0, none⟩), .pointer (some ⟨eb, 0, none⟩)] (.panicking brokenP) w fun e u' w' =>
      e = .returned (.tuple #[]) ∧ u' = .panicking caughtP ∧ ∃ w1, Upd Nob w w1 ∧ w' = laidW w1 pb eb 101 := by
  unfold brokenP
  refine callsD_of_wpS Tryd.func29 rfl fun c₀ cs hu => ?_
  apply wpS_seq
  apply wpS_region
  simp [wpOpsS, go_sem, recoverD, hu, Tryd.ntmps29, Exit.thenS]
  refine (given_broken w).mono ?_
  rintro e w1 ⟨rfl, hU⟩
  simp only
  have hp1 := hp.upd hU not_nob
  have he1 := he.upd hU not_nob
  have c0 := hp1.cellv (i := 0) rfl
  have c1 := hp1.cellv (i := 1) rfl
  have c2 := hp1.cellv (i := 2) rfl
  have c3 := he1.cellv (i := 0) rfl
  have f0 := hp1.frozen 0
  have f1 := hp1.frozen 1
  have f2 := hp1.frozen 2
  have f3 := he1.frozen 0
  refine wpS_cond (t := true) (by simp [Act.eval, Array.replicate]) ?_
  simp only [if_true]
  apply wpS_region
  simp [wpOpsS, go_sem, c0, c1, c2, c3, f0, f1, f2, f3, bodyPostS, results, Tryd.results29]
  exact ⟨rfl, w1, hU, rfl⟩
theorem load_idle (pb eb : Nat) (w : World) :
    CallsD Tryd.prog 29 #[.pointer (some ⟨pb, 0, none⟩), .pointer (some ⟨eb, 0, none⟩)] .returning w fun e u' w' =>
      e = .returned (.tuple #[]) ∧ u' = .returning ∧ w' = w := by
  refine callsD_of_wpS Tryd.func29 rfl fun c₀ cs hu => ?_
  apply wpS_seq
  apply wpS_region
  simp [wpOpsS, go_sem, recoverD, hu, Tryd.ntmps29, Exit.thenS]
  refine (given_nil w).mono ?_
  rintro e w1 ⟨rfl, rfl⟩
  simp only
  refine wpS_cond (t := false) (by simp [Act.eval, Array.replicate]) ?_
  simp only [Bool.false_eq_true, if_false]
  refine wpS_of_wp (wp_skip ?_)
  cases c₀
  simp_all [bodyPostS, results, Tryd.results29]
end Go.Proofs.YtdbdokjlcdogiaaDoor
