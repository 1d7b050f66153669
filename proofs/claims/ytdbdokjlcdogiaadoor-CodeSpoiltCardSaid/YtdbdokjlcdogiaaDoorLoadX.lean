/-
  The walk of code.Load, whatever the bytes.
-/
import Derived.Test.YtdbdokjlcdogiaaDoorLoadG
import Derived.Test.YtdbdokjlcdogiaaDoorLoadB
namespace Go.Proofs.YtdbdokjlcdogiaaDoor
open Go.RowKit
set_option linter.unusedVariables false

/-- P10.3: the program, and the error where there is none -/
def loadX (bs : List Int) : Option (List PInst × Int × Int) := if 8388608 < bs.length then none else loadB bs
def loadC (bs : List Int) : Int := if 8388608 < bs.length then 2 else 101
set_option maxRecDepth 100000 in
set_option maxHeartbeats 1000000 in
theorem load_over (w : World) (A : Option Addr) (n c : Nat) (hn : 8388608 < n) : Calls Tryd.prog 15 #[.slice A n c] w (LoadAns w none 2) := by
  have hl : (8388608 : Int) < (n : Int) := by omega
  have C0 : Cells ((w.alloc (.cells #[.slice none 0 0, .int .i64 0, .int .i64 0] 24)).alloc (.cells #[.int .i64 0] 31)) w.heap.size 24 #[.slice none 0 0, .int .i64 0, .int .i64 0] := (Cells.new _ _ _).alloc _
  have C1 := Cells.new (w.alloc (.cells #[.slice none 0 0, .int .i64 0, .int .i64 0] 24)) 31 #[.int .i64 0]
  rw [World.size_alloc] at C1
  have c0 := C0.cellv (i := 0) rfl
  have c1 := C0.cellv (i := 1) rfl
  have c2 := C0.cellv (i := 2) rfl
  have d0 := C1.cellv (i := 0) rfl
  have f0 := C0.frozen 0
  have f1 := C0.frozen 1
  have f2 := C0.frozen 2
  have g0 := C1.frozen 0
  have hU : Upd Nob w ((w.alloc (.cells #[.slice none 0 0, .int .i64 0, .int .i64 0] 24)).alloc (.cells #[.int .i64 0] 31)) := ((Upd.refl Nob w).alloc _).alloc _
  go_enter_defers Tryd.func15, Tryd.ntmps15
  go_wp2_with fail
  have D0 : Cells ((w.alloc (.cells #[.slice none 0 0, .int .i64 0, .int .i64 0] 24)).alloc (.cells #[.int .i64 2] 31)) w.heap.size 24 #[.slice none 0 0, .int .i64 0, .int .i64 0] := (Cells.new _ _ _).alloc _
  have D1 := Cells.new (w.alloc (.cells #[.slice none 0 0, .int .i64 0, .int .i64 0] 24)) 31 #[.int .i64 2]
  rw [World.size_alloc] at D1
  have hV : Upd Nob w ((w.alloc (.cells #[.slice none 0 0, .int .i64 0, .int .i64 0] 24)).alloc (.cells #[.int .i64 2] 31)) := ((Upd.refl Nob w).alloc _).alloc _
  generalize (w.alloc (.cells #[.slice none 0 0, .int .i64 0, .int .i64 0] 24)).alloc (.cells #[.int .i64 2] 31) = w2 at *
  have e0 := D0.cellv (i := 0) rfl
  have e1 := D0.cellv (i := 1) rfl
  have e2 := D0.cellv (i := 2) rfl
  have e3 := D1.cellv (i := 0) rfl
  exact ⟨_, by simp [results, Tryd.results15, go_sem, e0, e1, e2, e3], rfl, hV⟩
theorem load_any (w : World) (S : Nat → Prop) (A : Option Addr) (n c : Nat) (bs : List Int) (h : Reads w S 1 A n (bytv bs)) (h8 : ∀ x ∈ bs, 0 ≤ x ∧ x ≤ 255) (hS : ∀ b, S b → b < w.heap.size) (hc : n ≤ c) :
    Calls Tryd.prog 15 #[.slice A n c] w (LoadAns w (loadX bs) (loadC bs)) := by
  have hl : bs.length = n := by have := h.1; simpa [bytv] using this
  unfold loadX loadC
  by_cases hn : 8388608 < n
  · rw [if_pos (by omega), if_pos (by omega)]
    exact load_over w A n c hn
  rw [if_neg (by omega), if_neg (by omega)]
  have hn : n ≤ 8388608 := by omega
  by_cases h0 : n < 8
  · have e : loadB bs = none := by unfold loadB; rw [if_neg (by omega)]
    rw [e]
    exact load_short w S A n c bs h h8 hS hn hc h0
  obtain ⟨ad, rfl, -⟩ := h.2 (by omega)
  by_cases hh : ¬ bs.take 4 = [72, 82, 80, 71]
  · have e : loadB bs = none := by unfold loadB; rw [if_neg (fun k => hh k.2.1)]
    rw [e]
    exact load_head w S ad n c bs h h8 hS hn hc (by omega) hh
  have hh := Classical.not_not.1 hh
  have hm : n = (n - 4) + 4 := by omega
  have e4 : bs.length - 4 = n - 4 := by omega
  by_cases hs : ¬ sumV (bs.take (n - 4)) = four (bs.drop (n - 4))
  · have e : loadB bs = none := by unfold loadB; rw [if_neg (fun k => hs (by rw [← e4]; exact k.2.2))]
    rw [e]
    exact load_sum w S ad n (n - 4) c bs h h8 hS hn hc hm (by omega) hh hs
  have hs := Classical.not_not.1 hs
  have e : loadB bs = bodyB ((bs.take (n - 4)).drop 4) := by unfold loadB; rw [e4, if_pos ⟨by omega, hh, hs⟩]
  rw [e]
  exact load_good w S ad n (n - 4) c bs h h8 hS hn hc hm (by omega) hh hs
end Go.Proofs.YtdbdokjlcdogiaaDoor
