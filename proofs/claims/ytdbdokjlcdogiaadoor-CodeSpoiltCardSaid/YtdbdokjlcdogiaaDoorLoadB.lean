/-
  code.Load's first ways out: too short, another head, another sum.
-/
import Derived.Test.YtdbdokjlcdogiaaDoorLoadA
import Derived.Deep.RegionHeld3
namespace Go.Proofs.YtdbdokjlcdogiaaDoor
open Go.RowKit
set_option linter.unusedVariables false

set_option maxRecDepth 100000 in
set_option maxHeartbeats 4000000 in
theorem load_short (w : World) (S : Nat → Prop) (A : Option Addr) (n c : Nat) (bs : List Int) (h : Reads w S 1 A n (bytv bs)) (h8 : ∀ x ∈ bs, 0 ≤ x ∧ x ≤ 255) (hS : ∀ b, S b → b < w.heap.size) (hn : n ≤ 8388608) (hc : n ≤ c) (hs : n < 8) : Calls Tryd.prog 15 #[.slice A n c] w (LoadAns w none 101) := by
  have hl : ¬ (8388608 : Int) < (n : Int) := by omega
  have g8 : ¬ (8 : Int) ≤ (n : Int) := by omega
  have hmf : ∀ (fn : Fn) (first cap : Array Value) (w : World), (Instr.makeFunc fn first cap).run Tryd.prog w = .ok (.func fn first cap) w := fun _ _ _ _ => rfl
  have C0 : Cells ((w.alloc (.cells #[.slice none 0 0, .int .i64 0, .int .i64 0] 24)).alloc (.cells #[.int .i64 0] 31)) w.heap.size 24 #[.slice none 0 0, .int .i64 0, .int .i64 0] := (Cells.new _ _ _).alloc _
  have C1 := Cells.new (w.alloc (.cells #[.slice none 0 0, .int .i64 0, .int .i64 0] 24)) 31 #[.int .i64 0]
  rw [World.size_alloc] at C1
  have hU : Upd Nob w ((w.alloc (.cells #[.slice none 0 0, .int .i64 0, .int .i64 0] 24)).alloc (.cells #[.int .i64 0] 31)) := ((Upd.refl Nob w).alloc _).alloc _
  have HR := hideP (h.upd hU (fun _ _ => not_nob))
  clear h
  go_enter_defers Tryd.func15, Tryd.ntmps15
  go_upto_region 4 with fail
  generalize ((w.alloc (.cells #[.slice none 0 0, .int .i64 0, .int .i64 0] 24)).alloc (.cells #[.int .i64 0] 31)) = w2 at *
  have HC0 := hideP C0
  have HC1 := hideP C1
  have HU := hideP hU
  clear C0 C1 hU
  go_wp2_with (go_at_call 31; refine (need_not _ _ (by first | rfl | exact decide_eq_false (by omega))).mono ?_; rintro e w3 ⟨rfl, hw3⟩; subst hw3)
  exact (load_no _ _ _ _ _ _ _ _ _ ⟨rfl, rfl, rfl⟩ HC0.out HC1.out (by omega) (fun w' hv => ⟨rfl, HU.out.trans hv (fun b hb h => by rcases h with h | h <;> omega)⟩))
set_option maxRecDepth 100000 in
set_option maxHeartbeats 4000000 in
theorem load_head (w : World) (S : Nat → Prop) (ad : Addr) (n c : Nat) (bs : List Int) (h : Reads w S 1 (some ad) n (bytv bs)) (h8 : ∀ x ∈ bs, 0 ≤ x ∧ x ≤ 255) (hS : ∀ b, S b → b < w.heap.size) (hn : n ≤ 8388608) (hc : n ≤ c) (hs : 8 ≤ n) (hh : ¬ bs.take 4 = [72, 82, 80, 71]) : Calls Tryd.prog 15 #[.slice (some ad) n c] w (LoadAns w none 101) := by
  have hl : ¬ (8388608 : Int) < (n : Int) := by omega
  have g8 : (8 : Int) ≤ (n : Int) := by omega
  have hce : (4 : Int) ≤ (c : Int) := by omega
  have hmf : ∀ (fn : Fn) (first cap : Array Value) (w : World), (Instr.makeFunc fn first cap).run Tryd.prog w = .ok (.func fn first cap) w := fun _ _ _ _ => rfl
  have C0 : Cells ((w.alloc (.cells #[.slice none 0 0, .int .i64 0, .int .i64 0] 24)).alloc (.cells #[.int .i64 0] 31)) w.heap.size 24 #[.slice none 0 0, .int .i64 0, .int .i64 0] := (Cells.new _ _ _).alloc _
  have C1 := Cells.new (w.alloc (.cells #[.slice none 0 0, .int .i64 0, .int .i64 0] 24)) 31 #[.int .i64 0]
  rw [World.size_alloc] at C1
  have hU : Upd Nob w ((w.alloc (.cells #[.slice none 0 0, .int .i64 0, .int .i64 0] 24)).alloc (.cells #[.int .i64 0] 31)) := ((Upd.refl Nob w).alloc _).alloc _
  have HR := hideP (h.upd hU (fun _ _ => not_nob))
  clear h
  go_enter_defers Tryd.func15, Tryd.ntmps15
  go_upto_region 4 with fail
  generalize ((w.alloc (.cells #[.slice none 0 0, .int .i64 0, .int .i64 0] 24)).alloc (.cells #[.int .i64 0] 31)) = w2 at *
  have HC0 := hideP C0
  have HC1 := hideP C1
  have HU := hideP hU
  clear C0 C1 hU
  have hcv := head_conv (c := c) HR.out h8 (by omega)
  go_wp2_with (go_at_call 31; refine (need_not _ _ (by simp [head_eq' bs h8, hh])).mono ?_; rintro e w3 ⟨rfl, hw3⟩; subst hw3)
  exact (load_no _ _ _ _ _ _ _ _ _ ⟨rfl, rfl, rfl⟩ HC0.out HC1.out (by omega) (fun w' hv => ⟨rfl, HU.out.trans hv (fun b hb h => by rcases h with h | h <;> omega)⟩))
end Go.Proofs.YtdbdokjlcdogiaaDoor
