/-
  RefI, RefJ, put together.
-/
import Derived.Test.YtdbdokjlcdogiaaDoorZ11RefI8

/-
  The walk of heronref10.inst. Printed by tools/mkRefI2.py.
-/
namespace Go.Proofs.YtdbdokjlcdogiaaDoor
open Go.RowKit
set_option linter.unusedVariables false

def RefIAns (w : World) (x : PInst) (e : Ending) (w' : World) : Prop :=
  ∃ B c, e = .returned (.agg #[.int .i64 x.op, .int .i64 x.x, .int .i64 x.y, .int .i64 x.arg, .slice B x.rs.length c]) ∧ w'.ownsRow w.heap.size 50 2 (.slice B x.rs.length c) x.rs.length (pairv x.rs) ∧ Upd Nob w w'
/-- the first numbers of a list, in memory -/
theorem ints_two {w : World} {S : Nat → Prop} {LA : Option Addr} {ln : Nat} {a b : Int} {r : List Int} (h : Reads w S 1 LA ln (intv (a :: b :: r))) : ∃ la, LA = some la ∧ S la.block ∧ la.block < w.heap.size ∧ w.cell? la = some (.int .i64 a) ∧ w.cell? ⟨la.block, la.off + 1, none⟩ = some (.int .i64 b) := by
  have hl := h.1
  simp [intv] at hl
  obtain ⟨la, rfl, hb, hs, hc⟩ := h.2 (by omega)
  have c0 := hc 0 (.int .i64 a) (by simp [intv])
  have c1 := hc 1 (.int .i64 b) (by simp [intv])
  rw [show la.add 0 = la by simp [Addr.add]] at c0
  rw [show la.add 1 = ⟨la.block, la.off + 1, none⟩ by simp [Addr.add]] at c1
  exact ⟨la, rfl, hs, hb, c0, c1⟩
theorem ints_one {w : World} {S : Nat → Prop} {LA : Option Addr} {ln : Nat} {a : Int} {r : List Int} (h : Reads w S 1 LA ln (intv (a :: r))) : ∃ la, LA = some la ∧ S la.block ∧ la.block < w.heap.size ∧ w.cell? la = some (.int .i64 a) := by
  have hl := h.1
  simp [intv] at hl
  obtain ⟨la, rfl, hb, hs, hc⟩ := h.2 (by omega)
  have c0 := hc 0 (.int .i64 a) (by simp [intv])
  rw [show la.add 0 = la by simp [Addr.add]] at c0
  exact ⟨la, rfl, hs, hb, c0⟩
/-- the result's block, stored whole -/
def five (w : World) (b : Nat) (v0 v1 v2 v3 v4 : Value) : World := ((((w.setCell ⟨b, 0, none⟩ v0).setCell ⟨b, 1, none⟩ v1).setCell ⟨b, 2, none⟩ v2).setCell ⟨b, 3, none⟩ v3).setCell ⟨b, 4, none⟩ v4
theorem five_cells {w : World} {b : Nat} {u0 u1 u2 u3 u4 : Value} (h : Cells w b 48 #[u0, u1, u2, u3, u4]) (v0 v1 v2 v3 v4 : Value) : Cells (five w b v0 v1 v2 v3 v4) b 48 #[v0, v1, v2, v3, v4] :=
  ((((h.set_ 0 v0).set_ 1 v1).set_ 2 v2).set_ 3 v3).set_ 4 v4
theorem five_upd {w0 w : World} {b : Nat} (hU : Upd Nob w0 w) (hb : ¬ b < w0.heap.size) (v0 v1 v2 v3 v4 : Value) : Upd Nob w0 (five w b v0 v1 v2 v3 v4) :=
  ((((hU.setCell ⟨b, 0, none⟩ v0 (fun h => absurd h hb)).setCell ⟨b, 1, none⟩ v1 (fun h => absurd h hb)).setCell ⟨b, 2, none⟩ v2 (fun h => absurd h hb)).setCell ⟨b, 3, none⟩ v3 (fun h => absurd h hb)).setCell ⟨b, 4, none⟩ v4 (fun h => absurd h hb)
theorem five_own {w : World} {b base e n : Nat} {v : Value} {size : Nat} {xs : List Value} (h : w.ownsRow base e size v n xs) (hb : v.ownBlock ≠ some b) (v0 v1 v2 v3 v4 : Value) : (five w b v0 v1 v2 v3 v4).ownsRow base e size v n xs :=
  own_far (own_far (own_far (own_far (own_far h _ _ hb) _ _ hb) _ _ hb) _ _ hb) _ _ hb
theorem refi_end (P : Ending → World → Prop) (w : World) (a : Act) (b : Nat) (v0 v1 v2 v3 v4 : Value) (hd : a.defers = []) (ht : a.tmps[4]? = some (.pointer (some ⟨b, 0, none⟩))) (hC : Cells w b 48 #[v0, v1, v2, v3, v4]) (hP : P (.returned (.agg #[v0, v1, v2, v3, v4])) w) :
    bodyPost Tryd.prog Tryd.f55 P .ret a w := by
  have c0 := hC.cellv (i := 0) rfl
  have c1 := hC.cellv (i := 1) rfl
  have c2 := hC.cellv (i := 2) rfl
  have c3 := hC.cellv (i := 3) rfl
  have c4 := hC.cellv (i := 4) rfl
  exact ⟨hd, _, by simp [results, Tryd.results55, go_sem, ht, c0, c1, c2, c3, c4], hP⟩
set_option maxRecDepth 100000 in
set_option maxHeartbeats 4000000 in
theorem refi_2 (w : World) (S : Nat → Prop) (LA : Option Addr) (ln lc : Nat) (a b : Int) (r : List Int) (h : Reads w S 1 LA ln (intv (a :: b :: r))) (hS : ∀ b, S b → b < w.heap.size) :
    Calls Tryd.prog 55 #[.int .i64 2, .slice LA ln lc] w (RefIAns w ⟨2, a, b, 0, []⟩) := by
    have hln : 2 ≤ ln := by have := h.1; simp [intv] at this; omega
    have HRD := hideP h
    clear h
    have C0 : Cells ((w.alloc (.cells #[.int .i64 0, .int .i64 0, .int .i64 0, .int .i64 0, .slice none 0 0] 48)).alloc (.cells #[.int .i64 2, .int .i64 0, .int .i64 0, .int .i64 0, .slice none 0 0] 48)) w.heap.size 48 #[.int .i64 0, .int .i64 0, .int .i64 0, .int .i64 0, .slice none 0 0] := (Cells.new _ _ _).alloc _
    have C1 := Cells.new (w.alloc (.cells #[.int .i64 0, .int .i64 0, .int .i64 0, .int .i64 0, .slice none 0 0] 48)) 48 #[.int .i64 2, .int .i64 0, .int .i64 0, .int .i64 0, .slice none 0 0]
    rw [World.size_alloc] at C1
    have hU : Upd Nob w ((w.alloc (.cells #[.int .i64 0, .int .i64 0, .int .i64 0, .int .i64 0, .slice none 0 0] 48)).alloc (.cells #[.int .i64 2, .int .i64 0, .int .i64 0, .int .i64 0, .slice none 0 0] 48)) := ((Upd.refl Nob w).alloc _).alloc _
    go_enter Tryd.func55, Tryd.ntmps55
    go_upto_region 2 with fail
    generalize ((w.alloc (.cells #[.int .i64 0, .int .i64 0, .int .i64 0, .int .i64 0, .slice none 0 0] 48)).alloc (.cells #[.int .i64 2, .int .i64 0, .int .i64 0, .int .i64 0, .slice none 0 0] 48)) = w2 at *
    have HC0 := hideP C0
    have HC1 := hideP C1
    have HU := hideP hU
    have hw2 := C1.lt
    obtain ⟨la, rfl, hs, hb, ca, cb⟩ := ints_two (HRD.out.upd hU (fun _ _ => not_nob))
    have g1 : (1 : Int) < (ln : Int) := by omega
    have g0 : (0 : Int) < (ln : Int) := by omega
    have hlb := hS _ hs
    have hn1 : la.block ≠ w.heap.size + 1 := by omega
    have hn0 : la.block ≠ w.heap.size := by omega
    have hn2 : ¬ w.heap.size + 1 = la.block := by omega
    clear hS hs
    have c0 := C1.cellv (i := 0) rfl
    have c1 := C1.cellv (i := 0 + 1) rfl
    have c2 := C1.cellv (i := 0 + 2) rfl
    have c3 := C1.cellv (i := 0 + 3) rfl
    have c4 := C1.cellv (i := 0 + 4) rfl
    have d0 := C0.cellv (i := 0) rfl
    have d1 := C0.cellv (i := 0 + 1) rfl
    have d2 := C0.cellv (i := 0 + 2) rfl
    have d3 := C0.cellv (i := 0 + 3) rfl
    have d4 := C0.cellv (i := 0 + 4) rfl
    have e0 := C1.frozen 0
    have e1 := C1.frozen (0 + 1)
    have e2 := C1.frozen (0 + 2)
    have e3 := C1.frozen (0 + 3)
    have e4 := C1.frozen (0 + 4)
    have f0 := C0.frozen 0
    have f1 := C0.frozen (0 + 1)
    have f2 := C0.frozen (0 + 2)
    have f3 := C0.frozen (0 + 3)
    have f4 := C0.frozen (0 + 4)
    clear C0 C1 hU
    go_wp2_with fail
    exact refi_end _ _ _ _ _ _ _ _ _ rfl rfl (five_cells ((((HC0.out).far ⟨w.heap.size + 1, 1, none⟩ (.int .i64 a) (by simp))).far ⟨w.heap.size + 1, 2, none⟩ (.int .i64 b) (by simp)) _ _ _ _ _) ⟨none, 0, rfl, World.ownsRow_nil _ _ _ _, five_upd ((((HU.out).setCell ⟨w.heap.size + 1, 1, none⟩ (.int .i64 a) (fun h => absurd h (by show ¬ w.heap.size + 1 < _; omega)))).setCell ⟨w.heap.size + 1, 2, none⟩ (.int .i64 b) (fun h => absurd h (by show ¬ w.heap.size + 1 < _; omega))) (Nat.lt_irrefl _) _ _ _ _ _⟩
set_option maxRecDepth 100000 in
set_option maxHeartbeats 4000000 in
theorem refi_3 (w : World) (S : Nat → Prop) (LA : Option Addr) (ln lc : Nat) (a b : Int) (r : List Int) (h : Reads w S 1 LA ln (intv (a :: b :: r))) (hS : ∀ b, S b → b < w.heap.size) :
    Calls Tryd.prog 55 #[.int .i64 3, .slice LA ln lc] w (RefIAns w ⟨3, b, 0, a, []⟩) := by
    have hln : 2 ≤ ln := by have := h.1; simp [intv] at this; omega
    have HRD := hideP h
    clear h
    have C0 : Cells ((w.alloc (.cells #[.int .i64 0, .int .i64 0, .int .i64 0, .int .i64 0, .slice none 0 0] 48)).alloc (.cells #[.int .i64 3, .int .i64 0, .int .i64 0, .int .i64 0, .slice none 0 0] 48)) w.heap.size 48 #[.int .i64 0, .int .i64 0, .int .i64 0, .int .i64 0, .slice none 0 0] := (Cells.new _ _ _).alloc _
    have C1 := Cells.new (w.alloc (.cells #[.int .i64 0, .int .i64 0, .int .i64 0, .int .i64 0, .slice none 0 0] 48)) 48 #[.int .i64 3, .int .i64 0, .int .i64 0, .int .i64 0, .slice none 0 0]
    rw [World.size_alloc] at C1
    have hU : Upd Nob w ((w.alloc (.cells #[.int .i64 0, .int .i64 0, .int .i64 0, .int .i64 0, .slice none 0 0] 48)).alloc (.cells #[.int .i64 3, .int .i64 0, .int .i64 0, .int .i64 0, .slice none 0 0] 48)) := ((Upd.refl Nob w).alloc _).alloc _
    go_enter Tryd.func55, Tryd.ntmps55
    go_upto_region 2 with fail
    generalize ((w.alloc (.cells #[.int .i64 0, .int .i64 0, .int .i64 0, .int .i64 0, .slice none 0 0] 48)).alloc (.cells #[.int .i64 3, .int .i64 0, .int .i64 0, .int .i64 0, .slice none 0 0] 48)) = w2 at *
    have HC0 := hideP C0
    have HC1 := hideP C1
    have HU := hideP hU
    have hw2 := C1.lt
    obtain ⟨la, rfl, hs, hb, ca, cb⟩ := ints_two (HRD.out.upd hU (fun _ _ => not_nob))
    have g1 : (1 : Int) < (ln : Int) := by omega
    have g0 : (0 : Int) < (ln : Int) := by omega
    have hlb := hS _ hs
    have hn1 : la.block ≠ w.heap.size + 1 := by omega
    have hn0 : la.block ≠ w.heap.size := by omega
    have hn2 : ¬ w.heap.size + 1 = la.block := by omega
    clear hS hs
    have c0 := C1.cellv (i := 0) rfl
    have c1 := C1.cellv (i := 0 + 1) rfl
    have c2 := C1.cellv (i := 0 + 2) rfl
    have c3 := C1.cellv (i := 0 + 3) rfl
    have c4 := C1.cellv (i := 0 + 4) rfl
    have d0 := C0.cellv (i := 0) rfl
    have d1 := C0.cellv (i := 0 + 1) rfl
    have d2 := C0.cellv (i := 0 + 2) rfl
    have d3 := C0.cellv (i := 0 + 3) rfl
    have d4 := C0.cellv (i := 0 + 4) rfl
    have e0 := C1.frozen 0
    have e1 := C1.frozen (0 + 1)
    have e2 := C1.frozen (0 + 2)
    have e3 := C1.frozen (0 + 3)
    have e4 := C1.frozen (0 + 4)
    have f0 := C0.frozen 0
    have f1 := C0.frozen (0 + 1)
    have f2 := C0.frozen (0 + 2)
    have f3 := C0.frozen (0 + 3)
    have f4 := C0.frozen (0 + 4)
    clear C0 C1 hU
    go_wp2_with fail
    exact refi_end _ _ _ _ _ _ _ _ _ rfl rfl (five_cells ((((HC0.out).far ⟨w.heap.size + 1, 3, none⟩ (.int .i64 a) (by simp))).far ⟨w.heap.size + 1, 1, none⟩ (.int .i64 b) (by simp)) _ _ _ _ _) ⟨none, 0, rfl, World.ownsRow_nil _ _ _ _, five_upd ((((HU.out).setCell ⟨w.heap.size + 1, 3, none⟩ (.int .i64 a) (fun h => absurd h (by show ¬ w.heap.size + 1 < _; omega)))).setCell ⟨w.heap.size + 1, 1, none⟩ (.int .i64 b) (fun h => absurd h (by show ¬ w.heap.size + 1 < _; omega))) (Nat.lt_irrefl _) _ _ _ _ _⟩
set_option maxRecDepth 100000 in
set_option maxHeartbeats 4000000 in
theorem refi_4 (w : World) (S : Nat → Prop) (LA : Option Addr) (ln lc : Nat) (a b : Int) (r : List Int) (h : Reads w S 1 LA ln (intv (a :: b :: r))) (hS : ∀ b, S b → b < w.heap.size) :
    Calls Tryd.prog 55 #[.int .i64 4, .slice LA ln lc] w (RefIAns w ⟨4, b, 0, a, []⟩) := by
    have hln : 2 ≤ ln := by have := h.1; simp [intv] at this; omega
    have HRD := hideP h
    clear h
    have C0 : Cells ((w.alloc (.cells #[.int .i64 0, .int .i64 0, .int .i64 0, .int .i64 0, .slice none 0 0] 48)).alloc (.cells #[.int .i64 4, .int .i64 0, .int .i64 0, .int .i64 0, .slice none 0 0] 48)) w.heap.size 48 #[.int .i64 0, .int .i64 0, .int .i64 0, .int .i64 0, .slice none 0 0] := (Cells.new _ _ _).alloc _
    have C1 := Cells.new (w.alloc (.cells #[.int .i64 0, .int .i64 0, .int .i64 0, .int .i64 0, .slice none 0 0] 48)) 48 #[.int .i64 4, .int .i64 0, .int .i64 0, .int .i64 0, .slice none 0 0]
    rw [World.size_alloc] at C1
    have hU : Upd Nob w ((w.alloc (.cells #[.int .i64 0, .int .i64 0, .int .i64 0, .int .i64 0, .slice none 0 0] 48)).alloc (.cells #[.int .i64 4, .int .i64 0, .int .i64 0, .int .i64 0, .slice none 0 0] 48)) := ((Upd.refl Nob w).alloc _).alloc _
    go_enter Tryd.func55, Tryd.ntmps55
    go_upto_region 2 with fail
    generalize ((w.alloc (.cells #[.int .i64 0, .int .i64 0, .int .i64 0, .int .i64 0, .slice none 0 0] 48)).alloc (.cells #[.int .i64 4, .int .i64 0, .int .i64 0, .int .i64 0, .slice none 0 0] 48)) = w2 at *
    have HC0 := hideP C0
    have HC1 := hideP C1
    have HU := hideP hU
    have hw2 := C1.lt
    obtain ⟨la, rfl, hs, hb, ca, cb⟩ := ints_two (HRD.out.upd hU (fun _ _ => not_nob))
    have g1 : (1 : Int) < (ln : Int) := by omega
    have g0 : (0 : Int) < (ln : Int) := by omega
    have hlb := hS _ hs
    have hn1 : la.block ≠ w.heap.size + 1 := by omega
    have hn0 : la.block ≠ w.heap.size := by omega
    have hn2 : ¬ w.heap.size + 1 = la.block := by omega
    clear hS hs
    have c0 := C1.cellv (i := 0) rfl
    have c1 := C1.cellv (i := 0 + 1) rfl
    have c2 := C1.cellv (i := 0 + 2) rfl
    have c3 := C1.cellv (i := 0 + 3) rfl
    have c4 := C1.cellv (i := 0 + 4) rfl
    have d0 := C0.cellv (i := 0) rfl
    have d1 := C0.cellv (i := 0 + 1) rfl
    have d2 := C0.cellv (i := 0 + 2) rfl
    have d3 := C0.cellv (i := 0 + 3) rfl
    have d4 := C0.cellv (i := 0 + 4) rfl
    have e0 := C1.frozen 0
    have e1 := C1.frozen (0 + 1)
    have e2 := C1.frozen (0 + 2)
    have e3 := C1.frozen (0 + 3)
    have e4 := C1.frozen (0 + 4)
    have f0 := C0.frozen 0
    have f1 := C0.frozen (0 + 1)
    have f2 := C0.frozen (0 + 2)
    have f3 := C0.frozen (0 + 3)
    have f4 := C0.frozen (0 + 4)
    clear C0 C1 hU
    go_wp2_with fail
    exact refi_end _ _ _ _ _ _ _ _ _ rfl rfl (five_cells ((((HC0.out).far ⟨w.heap.size + 1, 3, none⟩ (.int .i64 a) (by simp))).far ⟨w.heap.size + 1, 1, none⟩ (.int .i64 b) (by simp)) _ _ _ _ _) ⟨none, 0, rfl, World.ownsRow_nil _ _ _ _, five_upd ((((HU.out).setCell ⟨w.heap.size + 1, 3, none⟩ (.int .i64 a) (fun h => absurd h (by show ¬ w.heap.size + 1 < _; omega)))).setCell ⟨w.heap.size + 1, 1, none⟩ (.int .i64 b) (fun h => absurd h (by show ¬ w.heap.size + 1 < _; omega))) (Nat.lt_irrefl _) _ _ _ _ _⟩
set_option maxRecDepth 100000 in
set_option maxHeartbeats 4000000 in
theorem refi_5 (w : World) (S : Nat → Prop) (LA : Option Addr) (ln lc : Nat) (a : Int) (r : List Int) (h : Reads w S 1 LA ln (intv (a :: r))) (hS : ∀ b, S b → b < w.heap.size) :
    Calls Tryd.prog 55 #[.int .i64 5, .slice LA ln lc] w (RefIAns w ⟨5, 0, 0, a, []⟩) := by
    have hln : 1 ≤ ln := by have := h.1; simp [intv] at this; omega
    have HRD := hideP h
    clear h
    have C0 : Cells ((w.alloc (.cells #[.int .i64 0, .int .i64 0, .int .i64 0, .int .i64 0, .slice none 0 0] 48)).alloc (.cells #[.int .i64 5, .int .i64 0, .int .i64 0, .int .i64 0, .slice none 0 0] 48)) w.heap.size 48 #[.int .i64 0, .int .i64 0, .int .i64 0, .int .i64 0, .slice none 0 0] := (Cells.new _ _ _).alloc _
    have C1 := Cells.new (w.alloc (.cells #[.int .i64 0, .int .i64 0, .int .i64 0, .int .i64 0, .slice none 0 0] 48)) 48 #[.int .i64 5, .int .i64 0, .int .i64 0, .int .i64 0, .slice none 0 0]
    rw [World.size_alloc] at C1
    have hU : Upd Nob w ((w.alloc (.cells #[.int .i64 0, .int .i64 0, .int .i64 0, .int .i64 0, .slice none 0 0] 48)).alloc (.cells #[.int .i64 5, .int .i64 0, .int .i64 0, .int .i64 0, .slice none 0 0] 48)) := ((Upd.refl Nob w).alloc _).alloc _
    go_enter Tryd.func55, Tryd.ntmps55
    go_upto_region 2 with fail
    generalize ((w.alloc (.cells #[.int .i64 0, .int .i64 0, .int .i64 0, .int .i64 0, .slice none 0 0] 48)).alloc (.cells #[.int .i64 5, .int .i64 0, .int .i64 0, .int .i64 0, .slice none 0 0] 48)) = w2 at *
    have HC0 := hideP C0
    have HC1 := hideP C1
    have HU := hideP hU
    have hw2 := C1.lt
    obtain ⟨la, rfl, hs, hb, ca⟩ := ints_one (HRD.out.upd hU (fun _ _ => not_nob))
    have g0 : (0 : Int) < (ln : Int) := by omega
    have hlb := hS _ hs
    have hn1 : la.block ≠ w.heap.size + 1 := by omega
    have hn0 : la.block ≠ w.heap.size := by omega
    have hn2 : ¬ w.heap.size + 1 = la.block := by omega
    clear hS hs
    have c0 := C1.cellv (i := 0) rfl
    have c1 := C1.cellv (i := 0 + 1) rfl
    have c2 := C1.cellv (i := 0 + 2) rfl
    have c3 := C1.cellv (i := 0 + 3) rfl
    have c4 := C1.cellv (i := 0 + 4) rfl
    have d0 := C0.cellv (i := 0) rfl
    have d1 := C0.cellv (i := 0 + 1) rfl
    have d2 := C0.cellv (i := 0 + 2) rfl
    have d3 := C0.cellv (i := 0 + 3) rfl
    have d4 := C0.cellv (i := 0 + 4) rfl
    have e0 := C1.frozen 0
    have e1 := C1.frozen (0 + 1)
    have e2 := C1.frozen (0 + 2)
    have e3 := C1.frozen (0 + 3)
    have e4 := C1.frozen (0 + 4)
    have f0 := C0.frozen 0
    have f1 := C0.frozen (0 + 1)
    have f2 := C0.frozen (0 + 2)
    have f3 := C0.frozen (0 + 3)
    have f4 := C0.frozen (0 + 4)
    clear C0 C1 hU
    go_wp2_with fail
    exact refi_end _ _ _ _ _ _ _ _ _ rfl rfl (five_cells ((HC0.out).far ⟨w.heap.size + 1, 3, none⟩ (.int .i64 a) (by simp)) _ _ _ _ _) ⟨none, 0, rfl, World.ownsRow_nil _ _ _ _, five_upd ((HU.out).setCell ⟨w.heap.size + 1, 3, none⟩ (.int .i64 a) (fun h => absurd h (by show ¬ w.heap.size + 1 < _; omega))) (Nat.lt_irrefl _) _ _ _ _ _⟩
set_option maxRecDepth 100000 in
set_option maxHeartbeats 4000000 in
theorem refi_6 (w : World) (S : Nat → Prop) (LA : Option Addr) (ln lc : Nat) (l : List Int) (h : Reads w S 1 LA ln (intv (l))) (hS : ∀ b, S b → b < w.heap.size) :
    Calls Tryd.prog 55 #[.int .i64 6, .slice LA ln lc] w (RefIAns w ⟨6, 0, 0, 0, []⟩) := by
    have C0 : Cells ((w.alloc (.cells #[.int .i64 0, .int .i64 0, .int .i64 0, .int .i64 0, .slice none 0 0] 48)).alloc (.cells #[.int .i64 6, .int .i64 0, .int .i64 0, .int .i64 0, .slice none 0 0] 48)) w.heap.size 48 #[.int .i64 0, .int .i64 0, .int .i64 0, .int .i64 0, .slice none 0 0] := (Cells.new _ _ _).alloc _
    have C1 := Cells.new (w.alloc (.cells #[.int .i64 0, .int .i64 0, .int .i64 0, .int .i64 0, .slice none 0 0] 48)) 48 #[.int .i64 6, .int .i64 0, .int .i64 0, .int .i64 0, .slice none 0 0]
    rw [World.size_alloc] at C1
    have hU : Upd Nob w ((w.alloc (.cells #[.int .i64 0, .int .i64 0, .int .i64 0, .int .i64 0, .slice none 0 0] 48)).alloc (.cells #[.int .i64 6, .int .i64 0, .int .i64 0, .int .i64 0, .slice none 0 0] 48)) := ((Upd.refl Nob w).alloc _).alloc _
    go_enter Tryd.func55, Tryd.ntmps55
    go_upto_region 2 with fail
    generalize ((w.alloc (.cells #[.int .i64 0, .int .i64 0, .int .i64 0, .int .i64 0, .slice none 0 0] 48)).alloc (.cells #[.int .i64 6, .int .i64 0, .int .i64 0, .int .i64 0, .slice none 0 0] 48)) = w2 at *
    have HC0 := hideP C0
    have HC1 := hideP C1
    have HU := hideP hU
    have hw2 := C1.lt
    have c0 := C1.cellv (i := 0) rfl
    have c1 := C1.cellv (i := 0 + 1) rfl
    have c2 := C1.cellv (i := 0 + 2) rfl
    have c3 := C1.cellv (i := 0 + 3) rfl
    have c4 := C1.cellv (i := 0 + 4) rfl
    have d0 := C0.cellv (i := 0) rfl
    have d1 := C0.cellv (i := 0 + 1) rfl
    have d2 := C0.cellv (i := 0 + 2) rfl
    have d3 := C0.cellv (i := 0 + 3) rfl
    have d4 := C0.cellv (i := 0 + 4) rfl
    have e0 := C1.frozen 0
    have e1 := C1.frozen (0 + 1)
    have e2 := C1.frozen (0 + 2)
    have e3 := C1.frozen (0 + 3)
    have e4 := C1.frozen (0 + 4)
    have f0 := C0.frozen 0
    have f1 := C0.frozen (0 + 1)
    have f2 := C0.frozen (0 + 2)
    have f3 := C0.frozen (0 + 3)
    have f4 := C0.frozen (0 + 4)
    clear C0 C1 hU
    go_wp2_with fail
    exact refi_end _ _ _ _ _ _ _ _ _ rfl rfl (five_cells HC0.out _ _ _ _ _) ⟨none, 0, rfl, World.ownsRow_nil _ _ _ _, five_upd HU.out (Nat.lt_irrefl _) _ _ _ _ _⟩
set_option maxRecDepth 100000 in
set_option maxHeartbeats 4000000 in
theorem refi_7 (w : World) (S : Nat → Prop) (LA : Option Addr) (ln lc : Nat) (a : Int) (r : List Int) (h : Reads w S 1 LA ln (intv (a :: r))) (hS : ∀ b, S b → b < w.heap.size) :
    Calls Tryd.prog 55 #[.int .i64 7, .slice LA ln lc] w (RefIAns w ⟨7, a, 0, 0, []⟩) := by
    have hln : 1 ≤ ln := by have := h.1; simp [intv] at this; omega
    have HRD := hideP h
    clear h
    have C0 : Cells ((w.alloc (.cells #[.int .i64 0, .int .i64 0, .int .i64 0, .int .i64 0, .slice none 0 0] 48)).alloc (.cells #[.int .i64 7, .int .i64 0, .int .i64 0, .int .i64 0, .slice none 0 0] 48)) w.heap.size 48 #[.int .i64 0, .int .i64 0, .int .i64 0, .int .i64 0, .slice none 0 0] := (Cells.new _ _ _).alloc _
    have C1 := Cells.new (w.alloc (.cells #[.int .i64 0, .int .i64 0, .int .i64 0, .int .i64 0, .slice none 0 0] 48)) 48 #[.int .i64 7, .int .i64 0, .int .i64 0, .int .i64 0, .slice none 0 0]
    rw [World.size_alloc] at C1
    have hU : Upd Nob w ((w.alloc (.cells #[.int .i64 0, .int .i64 0, .int .i64 0, .int .i64 0, .slice none 0 0] 48)).alloc (.cells #[.int .i64 7, .int .i64 0, .int .i64 0, .int .i64 0, .slice none 0 0] 48)) := ((Upd.refl Nob w).alloc _).alloc _
    go_enter Tryd.func55, Tryd.ntmps55
    go_upto_region 2 with fail
    generalize ((w.alloc (.cells #[.int .i64 0, .int .i64 0, .int .i64 0, .int .i64 0, .slice none 0 0] 48)).alloc (.cells #[.int .i64 7, .int .i64 0, .int .i64 0, .int .i64 0, .slice none 0 0] 48)) = w2 at *
    have HC0 := hideP C0
    have HC1 := hideP C1
    have HU := hideP hU
    have hw2 := C1.lt
    obtain ⟨la, rfl, hs, hb, ca⟩ := ints_one (HRD.out.upd hU (fun _ _ => not_nob))
    have g0 : (0 : Int) < (ln : Int) := by omega
    have hlb := hS _ hs
    have hn1 : la.block ≠ w.heap.size + 1 := by omega
    have hn0 : la.block ≠ w.heap.size := by omega
    have hn2 : ¬ w.heap.size + 1 = la.block := by omega
    clear hS hs
    have c0 := C1.cellv (i := 0) rfl
    have c1 := C1.cellv (i := 0 + 1) rfl
    have c2 := C1.cellv (i := 0 + 2) rfl
    have c3 := C1.cellv (i := 0 + 3) rfl
    have c4 := C1.cellv (i := 0 + 4) rfl
    have d0 := C0.cellv (i := 0) rfl
    have d1 := C0.cellv (i := 0 + 1) rfl
    have d2 := C0.cellv (i := 0 + 2) rfl
    have d3 := C0.cellv (i := 0 + 3) rfl
    have d4 := C0.cellv (i := 0 + 4) rfl
    have e0 := C1.frozen 0
    have e1 := C1.frozen (0 + 1)
    have e2 := C1.frozen (0 + 2)
    have e3 := C1.frozen (0 + 3)
    have e4 := C1.frozen (0 + 4)
    have f0 := C0.frozen 0
    have f1 := C0.frozen (0 + 1)
    have f2 := C0.frozen (0 + 2)
    have f3 := C0.frozen (0 + 3)
    have f4 := C0.frozen (0 + 4)
    clear C0 C1 hU
    go_wp2_with fail
    exact refi_end _ _ _ _ _ _ _ _ _ rfl rfl (five_cells ((HC0.out).far ⟨w.heap.size + 1, 1, none⟩ (.int .i64 a) (by simp)) _ _ _ _ _) ⟨none, 0, rfl, World.ownsRow_nil _ _ _ _, five_upd ((HU.out).setCell ⟨w.heap.size + 1, 1, none⟩ (.int .i64 a) (fun h => absurd h (by show ¬ w.heap.size + 1 < _; omega))) (Nat.lt_irrefl _) _ _ _ _ _⟩
theorem pairsOf_len : ∀ (r : List Int), (pairsOf r).length = r.length / 2
  | [] => by simp [pairsOf]
  | [a] => by simp [pairsOf]
  | a :: b :: r => by
    unfold pairsOf
    simp only [List.length_cons]
    rw [pairsOf_len r]
    omega
theorem pairsOf_at : ∀ (r : List Int) (k : Nat), 2 * k + 1 < r.length → ∃ x y, r[2 * k]? = some x ∧ r[2 * k + 1]? = some y ∧ (pairsOf r)[k]? = some (x, y)
  | [], k, h => by simp at h
  | [a], k, h => by simp at h
  | a :: b :: r, 0, h => ⟨a, b, rfl, rfl, rfl⟩
  | a :: b :: r, k + 1, h => by
    obtain ⟨x, y, h1, h2, h3⟩ := pairsOf_at r k (by simp at h; omega)
    refine ⟨x, y, ?_, ?_, by unfold pairsOf; simpa using h3⟩
    · rw [show 2 * (k + 1) = 2 * k + 1 + 1 by omega]; simpa using h1
    · rw [show 2 * (k + 1) + 1 = 2 * k + 1 + 1 + 1 by omega]; simpa using h2
set_option maxRecDepth 100000 in
set_option maxHeartbeats 4000000 in
theorem refi_1 (w : World) (S : Nat → Prop) (LA : Option Addr) (ln lc : Nat) (a b : Int) (r : List Int) (h : Reads w S 1 LA ln (intv (a :: b :: r))) (hS : ∀ b, S b → b < w.heap.size) (hl8 : ln ≤ 100000000) :
    Calls Tryd.prog 55 #[.int .i64 1, .slice LA ln lc] w (RefIAns w ⟨1, a, 0, 0, pairsOf r⟩) := by
    have hln : ln = r.length + 2 := by have := h.1; simp [intv] at this; omega
    have HRD := hideP h
    clear h
    generalize hP : RefIAns w ⟨1, a, 0, 0, pairsOf r⟩ = P
    have HP := hideP hP
    clear hP
    have C0 : Cells ((w.alloc (.cells #[.int .i64 0, .int .i64 0, .int .i64 0, .int .i64 0, .slice none 0 0] 48)).alloc (.cells #[.int .i64 1, .int .i64 0, .int .i64 0, .int .i64 0, .slice none 0 0] 48)) w.heap.size 48 #[.int .i64 0, .int .i64 0, .int .i64 0, .int .i64 0, .slice none 0 0] := (Cells.new _ _ _).alloc _
    have C1 := Cells.new (w.alloc (.cells #[.int .i64 0, .int .i64 0, .int .i64 0, .int .i64 0, .slice none 0 0] 48)) 48 #[.int .i64 1, .int .i64 0, .int .i64 0, .int .i64 0, .slice none 0 0]
    rw [World.size_alloc] at C1
    have hU : Upd Nob w ((w.alloc (.cells #[.int .i64 0, .int .i64 0, .int .i64 0, .int .i64 0, .slice none 0 0] 48)).alloc (.cells #[.int .i64 1, .int .i64 0, .int .i64 0, .int .i64 0, .slice none 0 0] 48)) := ((Upd.refl Nob w).alloc _).alloc _
    go_enter Tryd.func55, Tryd.ntmps55
    go_upto_region 2 with fail
    generalize ((w.alloc (.cells #[.int .i64 0, .int .i64 0, .int .i64 0, .int .i64 0, .slice none 0 0] 48)).alloc (.cells #[.int .i64 1, .int .i64 0, .int .i64 0, .int .i64 0, .slice none 0 0] 48)) = w2 at *
    have HC0 := hideP C0
    have HC1 := hideP C1
    have HU := hideP hU
    have hw2 := C1.lt
    obtain ⟨la, rfl, hs, hb, ca, cb⟩ := ints_two (HRD.out.upd hU (fun _ _ => not_nob))
    have g1 : (1 : Int) < (ln : Int) := by omega
    have g0 : (0 : Int) < (ln : Int) := by omega
    have hlb := hS _ hs
    have hn1 : la.block ≠ w.heap.size + 1 := by omega
    have hn2 : ¬ w.heap.size + 1 = la.block := by omega
    have c1 := C1.cellv (i := 0 + 1) rfl
    have e1 := C1.frozen (0 + 1)
    have HLA := hideP (show ∀ wr, Upd Nob w wr → ∀ i x, (a :: b :: r)[i]? = some x → wr.cell? (la.add i) = some (.int .i64 x) from fun wr hv i x hx => by
      obtain ⟨ad, e, -, -, hc⟩ := (HRD.out.upd hv (fun _ _ => not_nob)).2 (by omega)
      injection e with e
      subst e
      exact hc i _ (by rw [intv, List.getElem?_map, hx]; rfl))
    clear C0 C1 hU hS hs
    have HL := hideP hln
    clear hln
    go_wp2_with fail
    have HX := hideP (HC1.out.set_ 1 (.int .i64 a))
    have HZ := hideP (HC0.out.far ⟨w.heap.size + 1, 1, none⟩ (.int .i64 a) (by simp))
    have HV := hideP (HU.out.setCell ⟨w.heap.size + 1, 1, none⟩ (.int .i64 a) (fun h => absurd h (by show ¬ w.heap.size + 1 < _; omega)))
    clear c1 e1 ca cb HC0 HC1 HU
    generalize w2.setCell ⟨w.heap.size + 1, 0 + 1, none⟩ (.int .i64 a) = w3 at *
    go_loopg [6] (r.length / 2) (fun gk v6 wr => ∃ (k : Nat) (B : Option Addr) (c : Nat), k + gk = r.length / 2 ∧ v6 = .int .i64 ((2 + 2 * k : Nat) : Int) ∧ Cells wr (w.heap.size + 1) 48 #[.int .i64 1, .int .i64 a, .int .i64 0, .int .i64 0, .slice B k c] ∧ Cells wr w.heap.size 48 #[.int .i64 0, .int .i64 0, .int .i64 0, .int .i64 0, .slice none 0 0] ∧ wr.ownsRow (w.heap.size + 2) 50 2 (.slice B k c) k (pairv ((pairsOf r).take k)) ∧ Upd Nob w wr)
    case atStart => exact ⟨0, none, 0, by omega, rfl, HX.out, HZ.out, World.ownsRow_nil _ _ _ _, HV.out⟩
    case round =>
      obtain ⟨k, B, c, hk, rfl, hX, hZ, hO, hU⟩ := hrel
      have HK := hideP hk
      have HX := hideP hX
      have HZ := hideP hZ
      have HO := hideP hO
      have HU := hideP hU
      have hsr := hU.size
      have hl := HL.out
      clear hk
      by_cases hlt : ¬ k < r.length / 2
      · have hkk : k = r.length / 2 := by have := HK.out; omega
        have q1 : ¬ ((2 + 2 * k : Nat) : Int) + 1 < (ln : Int) := by omega
        have q2 : IntKind.i64.wrap (((2 + 2 * k : Nat) : Int) + 1) = ((2 + 2 * k : Nat) : Int) + 1 := by rw [IntKind.wrap_i64]; omega
        have HKK := hideP hkk
        clear hkk
        generalize 2 + 2 * k = i at *
        have c0 := hX.cellv (i := 0) rfl
        have c1 := hX.cellv (i := 0 + 1) rfl
        have c2 := hX.cellv (i := 0 + 2) rfl
        have c3 := hX.cellv (i := 0 + 3) rfl
        have c4 := hX.cellv (i := 0 + 4) rfl
        have d0 := hZ.cellv (i := 0) rfl
        have d1 := hZ.cellv (i := 0 + 1) rfl
        have d2 := hZ.cellv (i := 0 + 2) rfl
        have d3 := hZ.cellv (i := 0 + 3) rfl
        have d4 := hZ.cellv (i := 0 + 4) rfl
        have f0 := hZ.frozen 0
        have f1 := hZ.frozen (0 + 1)
        have f2 := hZ.frozen (0 + 2)
        have f3 := hZ.frozen (0 + 3)
        have f4 := hZ.frozen (0 + 4)
        clear hX hZ hO hU hl
        go_wp2_with fail
        have hpl : (pairsOf r).length = k := by rw [pairsOf_len]; exact HKK.out.symm
        have hO2 := HO.out
        rw [List.take_of_length_le (by omega)] at hO2
        refine refi_end _ _ _ _ _ _ _ _ _ rfl rfl (five_cells HZ.out _ _ _ _ _) ?_
        rw [← HP.out]
        refine ⟨B, c, by rw [hpl], ?_, five_upd HU.out (Nat.lt_irrefl _) _ _ _ _ _⟩
        rw [hpl]
        refine own_base (five_own hO2 (own_ne HO.out HZ.out (by decide)) _ _ _ _ _) (fun g hg => by have := own_lo HO.out hg; omega)
      have hlt : k < r.length / 2 := by omega
      have q1 : ((2 + 2 * k : Nat) : Int) + 1 < (ln : Int) := by omega
      have q2 : IntKind.i64.wrap (((2 + 2 * k : Nat) : Int) + 1) = ((2 + 2 * k : Nat) : Int) + 1 := by rw [IntKind.wrap_i64]; omega
      have q3 : IntKind.i64.wrap (((2 + 2 * k : Nat) : Int) + 2) = ((2 + 2 * (k + 1) : Nat) : Int) := by rw [IntKind.wrap_i64]; omega
      obtain ⟨x, y, h1, h2, h3⟩ := pairsOf_at r k (by omega)
      have ca := HLA.out wr HU.out (2 + 2 * k) x (by rw [show 2 + 2 * k = 2 * k + 1 + 1 by omega]; simpa using h1)
      have cb := HLA.out wr HU.out (2 + 2 * k + 1) y (by rw [show 2 + 2 * k + 1 = 2 * k + 1 + 1 + 1 by omega]; simpa using h2)
      rw [show la.add (2 + 2 * k + 1) = ⟨la.block, la.off + (2 + 2 * k + 1), none⟩ by simp [Addr.add]] at cb
      have hi2 : 2 + 2 * k + 1 < ln := by omega
      have e3 : (pairsOf r).take (k + 1) = (pairsOf r).take k ++ [(x, y)] := by rw [List.take_add_one, h3]; rfl
      have HE := hideP e3
      have HQ := hideP (show 2 + 2 * k + 2 = 2 + 2 * (k + 1) from by omega)
      have hK := HK.out
      generalize hgi : 2 + 2 * k = i at *
      clear hX hZ hO hU e3 hl
      go_upto_region 8 with fail
      refine refi_reg8 _ wr la ln lc (w.heap.size + 1) (w.heap.size + 2) i k c x y _ _ _ _ B ((pairsOf r).take k) _ _ _ _ _ _ _ _ _ _ _ _ _ _ _ _ _ _ _ _ _ _ _ _ _ _ _ _ _ _ _ _ _ _ _ _ _ _ _ _ _ _ _ _ _ _ _ _ _ _ _ _ _ _ _ _ _ _ _ _ _ _ _ _ _ _ _ _ _ HX.out HO.out hi2 ca cb (by omega) hl8 (by have := HX.out.lt; omega) (by omega) ?_
      intro _ _ _ _ _ _ _ _ _ _ _ _ _ _ _ gN cN w' hC2 hO2 hU2
      go_wp2_with fail
      go_roundg (r.length / 2 - (k + 1))
      case measure => omega
      case rel => exact ⟨k + 1, some ⟨gN, 0, none⟩, cN, by omega, by (first | go_num | (congr 1; omega)), hC2, HZ.out.upd hU2 (fun h => by rcases h with h | h <;> omega), by rw [HE.out]; exact hO2, HU.out.trans hU2 (fun b hb h => by rcases h with h | h <;> omega)⟩
end Go.Proofs.YtdbdokjlcdogiaaDoor

/-
  The walk of (*heronref10.reader).inst over bytes.
-/
namespace Go.Proofs.YtdbdokjlcdogiaaDoor
open Go.RowKit
set_option linter.unusedVariables false

theorem refi_any (w : World) (S : Nat → Prop) (LA : Option Addr) (lc : Nat) (op : Int) (l : List Int) (h : Reads w S 1 LA l.length (intv l)) (hS : ∀ b, S b → b < w.heap.size) (hl8 : l.length ≤ 100000000) (h1 : 1 ≤ op) (h7 : op ≤ 7) (hm : manyI op ≤ l.length) :
    Calls Tryd.prog 55 #[.int .i64 op, .slice LA l.length lc] w (RefIAns w (mkI op l)) := by
  have hc : op = 1 ∨ op = 2 ∨ op = 3 ∨ op = 4 ∨ op = 5 ∨ op = 6 ∨ op = 7 := by omega
  have two : ∀ {l : List Int}, 2 ≤ l.length → ∃ a b r, l = a :: b :: r := fun {l} hl => by
    match l, hl with
    | a :: b :: r, _ => exact ⟨a, b, r, rfl⟩
  have one : ∀ {l : List Int}, 1 ≤ l.length → ∃ a r, l = a :: r := fun {l} hl => by
    match l, hl with
    | a :: r, _ => exact ⟨a, r, rfl⟩
  rcases hc with rfl | rfl | rfl | rfl | rfl | rfl | rfl
  · obtain ⟨a, b, r, rfl⟩ := two hm
    exact refi_1 w S LA _ lc a b r h hS hl8
  · obtain ⟨a, b, r, rfl⟩ := two hm
    exact refi_2 w S LA _ lc a b r h hS
  · obtain ⟨a, b, r, rfl⟩ := two hm
    exact refi_3 w S LA _ lc a b r h hS
  · obtain ⟨a, b, r, rfl⟩ := two hm
    exact refi_4 w S LA _ lc a b r h hS
  · obtain ⟨a, r, rfl⟩ := one hm
    exact refi_5 w S LA _ lc a r h hS
  · exact refi_6 w S LA _ lc l h hS
  · obtain ⟨a, r, rfl⟩ := one hm
    exact refi_7 w S LA _ lc a r h hS
/-- the answer of the reader's inst -/
def RdIAns (w : World) (S : Nat → Prop) (rb : Nat) (all : List Int) (R : PInst × List Int × Bool) (e : Ending) (w' : World) : Prop :=
  ∃ B c, e = .returned (.agg #[.int .i64 R.1.op, .int .i64 R.1.x, .int .i64 R.1.y, .int .i64 R.1.arg, .slice B R.1.rs.length c]) ∧ w'.ownsRow w.heap.size 50 2 (.slice B R.1.rs.length c) R.1.rs.length (pairv R.1.rs) ∧ RdR w' S rb all R.2.1 R.2.2 ∧ Upd (fun b => b = rb) w w'
theorem rinfo_int : (Tryd.prog.info? 3).map (fun i => (i.zero, i.size, i.bytes)) = some (some (.int .i64 0), 1, 8) := by kernel_rfl
theorem rdi_end (P : Ending → World → Prop) (w : World) (a : Act) (b : Nat) (v0 v1 v2 v3 v4 : Value) (hd : a.defers = []) (ht : a.tmps[4]? = some (.pointer (some ⟨b, 0, none⟩))) (hC : Cells w b 48 #[v0, v1, v2, v3, v4]) (hP : P (.returned (.agg #[v0, v1, v2, v3, v4])) w) :
    bodyPost Tryd.prog Tryd.f27 P .ret a w := by
  have c0 := hC.cellv (i := 0) rfl
  have c1 := hC.cellv (i := 1) rfl
  have c2 := hC.cellv (i := 2) rfl
  have c3 := hC.cellv (i := 3) rfl
  have c4 := hC.cellv (i := 4) rfl
  exact ⟨hd, _, by simp [results, Tryd.results27, go_sem, ht, c0, c1, c2, c3, c4], hP⟩
theorem RdR.alloc {w : World} {S : Nat → Prop} {rb : Nat} {all rest : List Int} {bad : Bool} (h : RdR w S rb all rest bad) (o : Obj) : RdR (w.alloc o) S rb all rest bad := h.upd ((Upd.refl Nob w).alloc o) not_nob (fun _ _ => not_nob)
theorem RdR.lt {w : World} {S : Nat → Prop} {rb : Nat} {all rest : List Int} {bad : Bool} (h : RdR w S rb all rest bad) : rb < w.heap.size := by
  obtain ⟨A, c, k, hc, -⟩ := h.at_
  exact hc.lt
theorem five_rd {w : World} {S : Nat → Prop} {rb b : Nat} {all rest : List Int} {bad : Bool} (h : RdR w S rb all rest bad) (hb : ¬ rb = b) (hS : ∀ k, S k → ¬ k = b) (v0 v1 v2 v3 v4 : Value) : RdR (five w b v0 v1 v2 v3 v4) S rb all rest bad :=
  h.upd (F := fun k => k = b) (((((Upd.refl (fun k => k = b) w).setCell ⟨b, 0, none⟩ v0 (fun _ => rfl)).setCell ⟨b, 1, none⟩ v1 (fun _ => rfl)).setCell ⟨b, 2, none⟩ v2 (fun _ => rfl)).setCell ⟨b, 3, none⟩ v3 (fun _ => rfl) |>.setCell ⟨b, 4, none⟩ v4 (fun _ => rfl)) hb hS
theorem five_updF {F : Nat → Prop} {w0 w : World} {b : Nat} (hU : Upd F w0 w) (hb : ¬ b < w0.heap.size) (v0 v1 v2 v3 v4 : Value) : Upd F w0 (five w b v0 v1 v2 v3 v4) :=
  ((((hU.setCell ⟨b, 0, none⟩ v0 (fun h => absurd h hb)).setCell ⟨b, 1, none⟩ v1 (fun h => absurd h hb)).setCell ⟨b, 2, none⟩ v2 (fun h => absurd h hb)).setCell ⟨b, 3, none⟩ v3 (fun h => absurd h hb)).setCell ⟨b, 4, none⟩ v4 (fun h => absurd h hb)

theorem own_blt {w : World} {base : Nat} {e : TypeId} {size : Nat} {v : Value} {n : Nat} {xs : List Value} (h : w.ownsRow base e size v n xs) {b : Nat} (hb : v.ownBlock = some b) : b < w.heap.size := by
  obtain ⟨cur, hc, -⟩ := own_cells h hb
  exact hc.lt
theorem rngR_bad : ∀ (n : Nat) (r : List Int), rngR n true r = ([], r, true)
  | 0, r => rfl
  | n + 1, r => by rw [rngR, if_pos rfl]
theorem numsR_step {n : Nat} {b b' : Bool} {r r' : List Int} {v : Int} (h : nxt b r = (v, r', b')) : numsR (n + 1) b r = (v :: (numsR n b' r').1, (numsR n b' r').2) := by rw [numsR, h]
theorem rngR_step {n : Nat} {b' : Bool} {r r' : List Int} {v : Int} (h : nxt false r = (v, r', b')) : rngR (n + 1) false r = (v :: (rngR n b' r').1, (rngR n b' r').2) := by
  have h2 : varB r = (v, r', b') := h
  rw [rngR, if_neg (by simp), h2]
theorem nxt_less {r r' : List Int} {v : Int} (h : nxt false r = (v, r', false)) : r'.length < r.length := by
  have h2 : varB r = (v, r', false) := h
  have := varF_less 5 0 1 true r (by show (varB r).2.2 = false; rw [h2])
  have e : varF 5 0 1 true r = (v, r', false) := h2
  rw [e] at this
  exact this
set_option maxRecDepth 100000 in
set_option maxHeartbeats 4000000 in
theorem rdInst_any (w : World) (S : Nat → Prop) (rb : Nat) (all rest : List Int) (bad : Bool) (h : RdR w S rb all rest bad) (hS : ∀ b, S b → b < w.heap.size) :
    Calls Tryd.prog 27 #[.pointer (some ⟨rb, 0, none⟩), .bool false] w (RdIAns w S rb all (instR bad rest)) := by
  have hrb := h.lt
  have C0 := Cells.new w 48 #[.int .i64 0, .int .i64 0, .int .i64 0, .int .i64 0, .slice none 0 0]
  have hU : Upd Nob w (w.alloc (.cells #[.int .i64 0, .int .i64 0, .int .i64 0, .int .i64 0, .slice none 0 0] 48)) := (Upd.refl Nob w).alloc _
  have H := hideP (h.alloc (.cells #[.int .i64 0, .int .i64 0, .int .i64 0, .int .i64 0, .slice none 0 0] 48))
  have hBy := h.rest_.1
  have HS := hideP hS
  obtain ⟨o1, o2, o3, o4⟩ := opR_in (b := bad) hBy
  have HO3 := hideP o3
  have hlen := h.rest_.2
  have hfew := h.few
  generalize hP : RdIAns w S rb all (instR bad rest) = P
  have HP := hideP hP
  clear hP h hS o3 hBy
  go_enter Tryd.func27, Tryd.ntmps27
  go_upto_region 1 with fail
  generalize w.alloc (.cells #[.int .i64 0, .int .i64 0, .int .i64 0, .int .i64 0, .slice none 0 0] 48) = w2 at *
  have HC0 := hideP C0
  have HU := hideP hU
  have hw2 := C0.lt
  clear C0 hU
  generalize hO : opR bad rest = O at *
  obtain ⟨ov, r0, b0⟩ := O
  simp only at o1 o2 HO3 o4
  have HO := hideP hO
  clear hO
  go_upto_region 2 with (go_at_call 53; refine (op_any w2 S rb all rest bad H.out).mono ?_; rw [HO.out]; rintro e w3 ⟨rfl, hR3, hU3⟩)
  have HR3 := hideP hR3
  have HU3 := hideP (HU.out.mono (G := fun b => b = rb) (fun _ _ h => absurd h not_nob) |>.trans hU3 (fun _ _ h => h))
  have HC3 := hideP (HC0.out.upd hU3 (by omega))
  have hw3 := HC3.out.lt
  clear hR3 hU3 HC0 HU H
  by_cases hbad : ov < 1 ∨ 7 < ov
  · obtain ⟨A, c, k, hc, -⟩ := HR3.out.at_
    have c3 := hc.cellv (i := 0 + 3) rfl
    have f3 := hc.frozen (0 + 3)
    have d0 := HC3.out.cellv (i := 0) rfl
    have d1 := HC3.out.cellv (i := 0 + 1) rfl
    have d2 := HC3.out.cellv (i := 0 + 2) rfl
    have d3 := HC3.out.cellv (i := 0 + 3) rfl
    have d4 := HC3.out.cellv (i := 0 + 4) rfl
    have g0 := HC3.out.frozen 0
    have g1 := HC3.out.frozen (0 + 1)
    have g2 := HC3.out.frozen (0 + 2)
    have g3 := HC3.out.frozen (0 + 3)
    have g4 := HC3.out.frozen (0 + 4)
    have hn : ¬ rb = w.heap.size := by omega
    have hn2 : ¬ w.heap.size = rb := by omega
    clear hc
    have eI : instR bad rest = (⟨0, 0, 0, 0, []⟩, r0, true) := by unfold instR; rw [HO.out]; simp only; rw [if_pos hbad]
    have EI := hideP eI
    clear eI
    have HRb := hideP (HR3.out.flag true)
    have HCb := hideP (HC3.out.far ⟨rb, 3, none⟩ (.bool true) hn2)
    have HUb := hideP (HU3.out.setCell ⟨rb, 3, none⟩ (.bool true) (fun _ => rfl))
    by_cases h1 : ov < 1
    · go_wp2_with fail
      refine rdi_end _ _ _ _ _ _ _ _ _ rfl rfl (five_cells HCb.out _ _ _ _ _) ?_
      rw [← HP.out, EI.out]
      exact ⟨none, 0, rfl, World.ownsRow_nil _ _ _ _, five_rd HRb.out hn (fun k hk e => by have := HS.out k hk; omega) _ _ _ _ _, five_updF HUb.out (Nat.lt_irrefl _) _ _ _ _ _⟩
    · have h7 : 7 < ov := by omega
      go_wp2_with fail
      refine rdi_end _ _ _ _ _ _ _ _ _ rfl rfl (five_cells HCb.out _ _ _ _ _) ?_
      rw [← HP.out, EI.out]
      exact ⟨none, 0, rfl, World.ownsRow_nil _ _ _ _, five_rd HRb.out hn (fun k hk e => by have := HS.out k hk; omega) _ _ _ _ _, five_updF HUb.out (Nat.lt_irrefl _) _ _ _ _ _⟩
  have p1 : 1 ≤ ov := by omega
  have p7 : ov ≤ 7 := by omega
  have hmm : manyI ov ≤ 2 := by unfold manyI; split; omega; split <;> omega
  have EI := hideP (show instR bad rest = if ov = 1 then
    (mkI 1 ((numsR 2 b0 r0).1 ++ (rngR (2 * ((numsR 2 b0 r0).1.getD 1 0).toNat) (numsR 2 b0 r0).2.2 (numsR 2 b0 r0).2.1).1), (rngR (2 * ((numsR 2 b0 r0).1.getD 1 0).toNat) (numsR 2 b0 r0).2.2 (numsR 2 b0 r0).2.1).2)
    else (mkI ov (numsR (manyI ov) b0 r0).1, (numsR (manyI ov) b0 r0).2) from by unfold instR; rw [HO.out]; simp only; rw [if_neg hbad])
  clear hbad
  obtain ⟨j0, hj0, hy0, hy1, hy2⟩ := info_parts rinfo_int
  obtain ⟨m, hm⟩ : ∃ m, manyI ov = m := ⟨_, rfl⟩
  have HM := hideP hm
  rw [hm] at hmm
  clear hm
  go_upto_region 7 with (go_at_call 54; refine (many_any w3 ov p1 p7).mono ?_; rw [HM.out]; rintro e w4 ⟨rfl, hw4⟩; subst hw4)
  go_wp2_with fail
  go_loopg [6, 8] m (fun gk v6 v8 wr => ∃ (i : Nat) (acc : List Int) (A : Option Addr) (c : Nat) (r : List Int) (b : Bool), i + gk = m ∧ v8 = .int .i64 (i : Int) ∧ v6 = .slice A i c ∧ acc.length = i ∧ wr.ownsRow (w.heap.size + 1) 3 1 (.slice A i c) i (intv acc) ∧ RdR wr S rb all r b ∧ numsR m b0 r0 = (acc ++ (numsR (m - i) b r).1, (numsR (m - i) b r).2) ∧ Cells wr w.heap.size 48 #[.int .i64 0, .int .i64 0, .int .i64 0, .int .i64 0, .slice none 0 0] ∧ Upd (fun b => b = rb) w wr)
  case atStart => exact ⟨0, [], none, 0, r0, b0, by omega, rfl, rfl, rfl, World.ownsRow_nil _ _ _ _, HR3.out, rfl, HC3.out, HU3.out⟩
  case round =>
    obtain ⟨i, acc, A, c, r, b, hk, rfl, rfl, hal, hO, hR, hN, hC, hU⟩ := hrel
    have HK := hideP hk
    have HOw := hideP hO
    have HR := hideP hR
    have HN := hideP hN
    have HC := hideP hC
    have HU := hideP hU
    have hs1 := hC.lt
    clear hk hO hR hN hC hU
    by_cases hlt : i < m
    · have q1 : (i : Int) < (m : Int) := by omega
      obtain ⟨v, r5, b5, hX⟩ : ∃ v r5 b5, nxt b r = (v, r5, b5) := ⟨_, _, _, rfl⟩
      have HX := hideP hX
      clear hX
      go_upto_region 11 with (go_at_call 26; refine (next_any wr S rb all r b HR.out).mono ?_; rw [HX.out]; rintro e w5 ⟨rfl, hR5, hU5⟩)
      have hrb0 : ¬ w.heap.size = rb := by omega
      have HR5 := hideP hR5
      have HU5 := hideP (HU.out.trans hU5 (fun _ _ h => h))
      have HC5 := hideP (HC.out.upd hU5 hrb0)
      have HO5 := hideP (own_upd HOw.out hU5 (fun b hb (e : b = rb) => by have := own_lo HOw.out hb; omega))
      have hs5 := HC5.out.lt
      clear hR5 hU5
      go_wp2_with (at_builtin; refine wpList_append_lies _ rfl _ _ 71 rfl (w.heap.size + 1) 3 j0 _ 1 8 Tryd.underlying71 hj0 hy0 hy1 hy2 rfl (by decide) (.slice A (i) c) (i) (intv acc) rfl (own_upd HO5.out ((Upd.refl Nob w5).alloc _) (fun _ _ => not_nob)) ⟨w5.heap.size, 0, none⟩ 1 1 [.int .i64 v] rfl rfl (World.news_of_block (cs := #[.int .i64 v]) (t := 3) (fr := (0, 0)) (heap_alloc_new w5 _)) (by intro u hu; simp at hu; rcases hu with rfl; rfl) (by decide) (by unfold maxLen; omega) (by omega) (by simp; omega) (w5.heap.size + 1) (by simp) ?_)
      intro gN cN wN oN gr hat hltN
      have OB := fun b (hb : (Value.slice A i c).ownBlock = some b) => own_lo HO5.out hb
      have UN := (HU5.out.alloc (.cells #[.int .i64 v] 3)).grown gr (fun b hb h => absurd h (by have := OB b hb; omega))
      have UB := ((Upd.refl (fun b => (Value.slice A i c).ownBlock = some b) w5).alloc (.cells #[.int .i64 v] 3)).grown gr (fun b hb _ => hb)
      have HCN := hideP (HC5.out.upd UB (fun h => by have := OB _ h; omega))
      have HRN := hideP (HR5.out.upd UB (fun h => by have := OB _ h; omega) (fun b hb h => by have h1 := OB b h; have h2 := HS.out b hb; omega))
      have e1 : intv acc ++ [.int .i64 v] = intv (acc ++ [v]) := by rw [intv_append]; rfl
      rw [e1] at oN
      have HON := hideP oN
      have HUN := hideP UN
      clear oN gr hat UN UB e1
      go_wp2_with fail
      go_roundg (m - (i + 1))
      case measure => have := HK.out; omega
      case rel => exact ⟨i + 1, acc ++ [v], some ⟨gN, 0, none⟩, cN, r5, b5, by have := HK.out; omega, by go_num, rfl, by simp [hal], HON.out, HRN.out, by rw [HN.out, show m - i = (m - (i + 1)) + 1 by omega, numsR_step HX.out]; simp, HCN.out, HUN.out⟩
    have him : i = m := by have := HK.out; omega
    subst him
    have hN2 := HN.out
    rw [Nat.sub_self] at hN2
    have HN2 := hideP (show numsR i b0 r0 = (acc, r, b) from by rw [hN2]; simp [numsR])
    clear hN2
    have q1 : ¬ (i : Int) < (i : Int) := by omega
    by_cases h1 : ov = 1
    · subst h1
      have hm2 : (2 : Nat) = i := HM.out
      obtain ⟨a0, a1, rfl⟩ : ∃ a0 a1, acc = [a0, a1] := by
        match acc, hal with
        | [a, b], _ => exact ⟨a, b, rfl⟩
        | [], h => simp at h; omega
        | [a], h => simp at h; omega
        | a :: b :: c :: r, h => simp at h; omega
      subst hm2
      have hNI := (numsR_in 2 b0 r0 HO3.out).1
      rw [HN2.out] at hNI
      have ha1 := hNI a1 (by simp)
      unfold Num36 at ha1
      have HE2 := hideP (show instR bad rest = (mkI 1 ([a0, a1] ++ (rngR (2 * a1.toNat) b r).1), (rngR (2 * a1.toNat) b r).2) from by rw [EI.out, if_pos rfl, HN2.out]; rfl)
      have hrl := HR.out.rest_.2
      have hrf := HR.out.few
      clear hNI EI HN HN2
      obtain ⟨m2, hm2⟩ : ∃ m2, m2 = 2 * a1.toNat := ⟨_, rfl⟩
      have hm2i : (m2 : Int) = 2 * a1 := by omega
      rw [← hm2] at HE2
      clear hm2
      obtain ⟨b1, hb1⟩ : ∃ b1, b1 = b := ⟨_, rfl⟩
      obtain ⟨r1, hr1⟩ : ∃ r1, r1 = r := ⟨_, rfl⟩
      rw [← hb1, ← hr1] at HE2
      have hb1 := hideP hb1
      have hr1 := hideP hr1
      go_wp2_with fail
      go_loopg [6, 10] m2 (fun gk v6 v10 wr => ∃ (i : Nat) (x : List Int) (A : Option Addr) (c : Nat) (r : List Int) (b : Bool), i + gk = m2 ∧ v10 = .int .i64 (i : Int) ∧ v6 = .slice A (2 + i) c ∧ x.length = i ∧ wr.ownsRow (w.heap.size + 1) 3 1 (.slice A (2 + i) c) (2 + i) (intv (a0 :: a1 :: x)) ∧ RdR wr S rb all r b ∧ rngR m2 b1 r1 = (x ++ (rngR (m2 - i) b r).1, (rngR (m2 - i) b r).2) ∧ Cells wr w.heap.size 48 #[.int .i64 0, .int .i64 0, .int .i64 0, .int .i64 0, .slice none 0 0] ∧ Upd (fun b => b = rb) w wr ∧ (b = false → i + r.length ≤ 8388608) ∧ i ≤ 8388609)
      case atStart => exact ⟨0, [], A, c, r, b, by omega, rfl, rfl, rfl, HOw.out, HR.out, by rw [hb1.out, hr1.out]; simp, HC.out, HU.out, fun _ => by omega, by omega⟩
      case round =>
        clear HOw HR HC HU hs1 hb1 hr1 hrl hrf
        obtain ⟨i, x, A, c, r, b, hk, rfl, rfl, hxl, hO, hR, hG, hC, hU, hbd, hi8⟩ := hrel
        have HK := hideP hk
        have HOw := hideP hO
        have HR := hideP hR
        have HG := hideP hG
        have HC := hideP hC
        have HU := hideP hU
        have HBD := hideP hbd
        have hs1 := hC.lt
        obtain ⟨gl, cap, hv, hbl, -⟩ := World.ownsRow.form hO (by omega)
        have hA : A = some ⟨gl, 0, none⟩ := by injection hv
        subst hA
        have l1 : wr.cell? ⟨gl, 1, none⟩ = some (.int .i64 a1) := by
          rw [World.ownsRow.cellAt hO 1 (by omega)]
          rfl
        obtain ⟨LA, Lc, Lk, hrc, -⟩ := hR.at_
        have c3 := hrc.cellv (i := 0 + 3) rfl
        have g2 : (1 : Int) < ((2 + i : Nat) : Int) := by omega
        have w1 : IntKind.i64.wrap (2 * a1) = 2 * a1 := by rw [IntKind.wrap_i64]; omega
        clear hk hO hR hG hC hU hbd hv hrc
        have hend : (i < m2 → b = true) → rngR m2 b1 r1 = (x, r, b) := fun h => by
          rw [HG.out]
          by_cases hlt : i < m2
          · rw [h hlt, rngR_bad]
            simp
          · rw [show m2 - i = 0 by omega]
            simp [rngR]
        have HEND := hideP hend
        clear hend
        obtain ⟨n2, hn2⟩ : ∃ n2, n2 = 2 + i := ⟨_, rfl⟩
        rw [← hn2] at HOw g2 ⊢
        have hlt2 : (a0 :: a1 :: x).length = n2 := by simp; omega
        by_cases hlt : i < m2
        · have q2 : (i : Int) < 2 * a1 := by omega
          cases b with
          | true =>
            have hE := HE2.out
            rw [HEND.out (fun _ => rfl)] at hE
            have HE3 := hideP (show instR bad rest = (mkI 1 (a0 :: a1 :: x), r, true) from hE)
            clear hE
            have HOx := hideP (show wr.ownsRow (w.heap.size + 1) 3 1 (.slice (some ⟨gl, 0, none⟩) (a0 :: a1 :: x).length c) (a0 :: a1 :: x).length (intv (a0 :: a1 :: x)) from by rw [hlt2]; exact HOw.out)
            rw [← hlt2]
            clear hlt2 hn2
            generalize hll : a0 :: a1 :: x = l at *
            have hl2 : 2 ≤ l.length := by rw [← hll]; simp
            have hl8 : l.length ≤ 100000000 := by rw [← hll]; simp; omega
            clear hll HOw
            go_upto_region 19 with (go_at_call 55; refine (refi_any wr _ (some ⟨gl, 0, none⟩) c 1 l (Reads.of_own HOx.out) (fun b hb => own_blt HOx.out hb) hl8 (by omega) (by omega) (by rw [show manyI 1 = 2 from rfl]; exact hl2)).mono ?_; rintro e w7 ⟨B, cc, rfl, hO7, hU7⟩; have C7 := HC.out.upd hU7 not_nob; have f0 := C7.frozen 0; have f1 := C7.frozen (0 + 1); have f2 := C7.frozen (0 + 2); have f3 := C7.frozen (0 + 3); have f4 := C7.frozen (0 + 4); have d0 := C7.cellv (i := 0) rfl; have d1 := C7.cellv (i := 0 + 1) rfl; have d2 := C7.cellv (i := 0 + 2) rfl; have d3 := C7.cellv (i := 0 + 3) rfl; have d4 := C7.cellv (i := 0 + 4) rfl)
            refine rdi_end _ _ _ _ _ _ _ _ _ rfl rfl (five_cells C7 _ _ _ _ _) ?_
            rw [← HP.out, HE3.out]
            exact ⟨B, cc, rfl, five_own (own_base hO7 (fun g hg => by have := own_lo hO7 hg; omega)) (own_ne hO7 C7 (by decide)) _ _ _ _ _, five_rd (HR.out.upd hU7 not_nob (fun _ _ => not_nob)) (by omega) (fun k hk e => by have := HS.out k hk; omega) _ _ _ _ _, five_updF (HU.out.trans hU7 (fun _ _ h => absurd h not_nob)) (Nat.lt_irrefl _) _ _ _ _ _⟩
          | false =>
            have hn28 : n2 ≤ 9000000 := by omega
            have HNN := hideP hn2
            have HLT := hideP hlt2
            clear hn2 hlt2
            obtain ⟨v, r5, b5, hX⟩ : ∃ v r5 b5, nxt false r = (v, r5, b5) := ⟨_, _, _, rfl⟩
            have HX := hideP hX
            clear hX
            go_upto_region 17 with (go_at_call 26; refine (next_any wr S rb all r false HR.out).mono ?_; rw [HX.out]; rintro e w5 ⟨rfl, hR5, hU5⟩)
            have hrb0 : ¬ w.heap.size = rb := by omega
            have HR5 := hideP hR5
            have HU5 := hideP (HU.out.trans hU5 (fun _ _ h => h))
            have HC5 := hideP (HC.out.upd hU5 hrb0)
            have HO5 := hideP (own_upd HOw.out hU5 (fun b hb (e : b = rb) => by have := own_lo HOw.out hb; omega))
            have hs5 := HC5.out.lt
            clear hR5 hU5
            go_wp2_with (at_builtin; refine wpList_append_lies _ rfl _ _ 71 rfl (w.heap.size + 1) 3 j0 _ 1 8 Tryd.underlying71 hj0 hy0 hy1 hy2 rfl (by decide) (.slice (some ⟨gl, 0, none⟩) (n2) c) (n2) (intv (a0 :: a1 :: x)) rfl (own_upd HO5.out ((Upd.refl Nob w5).alloc _) (fun _ _ => not_nob)) ⟨w5.heap.size, 0, none⟩ 1 1 [.int .i64 v] rfl rfl (World.news_of_block (cs := #[.int .i64 v]) (t := 3) (fr := (0, 0)) (heap_alloc_new w5 _)) (by intro u hu; simp at hu; rcases hu with rfl; rfl) (by decide) (by unfold maxLen; omega) (by omega) (by simp; omega) (w5.heap.size + 1) (by simp) ?_)
            intro gN cN wN oN gr hat hltN
            have OB := fun b (hb : (Value.slice (some ⟨gl, 0, none⟩) n2 c).ownBlock = some b) => own_lo HO5.out hb
            have UN := (HU5.out.alloc (.cells #[.int .i64 v] 3)).grown gr (fun b hb h => absurd h (by have := OB b hb; omega))
            have UB := ((Upd.refl (fun b => (Value.slice (some ⟨gl, 0, none⟩) n2 c).ownBlock = some b) w5).alloc (.cells #[.int .i64 v] 3)).grown gr (fun b hb _ => hb)
            have HCN := hideP (HC5.out.upd UB (fun h => by have := OB _ h; omega))
            have HRN := hideP (HR5.out.upd UB (fun h => by have := OB _ h; omega) (fun b hb h => by have h1 := OB b h; have h2 := HS.out b hb; omega))
            have e1 : intv (a0 :: a1 :: x) ++ [.int .i64 v] = intv (a0 :: a1 :: (x ++ [v])) := by simp [intv]
            rw [e1] at oN
            have e2 : n2 + 1 = 2 + (i + 1) := by have := HNN.out; omega
            rw [e2] at oN ⊢
            have HON := hideP oN
            have HUN := hideP UN
            have HBN := hideP (show b5 = false → (i + 1) + r5.length ≤ 8388608 from fun e => by subst e; have h1 := nxt_less HX.out; have h2 := HBD.out (by first | rfl | trivial); omega)
            have hi9 : i + 1 ≤ 8388609 := by have h2 := HBD.out (by first | rfl | trivial); omega
            clear oN gr hat UN UB e1 e2
            go_wp2_with fail
            go_roundg (m2 - (i + 1))
            case measure => have := HK.out; omega
            case rel => exact ⟨i + 1, x ++ [v], some ⟨gN, 0, none⟩, cN, r5, b5, by have := HK.out; omega, by go_num, rfl, by simp [hxl], HON.out, HRN.out, by rw [HG.out, show m2 - i = (m2 - (i + 1)) + 1 by omega, rngR_step HX.out]; simp, HCN.out, HUN.out, HBN.out, hi9⟩
        · have q2 : ¬ (i : Int) < 2 * a1 := by omega
          have hE := HE2.out
          rw [HEND.out (fun h => absurd h hlt)] at hE
          have HE3 := hideP (show instR bad rest = (mkI 1 (a0 :: a1 :: x), r, b) from hE)
          clear hE
          have HOx := hideP (show wr.ownsRow (w.heap.size + 1) 3 1 (.slice (some ⟨gl, 0, none⟩) (a0 :: a1 :: x).length c) (a0 :: a1 :: x).length (intv (a0 :: a1 :: x)) from by rw [hlt2]; exact HOw.out)
          rw [← hlt2]
          clear hlt2 hn2
          generalize hll : a0 :: a1 :: x = l at *
          have hl2 : 2 ≤ l.length := by rw [← hll]; simp
          have hl8 : l.length ≤ 100000000 := by rw [← hll]; simp; omega
          clear hll HOw
          go_upto_region 19 with (go_at_call 55; refine (refi_any wr _ (some ⟨gl, 0, none⟩) c 1 l (Reads.of_own HOx.out) (fun b hb => own_blt HOx.out hb) hl8 (by omega) (by omega) (by rw [show manyI 1 = 2 from rfl]; exact hl2)).mono ?_; rintro e w7 ⟨B, cc, rfl, hO7, hU7⟩; have C7 := HC.out.upd hU7 not_nob; have f0 := C7.frozen 0; have f1 := C7.frozen (0 + 1); have f2 := C7.frozen (0 + 2); have f3 := C7.frozen (0 + 3); have f4 := C7.frozen (0 + 4); have d0 := C7.cellv (i := 0) rfl; have d1 := C7.cellv (i := 0 + 1) rfl; have d2 := C7.cellv (i := 0 + 2) rfl; have d3 := C7.cellv (i := 0 + 3) rfl; have d4 := C7.cellv (i := 0 + 4) rfl)
          refine rdi_end _ _ _ _ _ _ _ _ _ rfl rfl (five_cells C7 _ _ _ _ _) ?_
          rw [← HP.out, HE3.out]
          exact ⟨B, cc, rfl, five_own (own_base hO7 (fun g hg => by have := own_lo hO7 hg; omega)) (own_ne hO7 C7 (by decide)) _ _ _ _ _, five_rd (HR.out.upd hU7 not_nob (fun _ _ => not_nob)) (by omega) (fun k hk e => by have := HS.out k hk; omega) _ _ _ _ _, five_updF (HU.out.trans hU7 (fun _ _ h => absurd h not_nob)) (Nat.lt_irrefl _) _ _ _ _ _⟩
    · have HE2 := hideP (show instR bad rest = (mkI ov acc, r, b) from by rw [EI.out, if_neg h1, HM.out, HN2.out])
      have hmle : manyI ov ≤ acc.length := by rw [HM.out]; omega
      have hl8 : acc.length ≤ 100000000 := by omega
      clear EI HN HN2 HM
      subst hal
      go_upto_region 19 with (go_at_call 55; refine (refi_any wr _ A c ov acc (Reads.of_own HOw.out) (fun b hb => own_blt HOw.out hb) hl8 (by omega) (by omega) hmle).mono ?_; rintro e w7 ⟨B, cc, rfl, hO7, hU7⟩; have C7 := HC.out.upd hU7 not_nob; have f0 := C7.frozen 0; have f1 := C7.frozen (0 + 1); have f2 := C7.frozen (0 + 2); have f3 := C7.frozen (0 + 3); have f4 := C7.frozen (0 + 4); have d0 := C7.cellv (i := 0) rfl; have d1 := C7.cellv (i := 0 + 1) rfl; have d2 := C7.cellv (i := 0 + 2) rfl; have d3 := C7.cellv (i := 0 + 3) rfl; have d4 := C7.cellv (i := 0 + 4) rfl)
      refine rdi_end _ _ _ _ _ _ _ _ _ rfl rfl (five_cells C7 _ _ _ _ _) ?_
      rw [← HP.out, HE2.out]
      exact ⟨B, cc, rfl, five_own (own_base hO7 (fun g hg => by have := own_lo hO7 hg; omega)) (own_ne hO7 C7 (by decide)) _ _ _ _ _, five_rd (HR.out.upd hU7 not_nob (fun _ _ => not_nob)) (by omega) (fun k hk e => by have := HS.out k hk; omega) _ _ _ _ _, five_updF (HU.out.trans hU7 (fun _ _ h => absurd h not_nob)) (Nat.lt_irrefl _) _ _ _ _ _⟩
end Go.Proofs.YtdbdokjlcdogiaaDoor
