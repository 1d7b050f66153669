/-
  RefMay, put together.
-/
import Derived.Test.YtdbdokjlcdogiaaDoorZRefRight

/-
  The walk of heronref09.may (printed by gen_refmay.py).
-/
namespace Go.Proofs.YtdbdokjlcdogiaaDoor
open Go.RowKit
set_option linter.unusedVariables false

set_option maxRecDepth 100000 in
set_option maxHeartbeats 8000000 in
theorem ref_may (w : World) (S : Nat → Prop) (op x y arg : Int) (rs : List (Int × Int)) (hI : In64I ⟨op, x, y, arg, rs⟩) (B : Option Addr) (m c : Nat) (hR : RangesR w S B m rs) (n : Nat) (caps : Int) :
    Calls Tryd.prog 56 #[.agg #[.int .i64 op, .int .i64 x, .int .i64 y, .int .i64 arg, .slice B m c], .int .i64 (n : Int), .int .i64 caps] w
      fun e w' => e = .returned (.bool (mayB ⟨op, x, y, arg, rs⟩ n caps)) ∧ Upd Nob w w' := by
  obtain rfl : rs.length = m := hR.len
  have hxi : In64 x := hI.ix
  have hyi : In64 y := hI.iy
  have x1 := hxi.1
  have x2 := hxi.2
  have C0 : Cells (w.alloc (.cells #[.int .i64 op, .int .i64 x, .int .i64 y, .int .i64 arg, .slice B rs.length c] 48)) w.heap.size 48 #[.int .i64 op, .int .i64 x, .int .i64 y, .int .i64 arg, .slice B rs.length c] := Cells.new _ _ _
  have hU0 : Upd Nob w (w.alloc (.cells #[.int .i64 op, .int .i64 x, .int .i64 y, .int .i64 arg, .slice B rs.length c] 48)) := (Upd.refl Nob w).alloc _
  have HR := hideP (hR.upd hU0 (fun _ _ => not_nob))
  clear hR hI
  go_enter Tryd.func56, Tryd.ntmps56
  go_upto_region 1 with fail
  generalize w.alloc (.cells #[.int .i64 op, .int .i64 x, .int .i64 y, .int .i64 arg, .slice B rs.length c] 48) = w1 at *
  have e4 : w1.cell? ⟨w.heap.size, 0 + 4, none⟩ = some (.slice B rs.length c) := C0.cellv rfl
  go_upto_region 2 with (go_at_call 61; refine (ref_right w1 S B rs.length c rs HR.out).mono ?_; rintro e w2 ⟨rfl, q, rfl⟩)
  have C2 := C0.drewN q
  have hU := hU0.drewN q
  clear C0 hU0 e4
  generalize w1.drewN q = w2 at *
  have e0 : w2.cell? ⟨w.heap.size, 0, none⟩ = some (.int .i64 op) := C2.cellv rfl
  have e1 : w2.cell? ⟨w.heap.size, 0 + 1, none⟩ = some (.int .i64 x) := C2.cellv rfl
  have e2 : w2.cell? ⟨w.heap.size, 0 + 2, none⟩ = some (.int .i64 y) := C2.cellv rfl
  have e3 : w2.cell? ⟨w.heap.size, 0 + 3, none⟩ = some (.int .i64 arg) := C2.cellv rfl
  have e4 : w2.cell? ⟨w.heap.size, 0 + 4, none⟩ = some (.slice B rs.length c) := C2.cellv rfl
  clear C2
  generalize w.heap.size = b at *
  go_cut [8] from 13 to 21 (fun v8 wc => v8 = .bool (thereB x n) ∧ w2 = wc)
  case first =>
    by_cases h0 : x < 0
    · have ht : thereB x n = false := decide_eq_false (by omega)
      have HT := hideP ht
      clear ht
      go_wp2_with fail
      go_meet
      exact ⟨by rw [HT.out], rfl⟩
    · by_cases h1 : x < n
      · have ht : thereB x n = true := decide_eq_true (by omega)
        have HT := hideP ht
        clear ht
        go_wp2_with fail
        go_meet
        exact ⟨by rw [HT.out], rfl⟩
      · have ht : thereB x n = false := decide_eq_false (by omega)
        have h2 : decide (x < (n : Int)) = false := decide_eq_false h1
        have HT := hideP ht
        clear ht
        go_wp2_with fail
        go_meet
        exact ⟨by rw [HT.out], rfl⟩
  case rest =>
  obtain ⟨rfl, rfl⟩ := hcut
  by_cases o1 : op = 1
  · subst o1
    rcases ht : thereB x n with _ | _
    · skip
      have hv : mayB ⟨1, x, y, arg, rs⟩ n caps = false := by simp [mayB, ht]
      have HV := hideP hv
      clear hv
      go_wp2_with fail
      go_ret
      exact ⟨congrArg Ending.returned (congrArg Value.bool (by first | exact HV.out.symm | (rw [HV.out]; first | done | (simp <;> omega)))), hU⟩
    by_cases hy : y = 0
    rotate_left
    · have hy1 : (y == 0) = false := by simpa using hy
      have hv : mayB ⟨1, x, y, arg, rs⟩ n caps = false := by simp [mayB, hy]
      have HV := hideP hv
      clear hv
      go_wp2_with fail
      go_ret
      exact ⟨congrArg Ending.returned (congrArg Value.bool (by first | exact HV.out.symm | (rw [HV.out]; first | done | (simp <;> omega)))), hU⟩
    subst hy
    by_cases ha : arg = 0
    rotate_left
    · have ha1 : (arg == 0) = false := by simpa using ha
      have hv : mayB ⟨1, x, 0, arg, rs⟩ n caps = false := by simp [mayB, ha]
      have HV := hideP hv
      clear hv
      go_wp2_with fail
      go_ret
      exact ⟨congrArg Ending.returned (congrArg Value.bool (by first | exact HV.out.symm | (rw [HV.out]; first | done | (simp <;> omega)))), hU⟩
    subst ha
    rcases hr : rightB rs with _ | _
    · skip
      have hv : mayB ⟨1, x, 0, 0, rs⟩ n caps = false := by simp [mayB, hr]
      have HV := hideP hv
      clear hv
      go_wp2_with fail
      go_ret
      exact ⟨congrArg Ending.returned (congrArg Value.bool (by first | exact HV.out.symm | (rw [HV.out]; first | done | (simp <;> omega)))), hU⟩
    by_cases hl : rs.length = 0
    · have hl1 : ¬ 0 < rs.length := by omega
      have hv : mayB ⟨1, x, 0, 0, rs⟩ n caps = false := by simp [mayB, hl]
      have HV := hideP hv
      clear hv
      go_wp2_with fail
      go_ret
      exact ⟨congrArg Ending.returned (congrArg Value.bool (by first | exact HV.out.symm | (rw [HV.out]; first | done | (simp <;> omega)))), hU⟩
    have hl1 : 0 < rs.length := by omega
    have hv : mayB ⟨1, x, 0, 0, rs⟩ n caps = true := by simp [mayB, ht, hr, hl1]
    have HV := hideP hv
    clear hv
    go_wp2_with fail
    go_ret
    exact ⟨congrArg Ending.returned (congrArg Value.bool (by first | exact HV.out.symm | (rw [HV.out]; first | done | (simp <;> omega)))), hU⟩
  by_cases o2 : op = 2
  · subst o2
    rcases ht : thereB x n with _ | _
    · skip
      have hv : mayB ⟨2, x, y, arg, rs⟩ n caps = false := by simp [mayB, ht]
      have HV := hideP hv
      clear hv
      go_wp2_with fail
      go_ret
      exact ⟨congrArg Ending.returned (congrArg Value.bool (by first | exact HV.out.symm | (rw [HV.out]; first | done | (simp <;> omega)))), hU⟩
    by_cases y1 : y < 0
    · have hs : thereB y n = false := decide_eq_false (by omega)
      have hv : mayB ⟨2, x, y, arg, rs⟩ n caps = false := by simp [mayB, hs]
      have HV := hideP hv
      clear hv
      go_wp2_with fail
      go_ret
      exact ⟨congrArg Ending.returned (congrArg Value.bool (by first | exact HV.out.symm | (rw [HV.out]; first | done | (simp <;> omega)))), hU⟩
    by_cases y2 : y < n
    rotate_left
    · have hs : thereB y n = false := decide_eq_false (by omega)
      have y3 : decide (y < (n : Int)) = false := decide_eq_false y2
      have hv : mayB ⟨2, x, y, arg, rs⟩ n caps = false := by simp [mayB, hs]
      have HV := hideP hv
      clear hv
      go_wp2_with fail
      go_ret
      exact ⟨congrArg Ending.returned (congrArg Value.bool (by first | exact HV.out.symm | (rw [HV.out]; first | done | (simp <;> omega)))), hU⟩
    have hs : thereB y n = true := decide_eq_true (by omega)
    have y3 : 0 ≤ y := by omega
    by_cases ha : arg = 0
    rotate_left
    · have ha1 : (arg == 0) = false := by simpa using ha
      have hv : mayB ⟨2, x, y, arg, rs⟩ n caps = false := by simp [mayB, ha]
      have HV := hideP hv
      clear hv
      go_wp2_with fail
      go_ret
      exact ⟨congrArg Ending.returned (congrArg Value.bool (by first | exact HV.out.symm | (rw [HV.out]; first | done | (simp <;> omega)))), hU⟩
    subst ha
    by_cases hl : rs.length = 0
    rotate_left
    · have hl1 : ((rs.length : Int) == 0) = false := beq_eq_false_iff_ne.2 (by omega)
      have hv : mayB ⟨2, x, y, 0, rs⟩ n caps = false := by simp [mayB, hl]
      have HV := hideP hv
      clear hv
      go_wp2_with fail
      go_ret
      exact ⟨congrArg Ending.returned (congrArg Value.bool (by first | exact HV.out.symm | (rw [HV.out]; first | done | (simp <;> omega)))), hU⟩
    have hl1 : ((rs.length : Int) == 0) = true := beq_iff_eq.2 (by omega)
    have hv : mayB ⟨2, x, y, 0, rs⟩ n caps = true := by simp [mayB, ht, hs, hl]
    have HV := hideP hv
    clear hv
    go_wp2_with fail
    go_ret
    exact ⟨congrArg Ending.returned (congrArg Value.bool (by first | exact HV.out.symm | (rw [HV.out]; first | done | (simp <;> omega)))), hU⟩
  by_cases o3 : op = 3
  · subst o3
    rcases ht : thereB x n with _ | _
    · skip
      have hv : mayB ⟨3, x, y, arg, rs⟩ n caps = false := by simp [mayB, ht]
      have HV := hideP hv
      clear hv
      go_wp2_with fail
      go_ret
      exact ⟨congrArg Ending.returned (congrArg Value.bool (by first | exact HV.out.symm | (rw [HV.out]; first | done | (simp <;> omega)))), hU⟩
    by_cases hy : y = 0
    rotate_left
    · have hy1 : (y == 0) = false := by simpa using hy
      have hv : mayB ⟨3, x, y, arg, rs⟩ n caps = false := by simp [mayB, hy]
      have HV := hideP hv
      clear hv
      go_wp2_with fail
      go_ret
      exact ⟨congrArg Ending.returned (congrArg Value.bool (by first | exact HV.out.symm | (rw [HV.out]; first | done | (simp <;> omega)))), hU⟩
    subst hy
    by_cases ha : 0 ≤ arg
    rotate_left
    · have ha1 : decide (0 ≤ arg) = false := decide_eq_false ha
      have hv : mayB ⟨3, x, 0, arg, rs⟩ n caps = false := by simp [mayB, ha]
      have HV := hideP hv
      clear hv
      go_wp2_with fail
      go_ret
      exact ⟨congrArg Ending.returned (congrArg Value.bool (by first | exact HV.out.symm | (rw [HV.out]; first | done | (simp <;> omega)))), hU⟩
    by_cases hb : arg < caps
    rotate_left
    · have hb1 : decide (arg < caps) = false := decide_eq_false hb
      have hv : mayB ⟨3, x, 0, arg, rs⟩ n caps = false := by simp [mayB, ha, hb]
      have HV := hideP hv
      clear hv
      go_wp2_with fail
      go_ret
      exact ⟨congrArg Ending.returned (congrArg Value.bool (by first | exact HV.out.symm | (rw [HV.out]; first | done | (simp <;> omega)))), hU⟩
    by_cases hl : rs.length = 0
    rotate_left
    · have hl1 : ((rs.length : Int) == 0) = false := beq_eq_false_iff_ne.2 (by omega)
      have hv : mayB ⟨3, x, 0, arg, rs⟩ n caps = false := by simp [mayB, hl]
      have HV := hideP hv
      clear hv
      go_wp2_with fail
      go_ret
      exact ⟨congrArg Ending.returned (congrArg Value.bool (by first | exact HV.out.symm | (rw [HV.out]; first | done | (simp <;> omega)))), hU⟩
    have hl1 : ((rs.length : Int) == 0) = true := beq_iff_eq.2 (by omega)
    have hv : mayB ⟨3, x, 0, arg, rs⟩ n caps = true := by simp [mayB, ht, ha, hb, hl]
    have HV := hideP hv
    clear hv
    go_wp2_with fail
    go_ret
    exact ⟨congrArg Ending.returned (congrArg Value.bool (by first | exact HV.out.symm | (rw [HV.out]; first | done | (simp <;> omega)))), hU⟩
  by_cases o4 : op = 4
  · subst o4
    by_cases a1 : arg = 1
    · subst a1
      rcases ht : thereB x n with _ | _
      · skip
        have hv : mayB ⟨4, x, y, 1, rs⟩ n caps = false := by simp [mayB, ht]
        have HV := hideP hv
        clear hv
        go_wp2_with fail
        go_ret
        exact ⟨congrArg Ending.returned (congrArg Value.bool (by first | exact HV.out.symm | (rw [HV.out]; first | done | (simp <;> omega)))), hU⟩
      by_cases hy : y = 0
      rotate_left
      · have hy1 : (y == 0) = false := by simpa using hy
        have hv : mayB ⟨4, x, y, 1, rs⟩ n caps = false := by simp [mayB, hy]
        have HV := hideP hv
        clear hv
        go_wp2_with fail
        go_ret
        exact ⟨congrArg Ending.returned (congrArg Value.bool (by first | exact HV.out.symm | (rw [HV.out]; first | done | (simp <;> omega)))), hU⟩
      subst hy
      by_cases hl : rs.length = 0
      rotate_left
      · have hl1 : ((rs.length : Int) == 0) = false := beq_eq_false_iff_ne.2 (by omega)
        have hv : mayB ⟨4, x, 0, 1, rs⟩ n caps = false := by simp [mayB, hl]
        have HV := hideP hv
        clear hv
        go_wp2_with fail
        go_ret
        exact ⟨congrArg Ending.returned (congrArg Value.bool (by first | exact HV.out.symm | (rw [HV.out]; first | done | (simp <;> omega)))), hU⟩
      have hl1 : ((rs.length : Int) == 0) = true := beq_iff_eq.2 (by omega)
      have hv : mayB ⟨4, x, 0, 1, rs⟩ n caps = true := by simp [mayB, edgeB, ht, hl]
      have HV := hideP hv
      clear hv
      go_wp2_with fail
      go_ret
      exact ⟨congrArg Ending.returned (congrArg Value.bool (by first | exact HV.out.symm | (rw [HV.out]; first | done | (simp <;> omega)))), hU⟩
    by_cases a2 : arg = 2
    · subst a2
      rcases ht : thereB x n with _ | _
      · skip
        have hv : mayB ⟨4, x, y, 2, rs⟩ n caps = false := by simp [mayB, ht]
        have HV := hideP hv
        clear hv
        go_wp2_with fail
        go_ret
        exact ⟨congrArg Ending.returned (congrArg Value.bool (by first | exact HV.out.symm | (rw [HV.out]; first | done | (simp <;> omega)))), hU⟩
      by_cases hy : y = 0
      rotate_left
      · have hy1 : (y == 0) = false := by simpa using hy
        have hv : mayB ⟨4, x, y, 2, rs⟩ n caps = false := by simp [mayB, hy]
        have HV := hideP hv
        clear hv
        go_wp2_with fail
        go_ret
        exact ⟨congrArg Ending.returned (congrArg Value.bool (by first | exact HV.out.symm | (rw [HV.out]; first | done | (simp <;> omega)))), hU⟩
      subst hy
      by_cases hl : rs.length = 0
      rotate_left
      · have hl1 : ((rs.length : Int) == 0) = false := beq_eq_false_iff_ne.2 (by omega)
        have hv : mayB ⟨4, x, 0, 2, rs⟩ n caps = false := by simp [mayB, hl]
        have HV := hideP hv
        clear hv
        go_wp2_with fail
        go_ret
        exact ⟨congrArg Ending.returned (congrArg Value.bool (by first | exact HV.out.symm | (rw [HV.out]; first | done | (simp <;> omega)))), hU⟩
      have hl1 : ((rs.length : Int) == 0) = true := beq_iff_eq.2 (by omega)
      have hv : mayB ⟨4, x, 0, 2, rs⟩ n caps = true := by simp [mayB, edgeB, ht, hl]
      have HV := hideP hv
      clear hv
      go_wp2_with fail
      go_ret
      exact ⟨congrArg Ending.returned (congrArg Value.bool (by first | exact HV.out.symm | (rw [HV.out]; first | done | (simp <;> omega)))), hU⟩
    by_cases a4 : arg = 4
    · subst a4
      rcases ht : thereB x n with _ | _
      · skip
        have hv : mayB ⟨4, x, y, 4, rs⟩ n caps = false := by simp [mayB, ht]
        have HV := hideP hv
        clear hv
        go_wp2_with fail
        go_ret
        exact ⟨congrArg Ending.returned (congrArg Value.bool (by first | exact HV.out.symm | (rw [HV.out]; first | done | (simp <;> omega)))), hU⟩
      by_cases hy : y = 0
      rotate_left
      · have hy1 : (y == 0) = false := by simpa using hy
        have hv : mayB ⟨4, x, y, 4, rs⟩ n caps = false := by simp [mayB, hy]
        have HV := hideP hv
        clear hv
        go_wp2_with fail
        go_ret
        exact ⟨congrArg Ending.returned (congrArg Value.bool (by first | exact HV.out.symm | (rw [HV.out]; first | done | (simp <;> omega)))), hU⟩
      subst hy
      by_cases hl : rs.length = 0
      rotate_left
      · have hl1 : ((rs.length : Int) == 0) = false := beq_eq_false_iff_ne.2 (by omega)
        have hv : mayB ⟨4, x, 0, 4, rs⟩ n caps = false := by simp [mayB, hl]
        have HV := hideP hv
        clear hv
        go_wp2_with fail
        go_ret
        exact ⟨congrArg Ending.returned (congrArg Value.bool (by first | exact HV.out.symm | (rw [HV.out]; first | done | (simp <;> omega)))), hU⟩
      have hl1 : ((rs.length : Int) == 0) = true := beq_iff_eq.2 (by omega)
      have hv : mayB ⟨4, x, 0, 4, rs⟩ n caps = true := by simp [mayB, edgeB, ht, hl]
      have HV := hideP hv
      clear hv
      go_wp2_with fail
      go_ret
      exact ⟨congrArg Ending.returned (congrArg Value.bool (by first | exact HV.out.symm | (rw [HV.out]; first | done | (simp <;> omega)))), hU⟩
    by_cases a8 : arg = 8
    · subst a8
      rcases ht : thereB x n with _ | _
      · skip
        have hv : mayB ⟨4, x, y, 8, rs⟩ n caps = false := by simp [mayB, ht]
        have HV := hideP hv
        clear hv
        go_wp2_with fail
        go_ret
        exact ⟨congrArg Ending.returned (congrArg Value.bool (by first | exact HV.out.symm | (rw [HV.out]; first | done | (simp <;> omega)))), hU⟩
      by_cases hy : y = 0
      rotate_left
      · have hy1 : (y == 0) = false := by simpa using hy
        have hv : mayB ⟨4, x, y, 8, rs⟩ n caps = false := by simp [mayB, hy]
        have HV := hideP hv
        clear hv
        go_wp2_with fail
        go_ret
        exact ⟨congrArg Ending.returned (congrArg Value.bool (by first | exact HV.out.symm | (rw [HV.out]; first | done | (simp <;> omega)))), hU⟩
      subst hy
      by_cases hl : rs.length = 0
      rotate_left
      · have hl1 : ((rs.length : Int) == 0) = false := beq_eq_false_iff_ne.2 (by omega)
        have hv : mayB ⟨4, x, 0, 8, rs⟩ n caps = false := by simp [mayB, hl]
        have HV := hideP hv
        clear hv
        go_wp2_with fail
        go_ret
        exact ⟨congrArg Ending.returned (congrArg Value.bool (by first | exact HV.out.symm | (rw [HV.out]; first | done | (simp <;> omega)))), hU⟩
      have hl1 : ((rs.length : Int) == 0) = true := beq_iff_eq.2 (by omega)
      have hv : mayB ⟨4, x, 0, 8, rs⟩ n caps = true := by simp [mayB, edgeB, ht, hl]
      have HV := hideP hv
      clear hv
      go_wp2_with fail
      go_ret
      exact ⟨congrArg Ending.returned (congrArg Value.bool (by first | exact HV.out.symm | (rw [HV.out]; first | done | (simp <;> omega)))), hU⟩
    by_cases a16 : arg = 16
    · subst a16
      rcases ht : thereB x n with _ | _
      · skip
        have hv : mayB ⟨4, x, y, 16, rs⟩ n caps = false := by simp [mayB, ht]
        have HV := hideP hv
        clear hv
        go_wp2_with fail
        go_ret
        exact ⟨congrArg Ending.returned (congrArg Value.bool (by first | exact HV.out.symm | (rw [HV.out]; first | done | (simp <;> omega)))), hU⟩
      by_cases hy : y = 0
      rotate_left
      · have hy1 : (y == 0) = false := by simpa using hy
        have hv : mayB ⟨4, x, y, 16, rs⟩ n caps = false := by simp [mayB, hy]
        have HV := hideP hv
        clear hv
        go_wp2_with fail
        go_ret
        exact ⟨congrArg Ending.returned (congrArg Value.bool (by first | exact HV.out.symm | (rw [HV.out]; first | done | (simp <;> omega)))), hU⟩
      subst hy
      by_cases hl : rs.length = 0
      rotate_left
      · have hl1 : ((rs.length : Int) == 0) = false := beq_eq_false_iff_ne.2 (by omega)
        have hv : mayB ⟨4, x, 0, 16, rs⟩ n caps = false := by simp [mayB, hl]
        have HV := hideP hv
        clear hv
        go_wp2_with fail
        go_ret
        exact ⟨congrArg Ending.returned (congrArg Value.bool (by first | exact HV.out.symm | (rw [HV.out]; first | done | (simp <;> omega)))), hU⟩
      have hl1 : ((rs.length : Int) == 0) = true := beq_iff_eq.2 (by omega)
      have hv : mayB ⟨4, x, 0, 16, rs⟩ n caps = true := by simp [mayB, edgeB, ht, hl]
      have HV := hideP hv
      clear hv
      go_wp2_with fail
      go_ret
      exact ⟨congrArg Ending.returned (congrArg Value.bool (by first | exact HV.out.symm | (rw [HV.out]; first | done | (simp <;> omega)))), hU⟩
    by_cases a32 : arg = 32
    · subst a32
      rcases ht : thereB x n with _ | _
      · skip
        have hv : mayB ⟨4, x, y, 32, rs⟩ n caps = false := by simp [mayB, ht]
        have HV := hideP hv
        clear hv
        go_wp2_with fail
        go_ret
        exact ⟨congrArg Ending.returned (congrArg Value.bool (by first | exact HV.out.symm | (rw [HV.out]; first | done | (simp <;> omega)))), hU⟩
      by_cases hy : y = 0
      rotate_left
      · have hy1 : (y == 0) = false := by simpa using hy
        have hv : mayB ⟨4, x, y, 32, rs⟩ n caps = false := by simp [mayB, hy]
        have HV := hideP hv
        clear hv
        go_wp2_with fail
        go_ret
        exact ⟨congrArg Ending.returned (congrArg Value.bool (by first | exact HV.out.symm | (rw [HV.out]; first | done | (simp <;> omega)))), hU⟩
      subst hy
      by_cases hl : rs.length = 0
      rotate_left
      · have hl1 : ((rs.length : Int) == 0) = false := beq_eq_false_iff_ne.2 (by omega)
        have hv : mayB ⟨4, x, 0, 32, rs⟩ n caps = false := by simp [mayB, hl]
        have HV := hideP hv
        clear hv
        go_wp2_with fail
        go_ret
        exact ⟨congrArg Ending.returned (congrArg Value.bool (by first | exact HV.out.symm | (rw [HV.out]; first | done | (simp <;> omega)))), hU⟩
      have hl1 : ((rs.length : Int) == 0) = true := beq_iff_eq.2 (by omega)
      have hv : mayB ⟨4, x, 0, 32, rs⟩ n caps = true := by simp [mayB, edgeB, ht, hl]
      have HV := hideP hv
      clear hv
      go_wp2_with fail
      go_ret
      exact ⟨congrArg Ending.returned (congrArg Value.bool (by first | exact HV.out.symm | (rw [HV.out]; first | done | (simp <;> omega)))), hU⟩
    have f1 : (arg == 1) = false := by simpa using a1
    have f2 : (arg == 2) = false := by simpa using a2
    have f4 : (arg == 4) = false := by simpa using a4
    have f8 : (arg == 8) = false := by simpa using a8
    have f16 : (arg == 16) = false := by simpa using a16
    have f32 : (arg == 32) = false := by simpa using a32
    rcases ht : thereB x n with _ | _
    · skip
      have hv : mayB ⟨4, x, y, arg, rs⟩ n caps = false := by simp [mayB, ht]
      have HV := hideP hv
      clear hv
      go_wp2_with fail
      go_ret
      exact ⟨congrArg Ending.returned (congrArg Value.bool (by first | exact HV.out.symm | (rw [HV.out]; first | done | (simp <;> omega)))), hU⟩
    by_cases hy : y = 0
    rotate_left
    · have hy1 : (y == 0) = false := by simpa using hy
      have hv : mayB ⟨4, x, y, arg, rs⟩ n caps = false := by simp [mayB, hy]
      have HV := hideP hv
      clear hv
      go_wp2_with fail
      go_ret
      exact ⟨congrArg Ending.returned (congrArg Value.bool (by first | exact HV.out.symm | (rw [HV.out]; first | done | (simp <;> omega)))), hU⟩
    subst hy
    have hv : mayB ⟨4, x, 0, arg, rs⟩ n caps = false := by simp [mayB, edgeB, a1, a2, a4, a8, a16, a32]
    have HV := hideP hv
    clear hv
    go_wp2_with fail
    go_ret
    exact ⟨congrArg Ending.returned (congrArg Value.bool (by first | exact HV.out.symm | (rw [HV.out]; first | done | (simp <;> omega)))), hU⟩
  by_cases o5 : op = 5
  · subst o5
    by_cases hx : x = 0
    rotate_left
    · have hx1 : (x == 0) = false := by simpa using hx
      have hv : mayB ⟨5, x, y, arg, rs⟩ n caps = false := by simp [mayB, hx]
      have HV := hideP hv
      clear hv
      go_wp2_with fail
      go_ret
      exact ⟨congrArg Ending.returned (congrArg Value.bool (by first | exact HV.out.symm | (rw [HV.out]; first | done | (simp <;> omega)))), hU⟩
    subst hx
    by_cases hy : y = 0
    rotate_left
    · have hy1 : (y == 0) = false := by simpa using hy
      have hv : mayB ⟨5, 0, y, arg, rs⟩ n caps = false := by simp [mayB, hy]
      have HV := hideP hv
      clear hv
      go_wp2_with fail
      go_ret
      exact ⟨congrArg Ending.returned (congrArg Value.bool (by first | exact HV.out.symm | (rw [HV.out]; first | done | (simp <;> omega)))), hU⟩
    subst hy
    by_cases ha : 0 ≤ arg
    rotate_left
    · have ha1 : decide (0 ≤ arg) = false := decide_eq_false ha
      have hv : mayB ⟨5, 0, 0, arg, rs⟩ n caps = false := by simp [mayB, ha]
      have HV := hideP hv
      clear hv
      go_wp2_with fail
      go_ret
      exact ⟨congrArg Ending.returned (congrArg Value.bool (by first | exact HV.out.symm | (rw [HV.out]; first | done | (simp <;> omega)))), hU⟩
    by_cases hb : arg < 100
    rotate_left
    · have hb1 : decide (arg < 100) = false := decide_eq_false hb
      have hv : mayB ⟨5, 0, 0, arg, rs⟩ n caps = false := by simp [mayB, ha, hb]
      have HV := hideP hv
      clear hv
      go_wp2_with fail
      go_ret
      exact ⟨congrArg Ending.returned (congrArg Value.bool (by first | exact HV.out.symm | (rw [HV.out]; first | done | (simp <;> omega)))), hU⟩
    by_cases hl : rs.length = 0
    rotate_left
    · have hl1 : ((rs.length : Int) == 0) = false := beq_eq_false_iff_ne.2 (by omega)
      have hv : mayB ⟨5, 0, 0, arg, rs⟩ n caps = false := by simp [mayB, hl]
      have HV := hideP hv
      clear hv
      go_wp2_with fail
      go_ret
      exact ⟨congrArg Ending.returned (congrArg Value.bool (by first | exact HV.out.symm | (rw [HV.out]; first | done | (simp <;> omega)))), hU⟩
    have hl1 : ((rs.length : Int) == 0) = true := beq_iff_eq.2 (by omega)
    have hv : mayB ⟨5, 0, 0, arg, rs⟩ n caps = true := by simp [mayB, ha, hb, hl]
    have HV := hideP hv
    clear hv
    go_wp2_with fail
    go_ret
    exact ⟨congrArg Ending.returned (congrArg Value.bool (by first | exact HV.out.symm | (rw [HV.out]; first | done | (simp <;> omega)))), hU⟩
  by_cases o6 : op = 6
  · subst o6
    by_cases hx : x = 0
    rotate_left
    · have hx1 : (x == 0) = false := by simpa using hx
      have hv : mayB ⟨6, x, y, arg, rs⟩ n caps = false := by simp [mayB, hx]
      have HV := hideP hv
      clear hv
      go_wp2_with fail
      go_ret
      exact ⟨congrArg Ending.returned (congrArg Value.bool (by first | exact HV.out.symm | (rw [HV.out]; first | done | (simp <;> omega)))), hU⟩
    subst hx
    by_cases hy : y = 0
    rotate_left
    · have hy1 : (y == 0) = false := by simpa using hy
      have hv : mayB ⟨6, 0, y, arg, rs⟩ n caps = false := by simp [mayB, hy]
      have HV := hideP hv
      clear hv
      go_wp2_with fail
      go_ret
      exact ⟨congrArg Ending.returned (congrArg Value.bool (by first | exact HV.out.symm | (rw [HV.out]; first | done | (simp <;> omega)))), hU⟩
    subst hy
    by_cases ha : arg = 0
    rotate_left
    · have ha1 : (arg == 0) = false := by simpa using ha
      have hv : mayB ⟨6, 0, 0, arg, rs⟩ n caps = false := by simp [mayB, ha]
      have HV := hideP hv
      clear hv
      go_wp2_with fail
      go_ret
      exact ⟨congrArg Ending.returned (congrArg Value.bool (by first | exact HV.out.symm | (rw [HV.out]; first | done | (simp <;> omega)))), hU⟩
    subst ha
    by_cases hl : rs.length = 0
    rotate_left
    · have hl1 : ((rs.length : Int) == 0) = false := beq_eq_false_iff_ne.2 (by omega)
      have hv : mayB ⟨6, 0, 0, 0, rs⟩ n caps = false := by simp [mayB, hl]
      have HV := hideP hv
      clear hv
      go_wp2_with fail
      go_ret
      exact ⟨congrArg Ending.returned (congrArg Value.bool (by first | exact HV.out.symm | (rw [HV.out]; first | done | (simp <;> omega)))), hU⟩
    have hl1 : ((rs.length : Int) == 0) = true := beq_iff_eq.2 (by omega)
    have hv : mayB ⟨6, 0, 0, 0, rs⟩ n caps = true := by simp [mayB, hl]
    have HV := hideP hv
    clear hv
    go_wp2_with fail
    go_ret
    exact ⟨congrArg Ending.returned (congrArg Value.bool (by first | exact HV.out.symm | (rw [HV.out]; first | done | (simp <;> omega)))), hU⟩
  by_cases o7 : op = 7
  · subst o7
    rcases ht : thereB x n with _ | _
    · skip
      have hv : mayB ⟨7, x, y, arg, rs⟩ n caps = false := by simp [mayB, ht]
      have HV := hideP hv
      clear hv
      go_wp2_with fail
      go_ret
      exact ⟨congrArg Ending.returned (congrArg Value.bool (by first | exact HV.out.symm | (rw [HV.out]; first | done | (simp <;> omega)))), hU⟩
    by_cases hy : y = 0
    rotate_left
    · have hy1 : (y == 0) = false := by simpa using hy
      have hv : mayB ⟨7, x, y, arg, rs⟩ n caps = false := by simp [mayB, hy]
      have HV := hideP hv
      clear hv
      go_wp2_with fail
      go_ret
      exact ⟨congrArg Ending.returned (congrArg Value.bool (by first | exact HV.out.symm | (rw [HV.out]; first | done | (simp <;> omega)))), hU⟩
    subst hy
    by_cases ha : arg = 0
    rotate_left
    · have ha1 : (arg == 0) = false := by simpa using ha
      have hv : mayB ⟨7, x, 0, arg, rs⟩ n caps = false := by simp [mayB, ha]
      have HV := hideP hv
      clear hv
      go_wp2_with fail
      go_ret
      exact ⟨congrArg Ending.returned (congrArg Value.bool (by first | exact HV.out.symm | (rw [HV.out]; first | done | (simp <;> omega)))), hU⟩
    subst ha
    by_cases hl : rs.length = 0
    rotate_left
    · have hl1 : ((rs.length : Int) == 0) = false := beq_eq_false_iff_ne.2 (by omega)
      have hv : mayB ⟨7, x, 0, 0, rs⟩ n caps = false := by simp [mayB, hl]
      have HV := hideP hv
      clear hv
      go_wp2_with fail
      go_ret
      exact ⟨congrArg Ending.returned (congrArg Value.bool (by first | exact HV.out.symm | (rw [HV.out]; first | done | (simp <;> omega)))), hU⟩
    have hl1 : ((rs.length : Int) == 0) = true := beq_iff_eq.2 (by omega)
    have hv : mayB ⟨7, x, 0, 0, rs⟩ n caps = true := by simp [mayB, ht, hl]
    have HV := hideP hv
    clear hv
    go_wp2_with fail
    go_ret
    exact ⟨congrArg Ending.returned (congrArg Value.bool (by first | exact HV.out.symm | (rw [HV.out]; first | done | (simp <;> omega)))), hU⟩
  have o1b : (op == 1) = false := by simpa using o1
  have o2b : (op == 2) = false := by simpa using o2
  have o3b : (op == 3) = false := by simpa using o3
  have o4b : (op == 4) = false := by simpa using o4
  have o5b : (op == 5) = false := by simpa using o5
  have o6b : (op == 6) = false := by simpa using o6
  have o7b : (op == 7) = false := by simpa using o7
  have hv : mayB ⟨op, x, y, arg, rs⟩ n caps = false := by simp [mayB, o1, o2, o3, o4, o5, o6, o7]
  have HV := hideP hv
  clear hv
  go_wp2_with fail
  go_ret
  exact ⟨congrArg Ending.returned (congrArg Value.bool (by first | exact HV.out.symm | (rw [HV.out]; first | done | (simp <;> omega)))), hU⟩
end Go.Proofs.YtdbdokjlcdogiaaDoor
