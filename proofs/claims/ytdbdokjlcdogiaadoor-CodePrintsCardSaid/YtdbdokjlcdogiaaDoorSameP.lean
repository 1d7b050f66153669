/-
  The walk of heronref10.Same on two programs that are the same.
-/
import Derived.Test.YtdbdokjlcdogiaaDoorKept
namespace Go.Proofs.YtdbdokjlcdogiaaDoor
open Go.RowKit
set_option linter.unusedVariables false

set_option maxRecDepth 100000 in
set_option maxHeartbeats 4000000 in
theorem sameProg_any (w : World) (S1 S2 : Nat → Prop) (A1 A2 : Option Addr) (n c1 c2 : Nat) (is : List PInst) (start caps : Int) (h1 : InstsR w S1 A1 n is) (h2 : InstsR w S2 A2 n is) (hn : n ≤ 140737488355328) :
    Calls Tryd.prog 11 #[.agg #[.slice A1 n c1, .int .i64 start, .int .i64 caps], .agg #[.slice A2 n c2, .int .i64 start, .int .i64 caps]] w fun e w' => e = .returned (.bool true) ∧ Upd Nob w w' := by
  obtain rfl : is.length = n := h1.len
  have C0 : Cells ((w.alloc (.cells #[.slice A1 is.length c1, .int .i64 start, .int .i64 caps] 24)).alloc (.cells #[.slice A2 is.length c2, .int .i64 start, .int .i64 caps] 24)) w.heap.size 24 #[.slice A1 is.length c1, .int .i64 start, .int .i64 caps] := (Cells.new _ _ _).alloc _
  have C1 := Cells.new (w.alloc (.cells #[.slice A1 is.length c1, .int .i64 start, .int .i64 caps] 24)) 24 #[.slice A2 is.length c2, .int .i64 start, .int .i64 caps]
  rw [World.size_alloc] at C1
  have hU := ((Upd.refl Nob w).alloc (.cells #[.slice A1 is.length c1, .int .i64 start, .int .i64 caps] 24)).alloc (.cells #[.slice A2 is.length c2, .int .i64 start, .int .i64 caps] 24)
  have H1 := hideP (h1.upd hU (fun _ _ => not_nob))
  have H2 := hideP (h2.upd hU (fun _ _ => not_nob))
  clear h1 h2
  go_enter Tryd.func11, Tryd.ntmps11
  go_upto_region 1 with fail
  generalize ((w.alloc (.cells #[.slice A1 is.length c1, .int .i64 start, .int .i64 caps] 24)).alloc (.cells #[.slice A2 is.length c2, .int .i64 start, .int .i64 caps] 24)) = w2 at *
  have HC0 := hideP C0
  have HC1 := hideP C1
  have HU := hideP hU
  have e0 : w2.cell? ⟨w.heap.size, 0, none⟩ = some (.slice A1 is.length c1) := C0.cellv rfl
  have e1 : w2.cell? ⟨w.heap.size, 0 + 1, none⟩ = some (.int .i64 start) := C0.cellv rfl
  have e2 : w2.cell? ⟨w.heap.size, 0 + 2, none⟩ = some (.int .i64 caps) := C0.cellv rfl
  have d0 : w2.cell? ⟨w.heap.size + 1, 0, none⟩ = some (.slice A2 is.length c2) := C1.cellv rfl
  have d1 : w2.cell? ⟨w.heap.size + 1, 0 + 1, none⟩ = some (.int .i64 start) := C1.cellv rfl
  have d2 : w2.cell? ⟨w.heap.size + 1, 0 + 2, none⟩ = some (.int .i64 caps) := C1.cellv rfl
  clear C0 C1 hU
  go_wp2_with fail
  go_loopg [5] is.length (fun gk v5 wr => ∃ k : Nat, k + gk = is.length ∧ v5 = .int .i64 (k : Int) ∧ Upd Nob w2 wr)
  case atStart => exact ⟨0, by omega, rfl, Upd.refl _ _⟩
  case round =>
    obtain ⟨k, hk, rfl, hU⟩ := hrel
    have b0 : wr.cell? ⟨w.heap.size, 0, none⟩ = some (.slice A1 is.length c1) := (HC0.out.upd hU not_nob).cellv rfl
    have b1 : wr.cell? ⟨w.heap.size + 1, 0, none⟩ = some (.slice A2 is.length c2) := (HC1.out.upd hU not_nob).cellv rfl
    by_cases hlt : k < is.length
    · obtain ⟨ad, g, o, x, B, m, cc, rfl, hx, hadd, -, hg, hR, hI, p0, p1, p2, p3, p4⟩ := (H1.out.upd hU (fun _ _ => not_nob)).at1 hlt
      obtain ⟨ad', g', o', x', B', m', cc', rfl, hx', hadd', -, hg', hR', hI', q0, q1, q2, q3, q4⟩ := (H2.out.upd hU (fun _ _ => not_nob)).at1 hlt
      rw [hx] at hx'
      injection hx' with hx'
      subst hx'
      obtain ⟨op, xx, yy, arg, rs⟩ := x
      simp only at p0 p1 p2 p3 q0 q1 q2 q3 hR hR'
      obtain rfl : rs.length = m := hR.len
      obtain rfl : rs.length = m' := hR'.len
      have hrn := hR.n
      have kl : (k : Int) < (is.length : Int) := by omega
      have CX := Cells.new wr 48 #[.int .i64 op, .int .i64 xx, .int .i64 yy, .int .i64 arg, .slice B rs.length cc]
      have CY := Cells.new (wr.alloc (.cells #[.int .i64 op, .int .i64 xx, .int .i64 yy, .int .i64 arg, .slice B rs.length cc] 48)) 48 #[.int .i64 op, .int .i64 xx, .int .i64 yy, .int .i64 arg, .slice B' rs.length cc']
      rw [World.size_alloc] at CY
      have CX2 := CX.alloc (.cells #[.int .i64 op, .int .i64 xx, .int .i64 yy, .int .i64 arg, .slice B' rs.length cc'] 48)
      have hUa := ((Upd.refl Nob wr).alloc (.cells #[.int .i64 op, .int .i64 xx, .int .i64 yy, .int .i64 arg, .slice B rs.length cc] 48)).alloc (.cells #[.int .i64 op, .int .i64 xx, .int .i64 yy, .int .i64 arg, .slice B' rs.length cc'] 48)
      have far : ∀ (a : Addr) v, wr.cell? a = some v → (wr.alloc (.cells #[.int .i64 op, .int .i64 xx, .int .i64 yy, .int .i64 arg, .slice B rs.length cc] 48)).cell? a = some v := fun a v ha => (World.cell?_of_block (Below.heap_alloc _ _ _ (World.block_lt_of_cell? _ _ ha))).trans ha
      have q0' := far _ _ q0
      have q1' := far _ _ q1
      have q2' := far _ _ q2
      have q3' := far _ _ q3
      have q4' := far _ _ q4
      have b1' := far _ _ b1
      have HX := hideP hx
      clear far hx CX
      go_upto_region 8 with fail
      generalize ((wr.alloc (.cells #[.int .i64 op, .int .i64 xx, .int .i64 yy, .int .i64 arg, .slice B rs.length cc] 48)).alloc (.cells #[.int .i64 op, .int .i64 xx, .int .i64 yy, .int .i64 arg, .slice B' rs.length cc'] 48)) = w4 at *
      have hRa := hideP (hR.upd hUa (fun _ _ => not_nob))
      have hRa' := hideP (hR'.upd hUa (fun _ _ => not_nob))
      have HUa := hideP (hU.trans hUa (fun _ _ h => h))
      generalize wr.heap.size = xb at *
      have l0 : w4.cell? ⟨xb, 0, none⟩ = some (.int .i64 op) := CX2.cellv rfl
      have l1 : w4.cell? ⟨xb, 0 + 1, none⟩ = some (.int .i64 xx) := CX2.cellv rfl
      have l2 : w4.cell? ⟨xb, 0 + 2, none⟩ = some (.int .i64 yy) := CX2.cellv rfl
      have l3 : w4.cell? ⟨xb, 0 + 3, none⟩ = some (.int .i64 arg) := CX2.cellv rfl
      have l4 : w4.cell? ⟨xb, 0 + 4, none⟩ = some (.slice B rs.length cc) := CX2.cellv rfl
      have n0 : w4.cell? ⟨xb + 1, 0, none⟩ = some (.int .i64 op) := CY.cellv rfl
      have n1 : w4.cell? ⟨xb + 1, 0 + 1, none⟩ = some (.int .i64 xx) := CY.cellv rfl
      have n2 : w4.cell? ⟨xb + 1, 0 + 2, none⟩ = some (.int .i64 yy) := CY.cellv rfl
      have n3 : w4.cell? ⟨xb + 1, 0 + 3, none⟩ = some (.int .i64 arg) := CY.cellv rfl
      have n4 : w4.cell? ⟨xb + 1, 0 + 4, none⟩ = some (.slice B' rs.length cc') := CY.cellv rfl
      clear q0 q1 q2 q3 q4 q0' q1' q2' q3' q4' p0 p1 p2 p3 p4 b0 b1 b1' hadd hadd' hg hg' hR hR' hU hUa CX2 CY
      have HK := hideP hk
      clear hk
      go_wp2_with fail
      go_loopg [8] rs.length (fun gk v8 wq => ∃ j q : Nat, j + gk = rs.length ∧ v8 = .int .i64 (j : Int) ∧ wq = w4.drewN q)
      case atStart => exact ⟨0, 0, by omega, rfl, rfl⟩
      case round =>
        obtain ⟨j, q, hj, rfl, rfl⟩ := hrel
        by_cases hjl : j < rs.length
        · obtain ⟨bd, y, gg, oo, rfl, hy, -, -, hadd1, r0, r1, -⟩ := hRa.out.at1 hjl
          obtain ⟨bd', y', gg', oo', rfl, hy', -, -, hadd2, s0, s1, -⟩ := hRa'.out.at1 hjl
          rw [hy] at hy'
          injection hy' with hy'
          subst hy'
          have jl : (j : Int) < (rs.length : Int) := by omega
          clear hy
          go_wp2_with fail
          go_quiet (fail)
          go_wp2_with fail
          go_roundg (rs.length - (j + 1))
          case measure => omega
          case rel => exact ⟨j + 1, _, by omega, by go_num, by first | rfl | exact World.drewN_drewN _ _ _⟩
        · have jl : ¬ (j : Int) < (rs.length : Int) := by omega
          go_wp2_with fail
          have hk := HK.out
          go_roundg (is.length - (k + 1))
          case measure => omega
          case rel => exact ⟨k + 1, by omega, by go_num, HUa.out.drewN q⟩
    · have hkn : k = is.length := by omega
      clear hk
      subst hkn
      go_wp2_with fail
      go_ret
      exact ⟨rfl, HU.out.trans hU (fun _ _ h => h)⟩
end Go.Proofs.YtdbdokjlcdogiaaDoor
