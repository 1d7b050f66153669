/-
  Kept, SameP, Apart, put together.
-/
import Derived.Test.YtdbdokjlcdogiaaDoorZ28Lend
import Derived.Test.YtdbdokjlcdogiaaDoorZ19RefJT

/-
  The walks of heronlaw10.Kept, heronref09.Same.
-/
namespace Go.Proofs.YtdbdokjlcdogiaaDoor
open Go.RowKit
set_option linter.unusedVariables false

/-- a lent program with its marks -/
structure LentM (w : World) (base ga : Nat) (is : List PInst) (gr : Nat → Nat) (cs : Array Value) : Prop where
  l : LendR w base ga is gr cs is.length
  m1 : cs[is.length * 5]? = some (.int .i64 (-77))
theorem LentM.upd {F : Nat → Prop} {w w' : World} {base ga : Nat} {is : List PInst} {gr : Nat → Nat} {cs : Array Value} (h : LentM w base ga is gr cs) (hU : Upd F w w') (ha : ¬ F ga) (hr : ∀ i, i < is.length → ¬ F (gr i)) : LentM w' base ga is gr cs :=
  ⟨h.l.upd (Nat.le_refl _) hU ha hr, h.m1⟩
theorem LentM.old {F : Nat → Prop} {w w' : World} {base ga : Nat} {is : List PInst} {gr : Nat → Nat} {cs : Array Value} (h : LentM w base ga is gr cs) (hU : Upd F w w') (hF : ∀ b, b < w.heap.size → ¬ F b) : LentM w' base ga is gr cs :=
  ⟨h.l.old (Nat.le_refl _) hU hF, h.m1⟩

set_option maxHeartbeats 2000000 in
theorem keptProg_any (w : World) (base ga : Nat) (is : List PInst) (gr : Nat → Nat) (cs : Array Value) (start caps : Int) (h : LentM w base ga is gr cs) (hnb : is.length * 56 ≤ 140737488351232)
    (hI : ∀ x ∈ is, x.rs.length * 16 ≤ 140737488351232) :
    Calls Tryd.prog 12 #[.agg #[.slice (some ⟨ga, 0, none⟩) is.length (is.length + 1), .int .i64 start, .int .i64 caps]] w fun e w' => e = .returned (.bool true) ∧ Upd Nob w w' := by
  have HI := hideP hI
  have C0 : Cells (w.alloc (.cells #[.slice (some ⟨ga, 0, none⟩) is.length (is.length + 1), .int .i64 start, .int .i64 caps] 24)) w.heap.size 24 #[.slice (some ⟨ga, 0, none⟩) is.length (is.length + 1), .int .i64 start, .int .i64 caps] := Cells.new _ _ _
  have hU := (Upd.refl Nob w).alloc (.cells #[.slice (some ⟨ga, 0, none⟩) is.length (is.length + 1), .int .i64 start, .int .i64 caps] 24)
  have hM := h.old hU (fun _ _ => not_nob)
  clear h hI
  go_enter Tryd.func12, Tryd.ntmps12
  go_upto_region 1 with fail
  generalize w.alloc (.cells #[.slice (some ⟨ga, 0, none⟩) is.length (is.length + 1), .int .i64 start, .int .i64 caps] 24) = w2 at *
  have e0 : w2.cell? ⟨w.heap.size, 0, none⟩ = some (.slice (some ⟨ga, 0, none⟩) is.length (is.length + 1)) := C0.cellv rfl
  have m1 : w2.cell? ⟨ga, is.length * 5, none⟩ = some (.int .i64 (-77)) := hM.l.blk.cellv hM.m1
  have k1 : (is.length : Int) < (is.length : Int) + 1 := by omega
  have HM := hideP hM
  have HU := hideP hU
  have kw : IntKind.i64.wrap ((is.length : Int) + 1) = (is.length : Int) + 1 := by rw [IntKind.wrap_i64]; omega
  have kle : (is.length : Int) + 1 ≤ (is.length : Int) + 1 := by omega
  clear hM hU C0
  go_wp2_with fail
  go_loopg [4] is.length (fun gk v4 wr => ∃ k : Nat, k + gk = is.length ∧ v4 = .int .i64 (k : Int) ∧ w2 = wr)
  case atStart => exact ⟨0, by omega, rfl, rfl⟩
  case round =>
    obtain ⟨k, hk, rfl, rfl⟩ := hrel
    by_cases hlt : k < is.length
    · obtain ⟨x, hx⟩ : ∃ x, is[k]? = some x := ⟨_, List.getElem?_eq_getElem hlt⟩
      obtain ⟨h1, h2⟩ := HM.out.l.done k x hlt hx
      have hmx := HI.out x (List.mem_of_getElem? hx)
      have c4 : w2.cell? ⟨ga, k * 5 + 4, none⟩ = some (.slice (some ⟨gr k, 0, none⟩) x.rs.length (x.rs.length + 1)) := HM.out.l.blk.cellv (h1 4 _ rfl)
      have r1 := lent_marks rfl h2
      have kl : (k : Int) < (is.length : Int) := by omega
      have kl2 : (k : Int) < (is.length : Int) + 1 := by omega
      have kr : (x.rs.length : Int) < (x.rs.length : Int) + 1 := by omega
      have kw2 : IntKind.i64.wrap ((x.rs.length : Int) + 1) = (x.rs.length : Int) + 1 := by rw [IntKind.wrap_i64]; omega
      clear hx h1 h2
      go_wp2_with fail
      go_roundg (is.length - (k + 1))
      case measure => omega
      case rel => exact ⟨k + 1, by omega, by go_num, rfl⟩
    · have hkn : k = is.length := by omega
      clear hk
      subst hkn
      go_wp2_with fail
      go_ret
      exact ⟨rfl, HU.out⟩
end Go.Proofs.YtdbdokjlcdogiaaDoor

/-
  The walk of heronref10.Same on two programs that are the same.
-/
namespace Go.Proofs.YtdbdokjlcdogiaaDoor
open Go.RowKit
set_option linter.unusedVariables false

set_option maxRecDepth 100000 in
set_option maxHeartbeats 4000000 in
theorem sameProg_any (w : World) (S1 S2 : Nat → Prop) (A1 A2 : Option Addr) (n c1 c2 : Nat) (is : List PInst) (start caps : Int) (h1 : InstsR w S1 A1 n is) (h2 : InstsR w S2 A2 n is) (hn : n ≤ 140737488355328) :
    Calls Tryd.prog 11 #[.agg #[.slice A1 n c1, .int .i64 start, .int .i64 caps], .agg #[.slice A2 n c2, .int .i64 start, .int .i64 caps]] w fun e w' => e = .returned (.bool true) ∧ Upd Nob w w' := by
  obtain rfl : is.length = n := h1.len
  have C0 : Cells ((w.alloc (.cells #[.slice A1 is.length c1, .int .i64 start, .int .i64 caps] 24)).alloc (.cells #[.slice A2 is.length c2, .int .i64 start, .int .i64 caps] 24)) w.heap.size 24 #[.slice A1 is.length c1, .int .i64 start, .int .i64 caps] := (Cells.new _ _ _).alloc _
  have C1 := Cells.new (w.alloc (.cells #[.slice A1 is.length c1, .int .i64 start, .int .i64 caps] 24)) 24 #[.slice A2 is.length c2, .int .i64 start, .int .i64 caps]
  rw [World.size_alloc] at C1
  have hU := ((Upd.refl Nob w).alloc (.cells #[.slice A1 is.length c1, .int .i64 start, .int .i64 caps] 24)).alloc (.cells #[.slice A2 is.length c2, .int .i64 start, .int .i64 caps] 24)
  have H1 := hideP (h1.upd hU (fun _ _ => not_nob))
  have H2 := hideP (h2.upd hU (fun _ _ => not_nob))
  clear h1 h2
  go_enter Tryd.func11, Tryd.ntmps11
  go_upto_region 1 with fail
  generalize ((w.alloc (.cells #[.slice A1 is.length c1, .int .i64 start, .int .i64 caps] 24)).alloc (.cells #[.slice A2 is.length c2, .int .i64 start, .int .i64 caps] 24)) = w2 at *
  have HC0 := hideP C0
  have HC1 := hideP C1
  have HU := hideP hU
  have e0 : w2.cell? ⟨w.heap.size, 0, none⟩ = some (.slice A1 is.length c1) := C0.cellv rfl
  have e1 : w2.cell? ⟨w.heap.size, 0 + 1, none⟩ = some (.int .i64 start) := C0.cellv rfl
  have e2 : w2.cell? ⟨w.heap.size, 0 + 2, none⟩ = some (.int .i64 caps) := C0.cellv rfl
  have d0 : w2.cell? ⟨w.heap.size + 1, 0, none⟩ = some (.slice A2 is.length c2) := C1.cellv rfl
  have d1 : w2.cell? ⟨w.heap.size + 1, 0 + 1, none⟩ = some (.int .i64 start) := C1.cellv rfl
  have d2 : w2.cell? ⟨w.heap.size + 1, 0 + 2, none⟩ = some (.int .i64 caps) := C1.cellv rfl
  clear C0 C1 hU
  go_wp2_with fail
  go_loopg [5] is.length (fun gk v5 wr => ∃ k : Nat, k + gk = is.length ∧ v5 = .int .i64 (k : Int) ∧ Upd Nob w2 wr)
  case atStart => exact ⟨0, by omega, rfl, Upd.refl _ _⟩
  case round =>
    obtain ⟨k, hk, rfl, hU⟩ := hrel
    have b0 : wr.cell? ⟨w.heap.size, 0, none⟩ = some (.slice A1 is.length c1) := (HC0.out.upd hU not_nob).cellv rfl
    have b1 : wr.cell? ⟨w.heap.size + 1, 0, none⟩ = some (.slice A2 is.length c2) := (HC1.out.upd hU not_nob).cellv rfl
    by_cases hlt : k < is.length
    · obtain ⟨ad, g, o, x, B, m, cc, rfl, hx, hadd, -, hg, hR, hI, p0, p1, p2, p3, p4⟩ := (H1.out.upd hU (fun _ _ => not_nob)).at1 hlt
      obtain ⟨ad', g', o', x', B', m', cc', rfl, hx', hadd', -, hg', hR', hI', q0, q1, q2, q3, q4⟩ := (H2.out.upd hU (fun _ _ => not_nob)).at1 hlt
      rw [hx] at hx'
      injection hx' with hx'
      subst hx'
      obtain ⟨op, xx, yy, arg, rs⟩ := x
      simp only at p0 p1 p2 p3 q0 q1 q2 q3 hR hR'
      obtain rfl : rs.length = m := hR.len
      obtain rfl : rs.length = m' := hR'.len
      have hrn := hR.n
      have kl : (k : Int) < (is.length : Int) := by omega
      have CX := Cells.new wr 48 #[.int .i64 op, .int .i64 xx, .int .i64 yy, .int .i64 arg, .slice B rs.length cc]
      have CY := Cells.new (wr.alloc (.cells #[.int .i64 op, .int .i64 xx, .int .i64 yy, .int .i64 arg, .slice B rs.length cc] 48)) 48 #[.int .i64 op, .int .i64 xx, .int .i64 yy, .int .i64 arg, .slice B' rs.length cc']
      rw [World.size_alloc] at CY
      have CX2 := CX.alloc (.cells #[.int .i64 op, .int .i64 xx, .int .i64 yy, .int .i64 arg, .slice B' rs.length cc'] 48)
      have hUa := ((Upd.refl Nob wr).alloc (.cells #[.int .i64 op, .int .i64 xx, .int .i64 yy, .int .i64 arg, .slice B rs.length cc] 48)).alloc (.cells #[.int .i64 op, .int .i64 xx, .int .i64 yy, .int .i64 arg, .slice B' rs.length cc'] 48)
      have far : ∀ (a : Addr) v, wr.cell? a = some v → (wr.alloc (.cells #[.int .i64 op, .int .i64 xx, .int .i64 yy, .int .i64 arg, .slice B rs.length cc] 48)).cell? a = some v := fun a v ha => (World.cell?_of_block (Below.heap_alloc _ _ _ (World.block_lt_of_cell? _ _ ha))).trans ha
      have q0' := far _ _ q0
      have q1' := far _ _ q1
      have q2' := far _ _ q2
      have q3' := far _ _ q3
      have q4' := far _ _ q4
      have b1' := far _ _ b1
      have HX := hideP hx
      clear far hx CX
      go_upto_region 8 with fail
      generalize ((wr.alloc (.cells #[.int .i64 op, .int .i64 xx, .int .i64 yy, .int .i64 arg, .slice B rs.length cc] 48)).alloc (.cells #[.int .i64 op, .int .i64 xx, .int .i64 yy, .int .i64 arg, .slice B' rs.length cc'] 48)) = w4 at *
      have hRa := hideP (hR.upd hUa (fun _ _ => not_nob))
      have hRa' := hideP (hR'.upd hUa (fun _ _ => not_nob))
      have HUa := hideP (hU.trans hUa (fun _ _ h => h))
      generalize wr.heap.size = xb at *
      have l0 : w4.cell? ⟨xb, 0, none⟩ = some (.int .i64 op) := CX2.cellv rfl
      have l1 : w4.cell? ⟨xb, 0 + 1, none⟩ = some (.int .i64 xx) := CX2.cellv rfl
      have l2 : w4.cell? ⟨xb, 0 + 2, none⟩ = some (.int .i64 yy) := CX2.cellv rfl
      have l3 : w4.cell? ⟨xb, 0 + 3, none⟩ = some (.int .i64 arg) := CX2.cellv rfl
      have l4 : w4.cell? ⟨xb, 0 + 4, none⟩ = some (.slice B rs.length cc) := CX2.cellv rfl
      have n0 : w4.cell? ⟨xb + 1, 0, none⟩ = some (.int .i64 op) := CY.cellv rfl
      have n1 : w4.cell? ⟨xb + 1, 0 + 1, none⟩ = some (.int .i64 xx) := CY.cellv rfl
      have n2 : w4.cell? ⟨xb + 1, 0 + 2, none⟩ = some (.int .i64 yy) := CY.cellv rfl
      have n3 : w4.cell? ⟨xb + 1, 0 + 3, none⟩ = some (.int .i64 arg) := CY.cellv rfl
      have n4 : w4.cell? ⟨xb + 1, 0 + 4, none⟩ = some (.slice B' rs.length cc') := CY.cellv rfl
      clear q0 q1 q2 q3 q4 q0' q1' q2' q3' q4' p0 p1 p2 p3 p4 b0 b1 b1' hadd hadd' hg hg' hR hR' hU hUa CX2 CY
      have HK := hideP hk
      clear hk
      go_wp2_with fail
      go_loopg [8] rs.length (fun gk v8 wq => ∃ j q : Nat, j + gk = rs.length ∧ v8 = .int .i64 (j : Int) ∧ wq = w4.drewN q)
      case atStart => exact ⟨0, 0, by omega, rfl, rfl⟩
      case round =>
        obtain ⟨j, q, hj, rfl, rfl⟩ := hrel
        by_cases hjl : j < rs.length
        · obtain ⟨bd, y, gg, oo, rfl, hy, -, -, hadd1, r0, r1, -⟩ := hRa.out.at1 hjl
          obtain ⟨bd', y', gg', oo', rfl, hy', -, -, hadd2, s0, s1, -⟩ := hRa'.out.at1 hjl
          rw [hy] at hy'
          injection hy' with hy'
          subst hy'
          have jl : (j : Int) < (rs.length : Int) := by omega
          clear hy
          go_wp2_with fail
          go_quiet (fail)
          go_wp2_with fail
          go_roundg (rs.length - (j + 1))
          case measure => omega
          case rel => exact ⟨j + 1, _, by omega, by go_num, by first | rfl | exact World.drewN_drewN _ _ _⟩
        · have jl : ¬ (j : Int) < (rs.length : Int) := by omega
          go_wp2_with fail
          have hk := HK.out
          go_roundg (is.length - (k + 1))
          case measure => omega
          case rel => exact ⟨k + 1, by omega, by go_num, HUa.out.drewN q⟩
    · have hkn : k = is.length := by omega
      clear hk
      subst hkn
      go_wp2_with fail
      go_ret
      exact ⟨rfl, HU.out.trans hU (fun _ _ h => h)⟩
end Go.Proofs.YtdbdokjlcdogiaaDoor

/-
  Programs of a call's own, made one after the other, lie apart; a program of the call's own as instructions in blocks of now.
-/
namespace Go.Proofs.YtdbdokjlcdogiaaDoor
open Go.RowKit
set_option linter.unusedVariables false

/-- its blocks lie below a height -/
structure Below_ (top : Nat) (A : Option Addr) (gs : List (Option Addr × Nat)) : Prop where
  i : ∀ b, A.map (·.block) = some b → b < top
  r : ∀ (k : Nat) (B : Option Addr) (cc b : Nat), gs[k]? = some (B, cc) → B.map (·.block) = some b → b < top
theorem ProgW.below {w : World} {base : Nat} {A : Option Addr} {c : Nat} {is : List PInst} {gs : List (Option Addr × Nat)} (h : ProgW w base A c is gs) : Below_ w.heap.size A gs :=
  ⟨fun b hb => own_bl h.row hb, fun k B cc b hg hb => h.lt k B cc b hg hb⟩
theorem apart_of {w : World} {base top : Nat} {p q : Prg} (hp : ProgW w base p.A p.c p.is p.gs) (ht : Below_ top p.A p.gs) (hq : ProgW w top q.A q.c q.is q.gs) : Apart p q := by
  refine ⟨fun b h1 h2 => ?_, fun x hx y hy b h1 h2 => ?_⟩
  · have a1 := ht.i b (rowV_own.1 h1)
    have a2 := own_lo hq.row h2
    omega
  · obtain ⟨j, hj⟩ := List.mem_iff_getElem?.1 hx
    obtain ⟨i, hi⟩ := List.mem_iff_getElem?.1 hy
    obtain ⟨z, B, cc, -, hg, rfl⟩ := rowsOf_mem hj
    obtain ⟨z2, B2, cc2, hz2, hg2, rfl⟩ := rowsOf_mem hi
    have a1 := ht.r j B cc b hg (rowV_own.1 h1)
    have a2 := own_lo (hq.own i z2 B2 cc2 hz2 hg2) h2
    omega
/-- read as instructions, in blocks of now -/
theorem ProgW.instsLt {w : World} {base : Nat} {A : Option Addr} {c : Nat} {is : List PInst} {gs : List (Option Addr × Nat)} (h : ProgW w base A c is gs) (hn : ∀ x ∈ is, NumI x) : InstsR w (fun b => b < w.heap.size) A is.length is := by
  refine ⟨rfl, fun i x hx => ?_⟩
  have hi := (List.getElem?_eq_some_iff.1 hx).1
  obtain ⟨B, cc, hg⟩ : ∃ B cc, gs[i]? = some (B, cc) := ⟨_, _, List.getElem?_eq_getElem (by rw [h.len]; exact hi)⟩
  obtain ⟨g, cap, hv, hb, hl⟩ := h.row.form (by omega)
  obtain ⟨rfl, -, rfl⟩ : A = some ⟨g, 0, none⟩ ∧ is.length = is.length ∧ c = cap := by injection hv with a b c; exact ⟨a, b, c⟩
  obtain ⟨ad, e, -, -, hc⟩ := (Reads.of_own h.row).2 (by omega)
  injection e with e
  subst e
  have ho := h.own i x B cc hx hg
  have hN := hn x (List.mem_of_getElem? hx)
  refine ⟨_, g, i * 5, B, x.rs.length, cc, rfl, by rw [add_lit_, Nat.zero_add], hl, hl, ⟨(Reads.of_own ho).weaken (fun b hb2 => own_blt ho hb2), hN.2.1, hN.2.2⟩, hN.1, fun j v hv => ?_⟩
  have := hc (i * 5 + j) v (flatI_at is gs i x B cc hx hg j v hv)
  rwa [add_lit_, Nat.zero_add] at this
end Go.Proofs.YtdbdokjlcdogiaaDoor
