/-
  RefLd, RefLoad, RefLs, put together.
-/
import Derived.Test.YtdbdokjlcdogiaaDoorZ19OwnS
import Derived.StillTailTactics

/-
  The walk of heronref10.Load. Printed by tools/mkRefLd.py.
-/
namespace Go.Proofs.YtdbdokjlcdogiaaDoor
open Go.RowKit
set_option linter.unusedVariables false

set_option maxRecDepth 100000 in
set_option maxHeartbeats 4000000 in
theorem refl_reg7 (Q : Exit → Act → World → Prop) (K : Code) (w : World) (ad : Addr) (n c m : Nat) (sv t0 t1 t2 t3 : Int) (x1 x2 x3 x6 x7 x8 x9 x10 x11 x12 x13 x14 x15 x16 x17 x18 x19 x20 x21 x22 x23 x24 x25 x26 x27 x28 x29 x30 x31 x32 x33 x34 x35 x36 x37 x38 x39 x40 x41 x42 x43 x44 x45 x46 x47 x48 x49 x50 x51 x52 x53 x54 x55 x56 x57 x58 x59 x60 x61 x62 x63 x64 x65 x66 x67 x68 x69 x70 x71 x72 x73 x74 x75 x76 x77 x78 x79 x80 x81 x82 x83 x84 x85 x86 x87 x88 x89 x90 x91 x92 x93 x94 x95 x96 x97 x98 x99 x100 x101 x102 x103 x104 x105 x106 x107 x108 x109 x110 x111 x112 x113 x114 x115 x116 x117 x118 x119 x120 x121 x122 x123 x124 x125 x126 x127 x128 x129 x130 x131 x132 x133 x134 x135 x136 : Value) (hK : Tryd.f14.body = some K)
    (hn : n = m + 4) (hn8 : n ≤ 8388608) (hs0 : 0 ≤ sv ∧ sv < 4294967296)
    (y0 : w.cell? (ad.add m) = some (.int .u8 t0)) (y1 : w.cell? (ad.add (m + 1)) = some (.int .u8 t1)) (y2 : w.cell? (ad.add (m + 2)) = some (.int .u8 t2)) (y3 : w.cell? (ad.add (m + 3)) = some (.int .u8 t3))
    (b0 : 0 ≤ t0 ∧ t0 ≤ 255) (b1 : 0 ≤ t1 ∧ t1 ≤ 255) (b2 : 0 ≤ t2 ∧ t2 ≤ 255) (b3 : 0 ≤ t3 ∧ t3 ≤ 255)
    (hno : ¬ sv = t0 + 256 * t1 + 65536 * t2 + 16777216 * t3 → ∀ v50 v51 v52 v53 v54 v55 v56 v57 v58 v59 v60 v61 v62 v63 v64 v65 v66 v67 v68 v69 v70 v71 v72 v73 v74 v75 v76 v77 v78 v79 v80 (bb : Bool), bb = true → Q .normal ⟨#[.slice (some ad) n c, x1, x2, x3, .int .i64 (m : Nat), .int .u32 sv, x6, x7, x8, x9, x10, x11, x12, x13, x14, x15, x16, x17, x18, x19, x20, x21, x22, x23, x24, x25, x26, x27, x28, x29, x30, x31, x32, x33, x34, x35, x36, x37, x38, x39, x40, x41, x42, x43, x44, x45, x46, x47, x48, x49, v50, v51, v52, v53, v54, v55, v56, v57, v58, v59, v60, v61, v62, v63, v64, v65, v66, v67, v68, v69, v70, v71, v72, v73, v74, v75, v76, v77, v78, v79, v80, .bool bb, x82, x83, x84, x85, x86, x87, x88, x89, x90, x91, x92, x93, x94, x95, x96, x97, x98, x99, x100, x101, x102, x103, x104, x105, x106, x107, x108, x109, x110, x111, x112, x113, x114, x115, x116, x117, x118, x119, x120, x121, x122, x123, x124, x125, x126, x127, x128, x129, x130, x131, x132, x133, x134, x135, x136], []⟩ w.drew)
    (hyes : sv = t0 + 256 * t1 + 65536 * t2 + 16777216 * t3 → ∀ v50 v51 v52 v53 v54 v55 v56 v57 v58 v59 v60 v61 v62 v63 v64 v65 v66 v67 v68 v69 v70 v71 v72 v73 v74 v75 v76 v77 v78 v79 v80 (bb : Bool), bb = false → Q .normal ⟨#[.slice (some ad) n c, x1, x2, x3, .int .i64 (m : Nat), .int .u32 sv, x6, x7, x8, x9, x10, x11, x12, x13, x14, x15, x16, x17, x18, x19, x20, x21, x22, x23, x24, x25, x26, x27, x28, x29, x30, x31, x32, x33, x34, x35, x36, x37, x38, x39, x40, x41, x42, x43, x44, x45, x46, x47, x48, x49, v50, v51, v52, v53, v54, v55, v56, v57, v58, v59, v60, v61, v62, v63, v64, v65, v66, v67, v68, v69, v70, v71, v72, v73, v74, v75, v76, v77, v78, v79, v80, .bool bb, x82, x83, x84, x85, x86, x87, x88, x89, x90, x91, x92, x93, x94, x95, x96, x97, x98, x99, x100, x101, x102, x103, x104, x105, x106, x107, x108, x109, x110, x111, x112, x113, x114, x115, x116, x117, x118, x119, x120, x121, x122, x123, x124, x125, x126, x127, x128, x129, x130, x131, x132, x133, x134, x135, x136], []⟩ w.drew) :
    (fstAt (fstAt K 5) 0).wp Tryd.prog Q ⟨#[.slice (some ad) n c, x1, x2, x3, .int .i64 (m : Nat), .int .u32 sv, x6, x7, x8, x9, x10, x11, x12, x13, x14, x15, x16, x17, x18, x19, x20, x21, x22, x23, x24, x25, x26, x27, x28, x29, x30, x31, x32, x33, x34, x35, x36, x37, x38, x39, x40, x41, x42, x43, x44, x45, x46, x47, x48, x49, x50, x51, x52, x53, x54, x55, x56, x57, x58, x59, x60, x61, x62, x63, x64, x65, x66, x67, x68, x69, x70, x71, x72, x73, x74, x75, x76, x77, x78, x79, x80, x81, x82, x83, x84, x85, x86, x87, x88, x89, x90, x91, x92, x93, x94, x95, x96, x97, x98, x99, x100, x101, x102, x103, x104, x105, x106, x107, x108, x109, x110, x111, x112, x113, x114, x115, x116, x117, x118, x119, x120, x121, x122, x123, x124, x125, x126, x127, x128, x129, x130, x131, x132, x133, x134, x135, x136], []⟩ w := by
  injection hK with hK
  subst hK
  simp only [fstAt]
  have g0 : (m : Int) < (n : Int) := by omega
  have g1 : (m : Int) + 1 < (n : Int) := by omega
  have g2 : (m : Int) + 2 < (n : Int) := by omega
  have g3 : (m : Int) + 3 < (n : Int) := by omega
  have w1 : IntKind.i64.wrap ((m : Int) + 1) = (m : Int) + 1 := by rw [IntKind.wrap_i64]; omega
  have w2 : IntKind.i64.wrap ((m : Int) + 2) = (m : Int) + 2 := by rw [IntKind.wrap_i64]; omega
  have w3 : IntKind.i64.wrap ((m : Int) + 3) = (m : Int) + 3 := by rw [IntKind.wrap_i64]; omega
  have u2 : ((m : Int) + 2).toNat = m + 2 := by omega
  have u3 : ((m : Int) + 3).toNat = m + 3 := by omega
  have p1 : 0 ≤ (m : Int) + 1 := by omega
  have p2 : 0 ≤ (m : Int) + 2 := by omega
  have p3 : 0 ≤ (m : Int) + 3 := by omega
  rw [show ad.add (m + 1) = ⟨ad.block, ad.off + (m + 1), none⟩ by simp [Addr.add]] at y1
  rw [show ad.add (m + 2) = ⟨ad.block, ad.off + (m + 2), none⟩ by simp [Addr.add]] at y2
  rw [show ad.add (m + 3) = ⟨ad.block, ad.off + (m + 3), none⟩ by simp [Addr.add]] at y3
  have HN := hideP hno
  have HY := hideP hyes
  have hm8 : m ≤ 8388608 := by omega
  clear hno hyes hn
  by_cases hs : ¬ sv = t0 + 256 * t1 + 65536 * t2 + 16777216 * t3
  · have hx : ¬ sv = t0 + t1 * 256 + t2 * 65536 + t3 * 16777216 := by omega
    go_still_tail 31, (by kernel_rfl)
    change wpList _ _ _ _ _ w.drew
    go_wp2_with fail
    refine HN.out hs _ _ _ _ _ _ _ _ _ _ _ _ _ _ _ _ _ _ _ _ _ _ _ _ _ _ _ _ _ _ _ _ ?_
    simp [hx]
  · have hx : sv = t0 + t1 * 256 + t2 * 65536 + t3 * 16777216 := by omega
    have hs := Classical.not_not.1 hs
    have HS := hideP hs
    have HX := hideP hx
    clear hs hx
    go_still_tail 31, (by kernel_rfl)
    change wpList _ _ _ _ _ w.drew
    go_wp2_with fail
    refine HY.out HS.out _ _ _ _ _ _ _ _ _ _ _ _ _ _ _ _ _ _ _ _ _ _ _ _ _ _ _ _ _ _ _ _ ?_
    simp [HX.out]
end Go.Proofs.YtdbdokjlcdogiaaDoor

/-
  The walk of heronref10.Load, whatever the bytes.
-/
namespace Go.Proofs.YtdbdokjlcdogiaaDoor
open Go.RowKit
set_option linter.unusedVariables false

theorem zero_no (w w1 : World) (a : Act) (no : Int) (R : Option (List PInst × Int × Int)) (hR : R = none) (hd : a.defers = []) (ht : a.tmps[2]? = some (.pointer (some ⟨w.heap.size, 0, none⟩))) (h3 : a.tmps[3]? = some (.int .i64 no)) (hC : Cells w1 w.heap.size 24 #[.slice none 0 0, .int .i64 0, .int .i64 0]) (hU : Upd Nob w w1) :
    bodyPost Tryd.prog Tryd.f14 (LoadAns w R no) .ret a w1 :=
  refl_end _ _ _ _ _ _ _ _ hd ht h3 hC (by rw [hR]; exact ⟨rfl, hU⟩)
set_option maxRecDepth 100000 in
set_option maxHeartbeats 4000000 in
theorem refLoad_over (w : World) (A : Option Addr) (n c : Nat) (hn : 8388608 < n) : Calls Tryd.prog 14 #[.slice A n c] w (LoadAns w none 2) := by
  have hl : (8388608 : Int) < (n : Int) := by omega
  have C0 := Cells.new w 24 #[.slice none 0 0, .int .i64 0, .int .i64 0]
  have hU : Upd Nob w (w.alloc (.cells #[.slice none 0 0, .int .i64 0, .int .i64 0] 24)) := (Upd.refl Nob w).alloc _
  have HC := hideP C0
  have HU := hideP hU
  clear C0 hU
  go_enter Tryd.func14, Tryd.ntmps14
  go_wp2_with fail
  exact zero_no w _ _ _ _ rfl rfl rfl rfl HC.out HU.out
set_option maxRecDepth 100000 in
set_option maxHeartbeats 4000000 in
theorem refLoad_short (w : World) (A : Option Addr) (n c : Nat) (hn : n < 8) : Calls Tryd.prog 14 #[.slice A n c] w (LoadAns w none 101) := by
  have hl : ¬ (8388608 : Int) < (n : Int) := by omega
  have k4 : IntKind.i64.wrap ((n : Int) - 4) = (n : Int) - 4 := by rw [IntKind.wrap_i64]; omega
  have k5 : (n : Int) - 4 < 4 := by omega
  have C0 := Cells.new w 24 #[.slice none 0 0, .int .i64 0, .int .i64 0]
  have hU : Upd Nob w (w.alloc (.cells #[.slice none 0 0, .int .i64 0, .int .i64 0] 24)) := (Upd.refl Nob w).alloc _
  have HC := hideP C0
  have HU := hideP hU
  clear C0 hU
  go_enter Tryd.func14, Tryd.ntmps14
  go_wp2_with fail
  exact zero_no w _ _ _ _ rfl rfl rfl rfl HC.out HU.out
/-- the first four bytes, in memory -/
theorem head_cells {w : World} {S : Nat → Prop} {ad : Addr} {n : Nat} {bs : List Int} (h : Reads w S 1 (some ad) n (bytv bs)) (hn : 4 ≤ n) :
    ∃ x0 x1 x2 x3, bs.take 4 = [x0, x1, x2, x3] ∧ w.cell? ad = some (.int .u8 x0) ∧ w.cell? ⟨ad.block, ad.off + 1, none⟩ = some (.int .u8 x1) ∧ w.cell? ⟨ad.block, ad.off + 2, none⟩ = some (.int .u8 x2) ∧ w.cell? ⟨ad.block, ad.off + 3, none⟩ = some (.int .u8 x3) := by
  have hl : bs.length = n := by have := h.1; simpa [bytv] using this
  obtain ⟨ad', e, _, _, hc⟩ := h.2 (by omega)
  injection e with e
  subst e
  match bs, hl with
  | x0 :: x1 :: x2 :: x3 :: r, hl =>
    have c0 := hc 0 (.int .u8 x0) (by simp [bytv])
    have c1 := hc 1 (.int .u8 x1) (by simp [bytv])
    have c2 := hc 2 (.int .u8 x2) (by simp [bytv])
    have c3 := hc 3 (.int .u8 x3) (by simp [bytv])
    rw [show ad.add 0 = ad by simp [Addr.add]] at c0
    rw [show ad.add 1 = ⟨ad.block, ad.off + 1, none⟩ by simp [Addr.add]] at c1
    rw [show ad.add 2 = ⟨ad.block, ad.off + 2, none⟩ by simp [Addr.add]] at c2
    rw [show ad.add 3 = ⟨ad.block, ad.off + 3, none⟩ by simp [Addr.add]] at c3
    exact ⟨x0, x1, x2, x3, by simp, c0, c1, c2, c3⟩
  | [], hl => simp at hl; omega
  | [a], hl => simp at hl; omega
  | [a, b], hl => simp at hl; omega
  | [a, b, d], hl => simp at hl; omega
theorem tail_adds {w : World} {S : Nat → Prop} {ad : Addr} {m : Nat} {bs : List Int} (h : Reads w S 1 (some ad) (m + 4) (bytv bs)) (h8 : ∀ x ∈ bs, 0 ≤ x ∧ x ≤ 255) :
    ∃ t0 t1 t2 t3, bs.drop m = [t0, t1, t2, t3] ∧ (w.cell? (ad.add m) = some (.int .u8 t0) ∧ 0 ≤ t0 ∧ t0 ≤ 255) ∧ (w.cell? (ad.add (m + 1)) = some (.int .u8 t1) ∧ 0 ≤ t1 ∧ t1 ≤ 255) ∧
      (w.cell? (ad.add (m + 2)) = some (.int .u8 t2) ∧ 0 ≤ t2 ∧ t2 ≤ 255) ∧ (w.cell? (ad.add (m + 3)) = some (.int .u8 t3) ∧ 0 ≤ t3 ∧ t3 ≤ 255) := by
  have hl : bs.length = m + 4 := by have := h.1; simpa [bytv] using this
  obtain ⟨t0, t1, t2, t3, ht⟩ : ∃ t0 t1 t2 t3, bs.drop m = [t0, t1, t2, t3] := by
    have hd : (bs.drop m).length = 4 := by rw [List.length_drop, hl]; omega
    match hq : bs.drop m, hd with
    | [a, b, c, d], _ => exact ⟨a, b, c, d, rfl⟩
  have hcell : ∀ (j : Nat) (x : Int), [t0, t1, t2, t3][j]? = some x → w.cell? (ad.add (m + j)) = some (.int .u8 x) ∧ 0 ≤ x ∧ x ≤ 255 := fun j x hx => by
    have hb : bs[m + j]? = some x := by rw [← List.getElem?_drop, ht]; exact hx
    obtain ⟨ad', e, _, _, hc2⟩ := h.2 (by omega)
    injection e with e
    subst e
    exact ⟨hc2 _ _ (by simp [bytv, hb]), h8 x (List.mem_of_getElem? hb)⟩
  exact ⟨t0, t1, t2, t3, ht, hcell 0 t0 rfl, hcell 1 t1 rfl, hcell 2 t2 rfl, hcell 3 t3 rfl⟩

set_option maxRecDepth 100000 in
set_option maxHeartbeats 4000000 in
theorem refLoad_head (w : World) (S : Nat → Prop) (ad : Addr) (n c : Nat) (bs : List Int) (h : Reads w S 1 (some ad) n (bytv bs)) (hn : n ≤ 8388608) (h8 : 8 ≤ n) (hh : ¬ bs.take 4 = [72, 82, 80, 71]) : Calls Tryd.prog 14 #[.slice (some ad) n c] w (LoadAns w none 101) := by
  have hl : ¬ (8388608 : Int) < (n : Int) := by omega
  have k4 : IntKind.i64.wrap ((n : Int) - 4) = (n : Int) - 4 := by rw [IntKind.wrap_i64]; omega
  have k5 : ¬ (n : Int) - 4 < 4 := by omega
  have g0 : (0 : Int) < (n : Int) := by omega
  have g1 : (1 : Int) < (n : Int) := by omega
  have g2 : (2 : Int) < (n : Int) := by omega
  have g3 : (3 : Int) < (n : Int) := by omega
  have C0 := Cells.new w 24 #[.slice none 0 0, .int .i64 0, .int .i64 0]
  have hU : Upd Nob w (w.alloc (.cells #[.slice none 0 0, .int .i64 0, .int .i64 0] 24)) := (Upd.refl Nob w).alloc _
  obtain ⟨x0, x1, x2, x3, hx, y0, y1, y2, y3⟩ := head_cells (h.upd hU (fun _ _ => not_nob)) (by omega)
  rw [hx] at hh
  have HC := hideP C0
  have HU := hideP hU
  have d0 := C0.cellv (i := 0) rfl
  have d1 := C0.cellv (i := 0 + 1) rfl
  have d2 := C0.cellv (i := 0 + 2) rfl
  have f0 := C0.frozen 0
  have f1 := C0.frozen (0 + 1)
  have f2 := C0.frozen (0 + 2)
  clear C0 hU hx h
  by_cases q0 : ¬ x0 = 72
  · go_enter Tryd.func14, Tryd.ntmps14
    go_upto_region 3 with fail
    generalize (w.alloc (.cells #[.slice none 0 0, .int .i64 0, .int .i64 0] 24)) = w2 at *
    go_wp2_with fail
    exact zero_no w _ _ _ _ rfl rfl rfl rfl (three_cells HC.out _ _ _) (HU.out.trans (three_upd _ _ _ _ _) (fun b hb (e : b = w.heap.size) => by omega))
  have q0 : x0 = 72 := Classical.not_not.1 q0
  subst q0
  by_cases q1 : ¬ x1 = 82
  · go_enter Tryd.func14, Tryd.ntmps14
    go_upto_region 3 with fail
    generalize (w.alloc (.cells #[.slice none 0 0, .int .i64 0, .int .i64 0] 24)) = w2 at *
    go_wp2_with fail
    exact zero_no w _ _ _ _ rfl rfl rfl rfl (three_cells HC.out _ _ _) (HU.out.trans (three_upd _ _ _ _ _) (fun b hb (e : b = w.heap.size) => by omega))
  have q1 : x1 = 82 := Classical.not_not.1 q1
  subst q1
  by_cases q2 : ¬ x2 = 80
  · go_enter Tryd.func14, Tryd.ntmps14
    go_upto_region 3 with fail
    generalize (w.alloc (.cells #[.slice none 0 0, .int .i64 0, .int .i64 0] 24)) = w2 at *
    go_wp2_with fail
    exact zero_no w _ _ _ _ rfl rfl rfl rfl (three_cells HC.out _ _ _) (HU.out.trans (three_upd _ _ _ _ _) (fun b hb (e : b = w.heap.size) => by omega))
  have q2 : x2 = 80 := Classical.not_not.1 q2
  subst q2
  have q3 : ¬ x3 = 71 := fun e => hh (by rw [e])
  go_enter Tryd.func14, Tryd.ntmps14
  go_upto_region 3 with fail
  generalize (w.alloc (.cells #[.slice none 0 0, .int .i64 0, .int .i64 0] 24)) = w2 at *
  go_wp2_with fail
  exact zero_no w _ _ _ _ rfl rfl rfl rfl (three_cells HC.out _ _ _) (HU.out.trans (three_upd _ _ _ _ _) (fun b hb (e : b = w.heap.size) => by omega))
theorem refSum_up (w : World) (S : Nat → Prop) (A : Option Addr) (n c : Nat) (xs : List Int) (hx : Reads w S 1 A n (bytv xs)) (h8 : ∀ x ∈ xs, 0 ≤ x ∧ x ≤ 255) (hn : n ≤ 140737488355328) :
    Calls Tryd.prog 25 #[.slice A n c] w fun e w' => e = .returned (.int .u32 (sumV xs)) ∧ Upd Nob w w' :=
  (refSum_any w S A n c xs hx h8 hn).mono (fun e w' h => by obtain ⟨h1, q, rfl⟩ := h; exact ⟨h1, (Upd.refl Nob w).drewN q⟩)
end Go.Proofs.YtdbdokjlcdogiaaDoor

/-
  heronref10.Load: the stages ahead of its region 9, and the whole. Printed by tools/mkRefLs.py.
-/
namespace Go.Proofs.YtdbdokjlcdogiaaDoor
open Go.RowKit
set_option linter.unusedVariables false

set_option maxRecDepth 100000 in
set_option maxHeartbeats 4000000 in
theorem refl_front (Q : Exit → Act → World → Prop) (K rest : Code) (w0 : World) (S : Nat → Prop) (ad : Addr) (n m c : Nat) (sv : Int) (bs : List Int) (x1 x2 x3 x4 x5 x6 x7 x8 x9 x10 x11 x12 x13 x14 x15 x16 x17 x18 x19 x20 x21 x22 x23 x24 x25 x26 x27 x28 x29 x30 x31 x32 x33 x34 x35 x36 x37 x38 x39 x40 x41 x42 x43 x44 x45 x46 x47 x48 x49 x50 x51 x52 x53 x54 x55 x56 x57 x58 x59 x60 x61 x62 x63 x64 x65 x66 x67 x68 x69 x70 x71 x72 x73 x74 x75 x76 x77 x78 x79 x80 x81 x82 x83 x84 x85 x86 x87 x88 x89 x90 x91 x92 x93 x94 x95 x96 x97 x98 x99 x100 x101 x102 x103 x104 x105 x106 x107 x108 x109 x110 x111 x112 x113 x114 x115 x116 x117 x118 x119 x120 x121 x122 x123 x124 x125 x126 x127 x128 x129 x130 x131 x132 x133 x134 x135 x136 : Value) (hK : Tryd.f14.body = some K)
    (h : Reads w0 S 1 (some ad) n (bytv bs)) (h8 : ∀ x ∈ bs, 0 ≤ x ∧ x ≤ 255) (hn : n ≤ 8388608) (hm : n = m + 4) (hm4 : 4 ≤ m) (hc : n ≤ c) (hh : bs.take 4 = [72, 82, 80, 71]) (hsv : sumV (bs.take m) = sv)
    (hnext : ∀ (x1 x3 x6 x7 x8 x9 x10 x11 x12 x13 x14 x15 x16 x17 x18 x19 x20 x21 x22 x23 x24 x25 x26 x27 x28 x29 x30 x31 x32 x33 x34 x35 x36 x37 x38 x39 x40 x41 x42 x43 x44 x45 x46 x47 x48 x49 x50 x51 x52 x53 x54 x55 x56 x57 x58 x59 x60 x61 x62 x63 x64 x65 x66 x67 x68 x69 x70 x71 x72 x73 x74 x75 x76 x77 x78 x79 x80 x81 x82 x83 x84 x85 x86 x87 x88 x89 x90 x91 x92 x93 x94 x95 x96 x97 x98 x99 x100 x101 x102 x103 x104 x105 x106 x107 x108 x109 x110 x111 x112 x113 x114 x115 x116 x117 x118 x119 x120 x121 x122 x123 x124 x125 x126 x127 x128 x129 x130 x131 x132 x133 x134 x135 x136 : Value) (w' : World), Cells w' w0.heap.size 24 #[.slice none 0 0, .int .i64 0, .int .i64 0] → Upd Nob w0 w' → rest.wp Tryd.prog Q ⟨#[.slice (some ad) n c, x1, .pointer (some ⟨w0.heap.size, 0, none⟩), x3, .int .i64 (m : Nat), .int .u32 sv, x6, x7, x8, x9, x10, x11, x12, x13, x14, x15, x16, x17, x18, x19, x20, x21, x22, x23, x24, x25, x26, x27, x28, x29, x30, x31, x32, x33, x34, x35, x36, x37, x38, x39, x40, x41, x42, x43, x44, x45, x46, x47, x48, x49, x50, x51, x52, x53, x54, x55, x56, x57, x58, x59, x60, x61, x62, x63, x64, x65, x66, x67, x68, x69, x70, x71, x72, x73, x74, x75, x76, x77, x78, x79, x80, x81, x82, x83, x84, x85, x86, x87, x88, x89, x90, x91, x92, x93, x94, x95, x96, x97, x98, x99, x100, x101, x102, x103, x104, x105, x106, x107, x108, x109, x110, x111, x112, x113, x114, x115, x116, x117, x118, x119, x120, x121, x122, x123, x124, x125, x126, x127, x128, x129, x130, x131, x132, x133, x134, x135, x136], []⟩ w') :
    (Code.seq (fstAt K 0) (Code.seq (fstAt K 1) (Code.seq (fstAt K 2) (Code.seq (fstAt K 3) (Code.seq (fstAt K 4) rest))))).wp Tryd.prog Q ⟨#[.slice (some ad) n c, x1, x2, x3, x4, x5, x6, x7, x8, x9, x10, x11, x12, x13, x14, x15, x16, x17, x18, x19, x20, x21, x22, x23, x24, x25, x26, x27, x28, x29, x30, x31, x32, x33, x34, x35, x36, x37, x38, x39, x40, x41, x42, x43, x44, x45, x46, x47, x48, x49, x50, x51, x52, x53, x54, x55, x56, x57, x58, x59, x60, x61, x62, x63, x64, x65, x66, x67, x68, x69, x70, x71, x72, x73, x74, x75, x76, x77, x78, x79, x80, x81, x82, x83, x84, x85, x86, x87, x88, x89, x90, x91, x92, x93, x94, x95, x96, x97, x98, x99, x100, x101, x102, x103, x104, x105, x106, x107, x108, x109, x110, x111, x112, x113, x114, x115, x116, x117, x118, x119, x120, x121, x122, x123, x124, x125, x126, x127, x128, x129, x130, x131, x132, x133, x134, x135, x136], []⟩ w0 := by
  injection hK with hK
  subst hK
  have hl : ¬ (8388608 : Int) < (n : Int) := by omega
  have k4 : IntKind.i64.wrap ((n : Int) - 4) = (m : Int) := by rw [IntKind.wrap_i64]; omega
  have k5 : ¬ (m : Int) < 4 := by omega
  have g0 : (0 : Int) < (n : Int) := by omega
  have g1 : (1 : Int) < (n : Int) := by omega
  have g2 : (2 : Int) < (n : Int) := by omega
  have g3 : (3 : Int) < (n : Int) := by omega
  have k6 : (m : Int) ≤ (c : Int) := by omega
  have C0 := Cells.new w0 24 #[.slice none 0 0, .int .i64 0, .int .i64 0]
  have hU : Upd Nob w0 (w0.alloc (.cells #[.slice none 0 0, .int .i64 0, .int .i64 0] 24)) := (Upd.refl Nob w0).alloc _
  obtain ⟨x0', x1', x2', x3', hx, y0, y1, y2, y3⟩ := head_cells (h.upd hU (fun _ _ => not_nob)) (by omega)
  rw [hx] at hh
  have e0 : x0' = 72 := by injection hh
  have e1 : x1' = 82 := by injection hh with _ hh; injection hh
  have e2 : x2' = 80 := by injection hh with _ hh; injection hh with _ hh; injection hh
  have e3 : x3' = 71 := by injection hh with _ hh; injection hh with _ hh; injection hh with _ hh; injection hh
  subst e0 e1 e2 e3
  have HC := hideP C0
  have HU := hideP hU
  have HR := hideP ((reads_take (m := m) (h.upd hU (fun _ _ => not_nob)) (by omega)))
  have H8 := hideP (show ∀ x ∈ bs.take m, 0 ≤ x ∧ x ≤ 255 from fun x hx => h8 x (List.mem_of_mem_take hx))
  have HN := hideP hnext
  have HSV := hideP hsv
  have hm8 : m ≤ 8388608 := by omega
  clear C0 hU hx h h8 hnext hh hm hsv
  simp only [fstAt]
  go_upto_region 3 with fail
  generalize (w0.alloc (.cells #[.slice none 0 0, .int .i64 0, .int .i64 0] 24)) = w2 at *
  go_wp2_with (go_at_call 25; refine (refSum_up _ S (some ad) m c (bs.take m) HR.out H8.out (by omega)).mono ?_; rw [HSV.out]; rintro e w5 ⟨rfl, hU5⟩)
  exact HN.out _ _ _ _ _ _ _ _ _ _ _ _ _ _ _ _ _ _ _ _ _ _ _ _ _ _ _ _ _ _ _ _ _ _ _ _ _ _ _ _ _ _ _ _ _ _ _ _ _ _ _ _ _ _ _ _ _ _ _ _ _ _ _ _ _ _ _ _ _ _ _ _ _ _ _ _ _ _ _ _ _ _ _ _ _ _ _ _ _ _ _ _ _ _ _ _ _ _ _ _ _ _ _ _ _ _ _ _ _ _ _ _ _ _ _ _ _ _ _ _ _ _ _ _ _ _ _ _ _ _ _ _ _ _ (HC.out.upd hU5 not_nob) (HU.out.trans hU5 (fun _ _ h => h))
set_option maxRecDepth 100000 in
set_option maxHeartbeats 4000000 in
theorem refl_sum (P : Ending → World → Prop) (K rest : Code) (w0 w : World) (ad : Addr) (n m c : Nat) (sv t0 t1 t2 t3 : Int) (x1 x3 x6 x7 x8 x9 x10 x11 x12 x13 x14 x15 x16 x17 x18 x19 x20 x21 x22 x23 x24 x25 x26 x27 x28 x29 x30 x31 x32 x33 x34 x35 x36 x37 x38 x39 x40 x41 x42 x43 x44 x45 x46 x47 x48 x49 x50 x51 x52 x53 x54 x55 x56 x57 x58 x59 x60 x61 x62 x63 x64 x65 x66 x67 x68 x69 x70 x71 x72 x73 x74 x75 x76 x77 x78 x79 x80 x81 x82 x83 x84 x85 x86 x87 x88 x89 x90 x91 x92 x93 x94 x95 x96 x97 x98 x99 x100 x101 x102 x103 x104 x105 x106 x107 x108 x109 x110 x111 x112 x113 x114 x115 x116 x117 x118 x119 x120 x121 x122 x123 x124 x125 x126 x127 x128 x129 x130 x131 x132 x133 x134 x135 x136 : Value) (hK : Tryd.f14.body = some K)
    (hn : n = m + 4) (hn8 : n ≤ 8388608) (hs0 : 0 ≤ sv ∧ sv < 4294967296)
    (y0 : w.cell? (ad.add m) = some (.int .u8 t0)) (y1 : w.cell? (ad.add (m + 1)) = some (.int .u8 t1)) (y2 : w.cell? (ad.add (m + 2)) = some (.int .u8 t2)) (y3 : w.cell? (ad.add (m + 3)) = some (.int .u8 t3))
    (b0 : 0 ≤ t0 ∧ t0 ≤ 255) (b1 : 0 ≤ t1 ∧ t1 ≤ 255) (b2 : 0 ≤ t2 ∧ t2 ≤ 255) (b3 : 0 ≤ t3 ∧ t3 ≤ 255)
    (hC : Cells w w0.heap.size 24 #[.slice none 0 0, .int .i64 0, .int .i64 0]) (hU : Upd Nob w0 w)
    (hno : ¬ sv = t0 + 256 * t1 + 65536 * t2 + 16777216 * t3 → ∀ w', Upd Nob w0 w' → P (.returned (.tuple #[.agg #[.slice none 0 0, .int .i64 0, .int .i64 0], .int .i64 101])) w')
    (hyes : sv = t0 + 256 * t1 + 65536 * t2 + 16777216 * t3 → ∀ (x1 x3 x6 x7 x8 x9 x10 x11 x12 x13 x14 x15 x16 x17 x18 x19 x20 x21 x22 x23 x24 x25 x26 x27 x28 x29 x30 x31 x32 x33 x34 x35 x36 x37 x38 x39 x40 x41 x42 x43 x44 x45 x46 x47 x48 x49 x50 x51 x52 x53 x54 x55 x56 x57 x58 x59 x60 x61 x62 x63 x64 x65 x66 x67 x68 x69 x70 x71 x72 x73 x74 x75 x76 x77 x78 x79 x80 x81 x82 x83 x84 x85 x86 x87 x88 x89 x90 x91 x92 x93 x94 x95 x96 x97 x98 x99 x100 x101 x102 x103 x104 x105 x106 x107 x108 x109 x110 x111 x112 x113 x114 x115 x116 x117 x118 x119 x120 x121 x122 x123 x124 x125 x126 x127 x128 x129 x130 x131 x132 x133 x134 x135 x136 : Value), rest.wp Tryd.prog (bodyPost Tryd.prog Tryd.f14 P) ⟨#[.slice (some ad) n c, x1, .pointer (some ⟨w0.heap.size, 0, none⟩), x3, .int .i64 (m : Nat), .int .u32 sv, x6, x7, x8, x9, x10, x11, x12, x13, x14, x15, x16, x17, x18, x19, x20, x21, x22, x23, x24, x25, x26, x27, x28, x29, x30, x31, x32, x33, x34, x35, x36, x37, x38, x39, x40, x41, x42, x43, x44, x45, x46, x47, x48, x49, x50, x51, x52, x53, x54, x55, x56, x57, x58, x59, x60, x61, x62, x63, x64, x65, x66, x67, x68, x69, x70, x71, x72, x73, x74, x75, x76, x77, x78, x79, x80, x81, x82, x83, x84, x85, x86, x87, x88, x89, x90, x91, x92, x93, x94, x95, x96, x97, x98, x99, x100, x101, x102, x103, x104, x105, x106, x107, x108, x109, x110, x111, x112, x113, x114, x115, x116, x117, x118, x119, x120, x121, x122, x123, x124, x125, x126, x127, x128, x129, x130, x131, x132, x133, x134, x135, x136], []⟩ w.drew) :
    (Code.seq (fstAt K 5) rest).wp Tryd.prog (bodyPost Tryd.prog Tryd.f14 P) ⟨#[.slice (some ad) n c, x1, .pointer (some ⟨w0.heap.size, 0, none⟩), x3, .int .i64 (m : Nat), .int .u32 sv, x6, x7, x8, x9, x10, x11, x12, x13, x14, x15, x16, x17, x18, x19, x20, x21, x22, x23, x24, x25, x26, x27, x28, x29, x30, x31, x32, x33, x34, x35, x36, x37, x38, x39, x40, x41, x42, x43, x44, x45, x46, x47, x48, x49, x50, x51, x52, x53, x54, x55, x56, x57, x58, x59, x60, x61, x62, x63, x64, x65, x66, x67, x68, x69, x70, x71, x72, x73, x74, x75, x76, x77, x78, x79, x80, x81, x82, x83, x84, x85, x86, x87, x88, x89, x90, x91, x92, x93, x94, x95, x96, x97, x98, x99, x100, x101, x102, x103, x104, x105, x106, x107, x108, x109, x110, x111, x112, x113, x114, x115, x116, x117, x118, x119, x120, x121, x122, x123, x124, x125, x126, x127, x128, x129, x130, x131, x132, x133, x134, x135, x136], []⟩ w := by
  injection hK with hK
  subst hK
  have HC := hideP (hC.upd ((Upd.refl Nob w).drew) not_nob)
  have HU := hideP (hU.drew)
  have HNO := hideP hno
  have HY := hideP hyes
  clear hno hyes hC hU
  simp only [fstAt]
  go_upto_region 7 with fail
  refine refl_reg7 _ _ w ad n c m sv t0 t1 t2 t3 _ _ _ _ _ _ _ _ _ _ _ _ _ _ _ _ _ _ _ _ _ _ _ _ _ _ _ _ _ _ _ _ _ _ _ _ _ _ _ _ _ _ _ _ _ _ _ _ _ _ _ _ _ _ _ _ _ _ _ _ _ _ _ _ _ _ _ _ _ _ _ _ _ _ _ _ _ _ _ _ _ _ _ _ _ _ _ _ _ _ _ _ _ _ _ _ _ _ _ _ _ _ _ _ _ _ _ _ _ _ _ _ _ _ _ _ _ _ _ _ _ _ _ _ _ _ _ _ _ _ _ _ _ _ rfl hn hn8 hs0 y0 y1 y2 y3 b0 b1 b2 b3 (fun hs => ?_) (fun hs => ?_)
  · intro _ _ _ _ _ _ _ _ _ _ _ _ _ _ _ _ _ _ _ _ _ _ _ _ _ _ _ _ _ _ _ bb hbb
    subst hbb
    have HS := hideP hs
    have d0 := HC.out.cellv (i := 0) rfl
    have d1 := HC.out.cellv (i := 0 + 1) rfl
    have d2 := HC.out.cellv (i := 0 + 2) rfl
    have f0 := HC.out.frozen 0
    have f1 := HC.out.frozen (0 + 1)
    have f2 := HC.out.frozen (0 + 2)
    clear hs y0 y1 y2 y3 b0 b1 b2 b3 hs0 hn
    generalize w.drew = wd at *
    go_wp2_with fail
    exact refl_end _ _ _ _ _ _ _ _ rfl rfl rfl (three_cells HC.out _ _ _) (HNO.out HS.out _ (HU.out.trans (three_upd _ _ _ _ _) (fun b hb (e : b = w0.heap.size) => by omega)))
  · intro _ _ _ _ _ _ _ _ _ _ _ _ _ _ _ _ _ _ _ _ _ _ _ _ _ _ _ _ _ _ _ bb hbb
    subst hbb
    have HS := hideP hs
    clear hs y0 y1 y2 y3 b0 b1 b2 b3 hs0 hn
    go_wp2_with fail
    exact HY.out HS.out _ _ _ _ _ _ _ _ _ _ _ _ _ _ _ _ _ _ _ _ _ _ _ _ _ _ _ _ _ _ _ _ _ _ _ _ _ _ _ _ _ _ _ _ _ _ _ _ _ _ _ _ _ _ _ _ _ _ _ _ _ _ _ _ _ _ _ _ _ _ _ _ _ _ _ _ _ _ _ _ _ _ _ _ _ _ _ _ _ _ _ _ _ _ _ _ _ _ _ _ _ _ _ _ _ _ _ _ _ _ _ _ _ _ _ _ _ _ _ _ _ _ _ _ _ _ _ _ _ _ _ _ _
set_option maxRecDepth 100000 in
set_option maxHeartbeats 4000000 in
theorem refLoad_tail (w : World) (S : Nat → Prop) (ad : Addr) (n m c : Nat) (bs : List Int) (h : Reads w S 1 (some ad) n (bytv bs)) (h8 : ∀ x ∈ bs, 0 ≤ x ∧ x ≤ 255) (hS : ∀ b, S b → b < w.heap.size) (hn : n ≤ 8388608) (hc : n ≤ c) (hm : n = m + 4) (hm4 : 4 ≤ m) (hh : bs.take 4 = [72, 82, 80, 71]) :
    Calls Tryd.prog 14 #[.slice (some ad) n c] w (LoadAns w (if sumV (bs.take m) = four (bs.drop m) then bodyB ((bs.take m).drop 4) else none) 101) := by
  generalize hP : LoadAns w (if sumV (bs.take m) = four (bs.drop m) then bodyB ((bs.take m).drop 4) else none) 101 = P
  go_enter Tryd.func14, Tryd.ntmps14
  refine refl_front _ _ _ w S ad n m c (sumV (bs.take m)) bs _ _ _ _ _ _ _ _ _ _ _ _ _ _ _ _ _ _ _ _ _ _ _ _ _ _ _ _ _ _ _ _ _ _ _ _ _ _ _ _ _ _ _ _ _ _ _ _ _ _ _ _ _ _ _ _ _ _ _ _ _ _ _ _ _ _ _ _ _ _ _ _ _ _ _ _ _ _ _ _ _ _ _ _ _ _ _ _ _ _ _ _ _ _ _ _ _ _ _ _ _ _ _ _ _ _ _ _ _ _ _ _ _ _ _ _ _ _ _ _ _ _ _ _ _ _ _ _ _ _ _ _ _ _ _ _ rfl h h8 hn hm hm4 hc hh rfl ?_
  intro _ _ _ _ _ _ _ _ _ _ _ _ _ _ _ _ _ _ _ _ _ _ _ _ _ _ _ _ _ _ _ _ _ _ _ _ _ _ _ _ _ _ _ _ _ _ _ _ _ _ _ _ _ _ _ _ _ _ _ _ _ _ _ _ _ _ _ _ _ _ _ _ _ _ _ _ _ _ _ _ _ _ _ _ _ _ _ _ _ _ _ _ _ _ _ _ _ _ _ _ _ _ _ _ _ _ _ _ _ _ _ _ _ _ _ _ _ _ _ _ _ _ _ _ _ _ _ _ _ _ _ _ _ w5 hC5 hU5
  obtain ⟨t0, t1, t2, t3, ht, q0, q1, q2, q3⟩ := tail_adds (m := m) (by rw [← hm]; exact h.upd hU5 (fun _ _ => not_nob)) h8
  have hf : four (bs.drop m) = t0 + 256 * t1 + 65536 * t2 + 16777216 * t3 := by rw [ht]; rfl
  refine refl_sum P _ _ w w5 ad n m c (sumV (bs.take m)) t0 t1 t2 t3 _ _ _ _ _ _ _ _ _ _ _ _ _ _ _ _ _ _ _ _ _ _ _ _ _ _ _ _ _ _ _ _ _ _ _ _ _ _ _ _ _ _ _ _ _ _ _ _ _ _ _ _ _ _ _ _ _ _ _ _ _ _ _ _ _ _ _ _ _ _ _ _ _ _ _ _ _ _ _ _ _ _ _ _ _ _ _ _ _ _ _ _ _ _ _ _ _ _ _ _ _ _ _ _ _ _ _ _ _ _ _ _ _ _ _ _ _ _ _ _ _ _ _ _ _ _ _ _ _ _ _ _ _ rfl hm hn (sumV_range _) q0.1 q1.1 q2.1 q3.1 q0.2 q1.2 q2.2 q3.2 hC5 hU5 (fun hs w' hv => ?_) (fun hs => ?_)
  · rw [← hP, if_neg (by rw [hf]; exact hs)]
    exact ⟨rfl, hv⟩
  · intro _ _ _ _ _ _ _ _ _ _ _ _ _ _ _ _ _ _ _ _ _ _ _ _ _ _ _ _ _ _ _ _ _ _ _ _ _ _ _ _ _ _ _ _ _ _ _ _ _ _ _ _ _ _ _ _ _ _ _ _ _ _ _ _ _ _ _ _ _ _ _ _ _ _ _ _ _ _ _ _ _ _ _ _ _ _ _ _ _ _ _ _ _ _ _ _ _ _ _ _ _ _ _ _ _ _ _ _ _ _ _ _ _ _ _ _ _ _ _ _ _ _ _ _ _ _ _ _ _ _ _ _ _
    refine refl_rest P w w5.drew S ad n c m (bs.take m) _ _ _ _ _ _ _ _ _ _ _ _ _ _ _ _ _ _ _ _ _ _ _ _ _ _ _ _ _ _ _ _ _ _ _ _ _ _ _ _ _ _ _ _ _ _ _ _ _ _ _ _ _ _ _ _ _ _ _ _ _ _ _ _ _ _ _ _ _ _ _ _ _ _ _ _ _ _ _ _ _ _ _ _ _ _ _ _ _ _ _ _ _ _ _ _ _ _ _ _ _ _ _ _ _ _ _ _ _ _ _ _ _ _ _ _ _ _ _ _ _ _ _ _ _ _ _ _ _ _ _ _ _ _ _ rfl (reads_take (m := m) ((h.upd hU5 (fun _ _ => not_nob)).drew) (by omega)) (fun x hx => h8 x (List.mem_of_mem_take hx)) hm4 (by omega) (by omega) hc hS hC5.drew hU5.drew (fun hb w' hv => ?_) (fun is start caps A c' gs w' hb hp hv => ?_)
    · rw [← hP, if_pos (by rw [hf]; exact hs), hb]
      exact ⟨rfl, hv⟩
    · rw [← hP, if_pos (by rw [hf]; exact hs), hb]
      exact ⟨A, c', gs, rfl, hp, hv⟩
theorem refLoad_any (w : World) (S : Nat → Prop) (A : Option Addr) (n c : Nat) (bs : List Int) (h : Reads w S 1 A n (bytv bs)) (h8 : ∀ x ∈ bs, 0 ≤ x ∧ x ≤ 255) (hS : ∀ b, S b → b < w.heap.size) (hc : n ≤ c) :
    Calls Tryd.prog 14 #[.slice A n c] w (LoadAns w (loadX bs) (loadC bs)) := by
  have hl : bs.length = n := by have := h.1; simpa [bytv] using this
  unfold loadX loadC
  by_cases hn : 8388608 < n
  · rw [if_pos (by omega), if_pos (by omega)]
    exact refLoad_over w A n c hn
  rw [if_neg (by omega), if_neg (by omega)]
  have hn : n ≤ 8388608 := by omega
  by_cases h0 : n < 8
  · have e : loadB bs = none := by unfold loadB; rw [if_neg (by omega)]
    rw [e]
    exact refLoad_short w A n c h0
  obtain ⟨ad, rfl, -⟩ := h.2 (by omega)
  by_cases hh : ¬ bs.take 4 = [72, 82, 80, 71]
  · have e : loadB bs = none := by unfold loadB; rw [if_neg (fun k => hh k.2.1)]
    rw [e]
    exact refLoad_head w S ad n c bs h hn (by omega) hh
  have hh := Classical.not_not.1 hh
  have hm : n = (n - 4) + 4 := by omega
  have e4 : bs.length - 4 = n - 4 := by omega
  have e : loadB bs = if sumV (bs.take (n - 4)) = four (bs.drop (n - 4)) then bodyB ((bs.take (n - 4)).drop 4) else none := by
    unfold loadB
    rw [e4]
    by_cases hs : sumV (bs.take (n - 4)) = four (bs.drop (n - 4))
    · rw [if_pos hs, if_pos ⟨by omega, hh, hs⟩]
    · rw [if_neg hs, if_neg (fun k => hs k.2.2)]
  rw [e]
  exact refLoad_tail w S ad n (n - 4) c bs h h8 hS hn hc hm (by omega) hh
end Go.Proofs.YtdbdokjlcdogiaaDoor
