/-
  Par, WaysR, put together.
-/
import Derived.Test.YtlaofcgllchedaaZ32ParS

/-
  The walk of heronref06.Parses. Printed by tools/mkPar.py.
-/
namespace Go.Proofs.Ytlaofcgllchedaa
open Go.RowKit
set_option linter.unusedVariables false

theorem TextR.lower {w : World} {S : Nat → Prop} {A : Option Addr} {n : Nat} {xs : List Int} (h : TextR w S A n xs) : TextR w (fun b => b < w.heap.size) A n xs :=
  ⟨⟨h.r.1, fun hn => by obtain ⟨ad, e, hb, hs, hc⟩ := h.r.2 hn; exact ⟨ad, e, hb, hb, hc⟩⟩, h.i, h.n⟩
theorem OutR.low {w : World} {base base' : Nat} {OA : Option Addr} {oc : Nat} {out : List (Nat × List Int)} (h : OutR w base OA oc out) (hb : base' ≤ base) : OutR w base' OA oc out := by
  obtain ⟨gs, h1, h2, h3⟩ := h
  exact ⟨gs, h1, own_base h2 (fun g hg => Nat.le_trans hb (wk_lo h2 hg)), fun i p c g k hi hg => own_base (h3 i p c g k hi hg) (fun g' hg' => Nat.le_trans hb (wk_lo (h3 i p c g k hi hg) hg'))⟩
/-- 'make([]bool, n)' on a walk -/
theorem wpList_make_marks (w : World) {ops : Array Oper} {rest : List Oper} {o : Oper} {a : Act} {Q : Exit → Act → World → Prop} (hg : o.guard = none) (l : Operand) (hop : o.op = Op.makeSlice 40 l l)
    (C : Int) (n : Nat) (hl : a.eval l = .int .i64 C) (hC : C = (n : Int)) (hn : n ≤ 100000)
    (hK : wpList Try.prog ops Q rest (a.put o.dst (.slice (some ⟨w.heap.size, 0, none⟩) n n)) (w.alloc (.cells (rowC noMark n) 4))) : wpList Try.prog ops Q (o :: rest) a w := by
  refine wpList_plain hg fun K hK' => ?_
  obtain ⟨i0, hi0, hz0, hz1, hz2⟩ := info_parts pinfo_bool
  subst hC
  have hrun := run_make (P := Try.prog) w 40 4 i0 (.bool false) Try.underlying40 hi0 hz0 .i64 .i64 (n : Int) (n : Int) (by omega) (by omega) (by rw [hz2]; omega) (by omega)
  rw [Int.toNat_natCast, hz1, made_marks] at hrun
  unfold Oper.wp
  simp [execOp, hop, hl, hrun, Result.andThen]
  exact hK' _ _ hK

/-- what came out -/
structure ParOk (t : Tree) (xs : List Int) (a : Int) (w w' : World) (OA : Option Addr) (oc : Nat) (out : List (Nat × List Int)) : Prop where
  sound : SoundF t
  size : szT t ≤ 2000
  a0 : 0 ≤ a
  a1 : a ≤ xs.length
  short : xs.length ≤ 64
  mem : OutR w' w.heap.size OA oc out
  few : out.length ≤ xs.length + 1
  run : ∃ s', Run (envX xs) (unfT t []).1 a.toNat (.B (unfT t []).2 a.toNat (List.replicate (2 * grtT t + 2).toNat (-1))) st0 s' ∧ s'.out = out
def ParYes (t : Tree) (xs : List Int) (a : Int) : Prop := xs.length ≤ 64 ∧ NoG t ∧ SoundOk t ∧ szT t ≤ 2000 ∧ 0 ≤ a ∧ a ≤ xs.length
def ParAns (t : Tree) (xs : List Int) (a : Int) (w : World) (e : Ending) (w' : World) : Prop :=
  ∃ (er : Int) (OA : Option Addr) (oc : Nat) (out : List (Nat × List Int)), e = .returned (.tuple #[.slice OA out.length oc, .int .i64 er]) ∧ Upd Nob w w' ∧ (er = 0 → ParOk t xs a w w' OA oc out) ∧ (ParYes t xs a → er = 0)
set_option maxRecDepth 100000 in
set_option maxHeartbeats 8000000 in
theorem par_tail (P : Ending → World → Prop) (K : Code) (w : World) (F : Fx) (s' : WSt) (n p cb m wb : Nat) (x0 x1 x3 x4 x5 x6 x7 x8 x9 x10 x13 x15 x16 x17 x18 x19 x20 x21 x22 x23 x24 x25 x26 x27 x28 x29 x30 x31 x32 x33 x34 x35 x36 x37 x38 x39 x40 x41 x42 x43 x44 x45 x46 x47 x48 x49 x50 x51 x52 x53 x54 x55 x56 x57 x58 x59 x60 x61 x62 x63 x64 x65 x66 x67 x68 x69 x70 x71 x72 x73 x74 x75 x76 x77 x78 x79 x80 x81 x82 x83 x84 x85 x86 x87 x88 x89 x90 x91 x92 x93 x94 x95 x96 x97 x98 x99 x100 x101 x102 x103 x104 x105 x106 : Value) (hK : Try.f21.body = some K) (hwb : F.wb = wb)
    (hC : Calls Try.prog 28 #[.pointer (some ⟨wb, 0, none⟩), .int .i64 (n : Int), .int .i64 (p : Int), .slice (some ⟨cb, 0, none⟩) m m] w (Ans F w s' none))
    (hP : ∀ (OA : Option Addr) (oc : Nat) (w' : World), Nx F w s' none w' OA oc → P (.returned (.tuple #[.slice OA s'.out.length oc, .int .i64 0])) w') :
    (seqAt K 13).wp Try.prog (bodyPost Try.prog Try.f21 P) ⟨#[x0, x1, .int .i64 (p : Nat), x3, x4, x5, x6, x7, x8, x9, x10, .int .i64 (n : Nat), .pointer (some ⟨wb, 0, none⟩), x13, .slice (some ⟨cb, 0, none⟩) m m, x15, x16, x17, x18, x19, x20, x21, x22, x23, x24, x25, x26, x27, x28, x29, x30, x31, x32, x33, x34, x35, x36, x37, x38, x39, x40, x41, x42, x43, x44, x45, x46, x47, x48, x49, x50, x51, x52, x53, x54, x55, x56, x57, x58, x59, x60, x61, x62, x63, x64, x65, x66, x67, x68, x69, x70, x71, x72, x73, x74, x75, x76, x77, x78, x79, x80, x81, x82, x83, x84, x85, x86, x87, x88, x89, x90, x91, x92, x93, x94, x95, x96, x97, x98, x99, x100, x101, x102, x103, x104, x105, x106], []⟩ w := by
  injection hK with hK
  subst hK
  subst hwb
  have HC := hideP hC
  have HP := hideP hP
  clear hC hP
  simp only [seqAt]
  go_upto_region 25 with (go_at_call 28; refine HC.out.mono ?_; rintro e w1 ⟨rfl, OA, oc, hX⟩; have HX := hideP hX; clear hX)
  have c6 : w1.cell? ⟨F.wb, 0 + 6, none⟩ = some (.slice OA s'.out.length oc) := HX.out.wk.wk.cellv rfl
  go_wp2_with fail
  try go_ret
  exact HP.out _ _ _ HX.out
theorem oinfo_int2 : (Try.prog.info? 3).map (fun i => (i.zero, i.size, i.bytes)) = some (some (.int .i64 0), 1, 8) := by kernel_rfl
set_option maxRecDepth 100000 in
set_option maxHeartbeats 8000000 in
theorem par_mid (Q : Exit → Act → World → Prop) (K rest : Code) (w : World) (xb : Nat) (t : Tree) (S : Nat → Prop) (RA SA : Option Addr) (rc sc : Nat) (x0 x1 x2 x4 x5 x6 x7 x8 x9 x10 x11 x12 x13 x14 x15 x16 x17 x18 x19 x20 x21 x22 x23 x24 x25 x26 x27 x28 x29 x30 x31 x32 x33 x34 x35 x36 x37 x38 x39 x40 x41 x42 x43 x44 x45 x46 x47 x48 x49 x50 x51 x52 x53 x54 x55 x56 x57 x58 x59 x60 x61 x62 x63 x64 x65 x66 x67 x68 x69 x70 x71 x72 x73 x74 x75 x76 x77 x78 x79 x80 x81 x82 x83 x84 x85 x86 x87 x88 x89 x90 x91 x92 x93 x94 x95 x96 x97 x98 x99 x100 x101 x102 x103 x104 x105 x106 : Value) (hK : Try.f21.body = some K)
    (hC : Cells w xb 30 #[.int .i64 t.kind, .slice RA t.rs.length rc, .int .i64 t.am, .slice SA t.subs.length sc, .int .i64 t.mn, .int .i64 t.mx, .bool t.lz, .int .i64 t.ix, .string t.nm]) (hN : NodeR w S #[.int .i64 t.kind, .slice RA t.rs.length rc, .int .i64 t.am, .slice SA t.subs.length sc, .int .i64 t.mn, .int .i64 t.mx, .bool t.lz, .int .i64 t.ix, .string t.nm] t) (hg0 : 0 ≤ grtT t) (hg1 : grtT t ≤ 500)
    (hnext : ∀ (v84 v85 v86 v87 v88 : Value) (w' : World) (cb m : Nat), m = (2 * grtT t + 2).toNat → w.heap.size ≤ cb → w'.ownsRow w.heap.size 3 1 (.slice (some ⟨cb, 0, none⟩) m m) m (intv (List.replicate m 0)) → Upd Nob w w' → rest.wp Try.prog Q ⟨#[x0, x1, x2, .pointer (some ⟨xb, 0, none⟩), x4, x5, x6, x7, x8, x9, x10, x11, x12, x13, .slice (some ⟨cb, 0, none⟩) m m, x15, x16, x17, x18, x19, x20, x21, x22, x23, x24, x25, x26, x27, x28, x29, x30, x31, x32, x33, x34, x35, x36, x37, x38, x39, x40, x41, x42, x43, x44, x45, x46, x47, x48, x49, x50, x51, x52, x53, x54, x55, x56, x57, x58, x59, x60, x61, x62, x63, x64, x65, x66, x67, x68, x69, x70, x71, x72, x73, x74, x75, x76, x77, x78, x79, x80, x81, x82, x83, v84, v85, v86, v87, v88, x89, x90, x91, x92, x93, x94, x95, x96, x97, x98, x99, x100, x101, x102, x103, x104, x105, x106], []⟩ w') :
    (Code.seq (fstAt K 11) rest).wp Try.prog Q ⟨#[x0, x1, x2, .pointer (some ⟨xb, 0, none⟩), x4, x5, x6, x7, x8, x9, x10, x11, x12, x13, x14, x15, x16, x17, x18, x19, x20, x21, x22, x23, x24, x25, x26, x27, x28, x29, x30, x31, x32, x33, x34, x35, x36, x37, x38, x39, x40, x41, x42, x43, x44, x45, x46, x47, x48, x49, x50, x51, x52, x53, x54, x55, x56, x57, x58, x59, x60, x61, x62, x63, x64, x65, x66, x67, x68, x69, x70, x71, x72, x73, x74, x75, x76, x77, x78, x79, x80, x81, x82, x83, x84, x85, x86, x87, x88, x89, x90, x91, x92, x93, x94, x95, x96, x97, x98, x99, x100, x101, x102, x103, x104, x105, x106], []⟩ w := by
  injection hK with hK
  subst hK
  obtain ⟨i0, hi0, hz0, hz1, hz2⟩ := info_parts oinfo_int2
  have HN := hideP hN
  have HT := hideP hnext
  obtain ⟨e0, e1, e2, e3, e4, e5, e6, e7, e8⟩ := nineN hC
  obtain ⟨g, hg⟩ : ∃ g : Nat, grtT t = (g : Int) := Int.eq_ofNat_of_zero_le hg0
  have hg5 : g ≤ 500 := by omega
  have HG := hideP hg
  have vw1 : IntKind.i64.wrap (2 * (g : Int)) = 2 * (g : Int) := by rw [IntKind.wrap_i64]; omega
  have vw2 : IntKind.i64.wrap (2 * (g : Int) + 2) = 2 * (g : Int) + 2 := by rw [IntKind.wrap_i64]; omega
  have hz : (madeCells (Value.int .i64 0).cells ((2 * g + 2) * 1)).toList = intv (List.replicate (2 * g + 2) 0) := by
    rw [show (Value.int .i64 0).cells = #[Value.int .i64 0] from rfl, toList_madeCells_one, Nat.mul_one]
    simp [intv]
  have HZ := hideP hz
  clear hC hN hnext hg hg0 hg1 hz
  simp only [fstAt]
  go_wp2_with (first | (go_at_call 27; refine (greatest_go _ t _ _ _ (Nat.le_refl _) HN.out).mono ?_; rintro e w1 ⟨rfl, -, hU1⟩; rw [HG.out]; have HU1 := hideP hU1; have hs1 := hU1.size; clear hU1) | (at_make; refine wpList_make_full w1 rfl _ _ 22 rfl w.heap.size 3 i0 (.int .i64 0) 1 Try.underlying22 hi0 hz0 hz1 .i64 .i64 _ _ (2 * g + 2) rfl rfl (by omega) (by omega) (by rw [hz2]; omega) (by unfold maxLen; omega) hs1 ?_; intro w2 o2 hg2; rw [HZ.out] at o2; have HO2 := hideP o2; have HU2 := hideP (HU1.out.grown hg2 (by simp)); clear o2 hg2))
  exact HT.out _ _ _ _ _ w2 _ _ (by have := HG.out; omega) hs1 HO2.out HU2.out
set_option maxRecDepth 100000 in
set_option maxHeartbeats 8000000 in
theorem par_head (P : Ending → World → Prop) (K rest : Code) (w : World) (t : Tree) (S S2 : Nat → Prop) (xs : List Int) (a : Int) (RA SA TA : Option Addr) (rc sc tc : Nat) (x3 x4 x5 x6 x7 x8 x9 x10 x11 x12 x13 x14 x15 x16 x17 x18 x19 x20 x21 x22 x23 x24 x25 x26 x27 x28 x29 x30 x31 x32 x33 x34 x35 x36 x37 x38 x39 x40 x41 x42 x43 x44 x45 x46 x47 x48 x49 x50 x51 x52 x53 x54 x55 x56 x57 x58 x59 x60 x61 x62 x63 x64 x65 x66 x67 x68 x69 x70 x71 x72 x73 x74 x75 x76 x77 x78 x79 x80 x81 x82 x83 x84 x85 x86 x87 x88 x89 x90 x91 x92 x93 x94 x95 x96 x97 x98 x99 x100 x101 x102 x103 x104 x105 x106 : Value) (hK : Try.f21.body = some K)
    (hN : NodeR w S #[.int .i64 t.kind, .slice RA t.rs.length rc, .int .i64 t.am, .slice SA t.subs.length sc, .int .i64 t.mn, .int .i64 t.mx, .bool t.lz, .int .i64 t.ix, .string t.nm] t) (hx : TextR w S2 TA xs.length xs) (ha : In64 a)
    (hno : ∀ (er : Int) (w' : World), er ≠ 0 → ¬ ParYes t xs a → Upd Nob w w' → P (.returned (.tuple #[.slice none 0 0, .int .i64 er])) w')
    (hnext : ∀ (y0 y4 y5 y6 y7 y8 y9 y13 y14 y15 y16 y17 y18 y19 y20 y21 y22 y23 y24 y25 y26 y27 y28 y29 y30 y31 y32 y33 y34 y35 y36 y37 y38 y39 y40 y41 y42 y43 y44 y45 y46 y47 y48 y49 y50 y51 y52 y53 y54 y55 y56 y57 y58 y59 y60 y61 y62 y63 y64 y65 y66 y67 y68 y69 y70 y71 y72 y73 y74 y75 y76 y77 y78 y79 y80 y81 y82 y83 y84 y85 y86 y87 y88 y89 y90 y91 y92 y93 y94 y95 y96 y97 y98 y99 y100 y101 y102 y103 y104 y105 y106 : Value) (w6 w7 : World) (an xb tb wb eb lc : Nat) (TL : Option Addr), a = (an : Nat) → an ≤ xs.length → xs.length ≤ 64 → SoundF t → szT t ≤ 2000 → TabR w6 tb tb (fun b => b < tb) Nob (unfT t []).1 TL lc → tb ≤ w6.heap.size → Upd Nob w w6 → Upd Nob w6 w7 →
      Cells w7 xb 30 #[.int .i64 t.kind, .slice RA t.rs.length rc, .int .i64 t.am, .slice SA t.subs.length sc, .int .i64 t.mn, .int .i64 t.mx, .bool t.lz, .int .i64 t.ix, .string t.nm] → Cells w7 eb 4 (rowC noMark (xs.length + 1)) → Cells w7 wb 65 #[.pointer (some ⟨tb, 0, none⟩), .slice TA xs.length tc, .int .i64 (an : Nat), .slice none 0 0, .slice none 0 0, .slice (some ⟨eb, 0, none⟩) (xs.length + 1) (xs.length + 1), .slice none 0 0] → w6.heap.size ≤ eb → w6.heap.size ≤ wb → eb ≠ wb →
      rest.wp Try.prog (bodyPost Try.prog Try.f21 P) ⟨#[y0, .slice TA xs.length tc, .int .i64 (an : Nat), .pointer (some ⟨xb, 0, none⟩), y4, y5, y6, y7, y8, y9, .pointer (some ⟨tb, 0, none⟩), .int .i64 ((unfT t []).2 : Nat), .pointer (some ⟨wb, 0, none⟩), y13, y14, y15, y16, y17, y18, y19, y20, y21, y22, y23, y24, y25, y26, y27, y28, y29, y30, y31, y32, y33, y34, y35, y36, y37, y38, y39, y40, y41, y42, y43, y44, y45, y46, y47, y48, y49, y50, y51, y52, y53, y54, y55, y56, y57, y58, y59, y60, y61, y62, y63, y64, y65, y66, y67, y68, y69, y70, y71, y72, y73, y74, y75, y76, y77, y78, y79, y80, y81, y82, y83, y84, y85, y86, y87, y88, y89, y90, y91, y92, y93, y94, y95, y96, y97, y98, y99, y100, y101, y102, y103, y104, y105, y106], []⟩ w7) :
    (Code.seq (fstAt K 0) (Code.seq (fstAt K 1) (Code.seq (fstAt K 2) (Code.seq (fstAt K 3) (Code.seq (fstAt K 4) (Code.seq (fstAt K 5) (Code.seq (fstAt K 6) (Code.seq (fstAt K 7) (Code.seq (fstAt K 8) (Code.seq (fstAt K 9) rest)))))))))).wp Try.prog (bodyPost Try.prog Try.f21 P) ⟨#[.agg #[.int .i64 t.kind, .slice RA t.rs.length rc, .int .i64 t.am, .slice SA t.subs.length sc, .int .i64 t.mn, .int .i64 t.mx, .bool t.lz, .int .i64 t.ix, .string t.nm], .slice TA xs.length tc, .int .i64 a, x3, x4, x5, x6, x7, x8, x9, x10, x11, x12, x13, x14, x15, x16, x17, x18, x19, x20, x21, x22, x23, x24, x25, x26, x27, x28, x29, x30, x31, x32, x33, x34, x35, x36, x37, x38, x39, x40, x41, x42, x43, x44, x45, x46, x47, x48, x49, x50, x51, x52, x53, x54, x55, x56, x57, x58, x59, x60, x61, x62, x63, x64, x65, x66, x67, x68, x69, x70, x71, x72, x73, x74, x75, x76, x77, x78, x79, x80, x81, x82, x83, x84, x85, x86, x87, x88, x89, x90, x91, x92, x93, x94, x95, x96, x97, x98, x99, x100, x101, x102, x103, x104, x105, x106], []⟩ w := by
  injection hK with hK
  subst hK
  have HN := hideP hN.lower
  have hxn := hx.n
  have HX := hideP hx
  have HPn := hideP hno
  have HT := hideP hnext
  have C0 := Cells.new w 30 #[.int .i64 t.kind, .slice RA t.rs.length rc, .int .i64 t.am, .slice SA t.subs.length sc, .int .i64 t.mn, .int .i64 t.mx, .bool t.lz, .int .i64 t.ix, .string t.nm]
  have hU := (Upd.refl Nob w).alloc (.cells #[.int .i64 t.kind, .slice RA t.rs.length rc, .int .i64 t.am, .slice SA t.subs.length sc, .int .i64 t.mn, .int .i64 t.mx, .bool t.lz, .int .i64 t.ix, .string t.nm] 30)
  obtain ⟨ha0, ha1⟩ := ha
  clear hN hx hno hnext
  simp only [fstAt]
  go_upto_region 1 with fail
  generalize w.alloc (.cells #[.int .i64 t.kind, .slice RA t.rs.length rc, .int .i64 t.am, .slice SA t.subs.length sc, .int .i64 t.mn, .int .i64 t.mx, .bool t.lz, .int .i64 t.ix, .string t.nm] 30) = w2 at *
  obtain ⟨xb, hxb⟩ : ∃ xb, w.heap.size = xb := ⟨_, rfl⟩
  have HXB := hideP hxb
  simp only [hxb] at C0
  rw [hxb]
  have HU := hideP hU
  have HC := hideP C0
  obtain ⟨e0, e1, e2, e3, e4, e5, e6, e7, e8⟩ := nineN C0
  clear C0 hU hxb
  by_cases g1 : 64 < xs.length
  · have g1' : (64 : Int) < (xs.length : Int) := by omega
    have HQ := hideP (show ¬ ParYes t xs a from fun h => by have := h.1; omega)
    clear g1
    go_wp2_with fail
    try go_ret
    exact HPn.out _ _ (by decide) HQ.out HU.out
  have g1' : ¬ (64 : Int) < (xs.length : Int) := by omega
  go_upto_region 4 with (go_at_call 12; refine (refSound_two t _ _ _ (HN.out.upd_ HU.out (fun _ _ => not_nob))).mono ?_; rintro e w3 ⟨r, rfl, hr, hy, hU3⟩; have HR := hideP hr; have HY := hideP hy; have HU3 := hideP (HU.out.trans hU3 (fun _ _ h => h)); have HC3 := hideP (HC.out.upd hU3 not_nob); clear hr hy hU3 e0 e1 e2 e3 e4 e5 e6 e7 e8)
  rcases r with _ | _
  · have HQ := hideP (show ¬ ParYes t xs a from fun h => by have := HY.out h.2.1 h.2.2.1; cases this)
    simp only [if_neg Bool.false_ne_true]
    go_wp2_with fail
    try go_ret
    exact HPn.out _ _ (by decide) HQ.out HU3.out
  simp only [if_true]
  have HS := hideP (HR.out rfl)
  clear HR HY
  obtain ⟨e0, e1, e2, e3, e4, e5, e6, e7, e8⟩ := nineN HC3.out
  go_upto_region 7 with (go_at_call 25; refine (size_go _ t _ _ _ (Nat.le_refl _) (okV_of _ t 1 (Nat.le_refl _) HS.out.ok.1) (HN.out.upd_ HU3.out (fun _ _ => not_nob))).mono ?_; rintro e w4 ⟨rfl, hz, hU4⟩; have HZ := hideP hz; have HU4 := hideP (HU3.out.trans hU4 (fun _ _ h => h)); have HC4 := hideP (HC3.out.upd hU4 not_nob); clear hz hU4 e0 e1 e2 e3 e4 e5 e6 e7 e8)
  obtain ⟨z, hz⟩ : ∃ z, szT t = z := ⟨_, rfl⟩
  have HZE := hideP hz
  rw [hz]
  obtain ⟨hz0, hz1⟩ := HZ.out
  rw [hz] at hz0 hz1
  clear hz
  by_cases g2 : 2000 < z
  · have HQ := hideP (show ¬ ParYes t xs a from fun h => by have := h.2.2.2.1; have := HZE.out; omega)
    go_wp2_with fail
    try go_ret
    exact HPn.out _ _ (by decide) HQ.out HU4.out
  by_cases g3 : a < 0
  · have HQ := hideP (show ¬ ParYes t xs a from fun h => by have := h.2.2.2.2.1; omega)
    go_wp2_with fail
    try go_ret
    exact HPn.out _ _ (by decide) HQ.out HU4.out
  by_cases g4 : (xs.length : Int) < a
  · have HQ := hideP (show ¬ ParYes t xs a from fun h => by have := h.2.2.2.2.2; omega)
    go_wp2_with fail
    try go_ret
    exact HPn.out _ _ (by decide) HQ.out HU4.out
  obtain ⟨an, rfl⟩ : ∃ an : Nat, a = (an : Int) := Int.eq_ofNat_of_zero_le (by omega)
  have HSZ := hideP (show szT t ≤ 2000 by have := HZE.out; omega)
  have HTK := hideP (tab_ok HS.out HSZ.out)
  go_upto_region 12 with fail
  have CT := Cells.new w4 61 #[.slice none 0 0]
  have hU5 := (Upd.refl Nob w4).alloc (.cells #[.slice none 0 0] 61)
  generalize w4.alloc (.cells #[.slice none 0 0] 61) = w5 at *
  obtain ⟨tb, htb⟩ : ∃ tb, w4.heap.size = tb := ⟨_, rfl⟩
  have HTB := hideP htb
  simp only [htb] at CT
  rw [htb]
  have hTab : TabR w5 tb tb (fun b => b < tb) Nob [] none 0 := ⟨CT, Nat.le_refl _, fun b hb => hb, ⟨[], rfl, World.ownsRow_nil _ _ _ _, fun i x q hi => by simp at hi⟩, fun b hb => absurd hb not_nob⟩
  have HN5 := hideP (((HN.out.upd_ HU4.out (fun _ _ => not_nob)).upd_ hU5 (fun _ _ => not_nob)).weaken (S' := fun b => b < tb) (fun b hb => by have := HU4.out.size; omega))
  have HUF := hideP (unf_any (base := tb) (tb := tb) (S := fun b => b < tb) _ t (Nat.le_refl _) HTK.out.u HTK.out.v Nob w5 [] none 0 _ hTab HN5.out (by have := HTK.out.len; omega))
  have HU5 := hideP (HU4.out.trans hU5 (fun _ _ h => h))
  have HC5 := hideP (HC4.out.upd hU5 not_nob)
  have HLT := hideP (And.intro HTB.out (And.intro hU5.size CT.lt))
  clear hTab CT hU5 htb
  obtain ⟨e0, e1, e2, e3, e4, e5, e6, e7, e8⟩ := nineN HC5.out
  go_upto_region 13 with (go_at_call 26; refine HUF.out.mono ?_; rintro e w6 ⟨rfl, TL, lc, hX⟩; have HXX := hideP hX; clear hX e0 e1 e2 e3 e4 e5 e6 e7 e8)
  have HU56 := hideP (show Upd Nob w w6 from HU5.out.trans HXX.out.upd (fun b hb hf => by
    have h1 := HU4.out.size
    have h2 := HLT.out.1
    rcases hf with rfl | hf
    · omega
    · simp at hf))
  have HC6 := hideP (HC5.out.upd HXX.out.upd (fun hf => by
    have h1 := HC4.out.lt
    have h2 := HLT.out.1
    rcases hf with rfl | hf
    · omega
    · simp at hf))
  have HTB6 := hideP HXX.out.tab.size
  obtain ⟨top, htop⟩ : ∃ top, (unfT t []).2 = top := ⟨_, rfl⟩
  have HTOP := hideP htop
  rw [htop]
  clear htop
  have vw : IntKind.i64.wrap ((xs.length : Int) + 1) = (xs.length : Int) + 1 := by rw [IntKind.wrap_i64]; omega
  have CE := Cells.new w6 4 (rowC noMark (xs.length + 1))
  have hU7 := (Upd.refl Nob w6).alloc (.cells (rowC noMark (xs.length + 1)) 4)
  have hs7 : (w6.alloc (.cells (rowC noMark (xs.length + 1)) 4)).heap.size = w6.heap.size + 1 := World.size_alloc _ _
  have HS7 := hideP hs7
  have HE := hideP CE
  have HU7 := hideP hU7
  clear CE hU7 hs7
  go_wp2_with (at_make; refine wpList_make_marks w6 rfl _ rfl _ (xs.length + 1) rfl (by omega) (by omega) ?_; try generalize w6.alloc (.cells (rowC noMark (xs.length + 1)) 4) = w7 at *)
  have CW := Cells.new w7 65 #[.pointer (some ⟨tb, 0, none⟩), .slice TA xs.length tc, .int .i64 (an : Nat), .slice none 0 0, .slice none 0 0, .slice (some ⟨w6.heap.size, 0, none⟩) (xs.length + 1) (xs.length + 1), .slice none 0 0]
  have hU8 := (Upd.refl Nob w7).alloc (.cells #[.pointer (some ⟨tb, 0, none⟩), .slice TA xs.length tc, .int .i64 (an : Nat), .slice none 0 0, .slice none 0 0, .slice (some ⟨w6.heap.size, 0, none⟩) (xs.length + 1) (xs.length + 1), .slice none 0 0] 65)
  rw [← HTOP.out]
  exact HT.out _ _ _ _ _ _ _ _ _ _ _ _ _ _ _ _ _ _ _ _ _ _ _ _ _ _ _ _ _ _ _ _ _ _ _ _ _ _ _ _ _ _ _ _ _ _ _ _ _ _ _ _ _ _ _ _ _ _ _ _ _ _ _ _ _ _ _ _ _ _ _ _ _ _ _ _ _ _ _ _ _ _ _ _ _ _ _ _ _ _ _ _ _ _ _ _ _ _ _ _ _ w6 _ an xb tb _ _ lc TL rfl (by omega) (by omega) HS.out HSZ.out HXX.out.tab (by have := HTB6.out; omega) HU56.out (HU7.out.trans hU8 (fun _ _ h => h)) ((HC6.out.upd HU7.out not_nob).upd hU8 not_nob) (HE.out.upd hU8 not_nob) CW (Nat.le_refl _) (by have := HS7.out; omega) (by have := HS7.out; omega)
set_option maxRecDepth 100000 in
set_option maxHeartbeats 8000000 in
theorem parses_any (t : Tree) (w : World) (S S2 : Nat → Prop) (cs : Array Value) (xs : List Int) (TA : Option Addr) (tc : Nat) (a : Int) (h1 : NodeR w S cs t) (hx : TextR w S2 TA xs.length xs) (ha : In64 a) :
    Calls Try.prog 21 #[.agg cs, .slice TA xs.length tc, .int .i64 a] w (ParAns t xs a w) := by
  obtain ⟨RA, rc, SA, sc, rfl, -⟩ := h1.top
  unfold nodeCells at h1 ⊢
  generalize hP : ParAns t xs a w = P
  go_enter Try.func21, Try.ntmps21
  refine par_head P _ _ w t S S2 xs a RA SA TA rc sc tc _ _ _ _ _ _ _ _ _ _ _ _ _ _ _ _ _ _ _ _ _ _ _ _ _ _ _ _ _ _ _ _ _ _ _ _ _ _ _ _ _ _ _ _ _ _ _ _ _ _ _ _ _ _ _ _ _ _ _ _ _ _ _ _ _ _ _ _ _ _ _ _ _ _ _ _ _ _ _ _ _ _ _ _ _ _ _ _ _ _ _ _ _ _ _ _ _ _ _ _ _ _ _ _ rfl h1 hx ha ?_ ?_
  · intro er w' h0 hn hU
    rw [← hP]
    exact ⟨er, none, 0, [], rfl, hU, fun h => absurd h h0, fun h => absurd h hn⟩
  intro y0 y4 y5 y6 y7 y8 y9 y13 y14 y15 y16 y17 y18 y19 y20 y21 y22 y23 y24 y25 y26 y27 y28 y29 y30 y31 y32 y33 y34 y35 y36 y37 y38 y39 y40 y41 y42 y43 y44 y45 y46 y47 y48 y49 y50 y51 y52 y53 y54 y55 y56 y57 y58 y59 y60 y61 y62 y63 y64 y65 y66 y67 y68 y69 y70 y71 y72 y73 y74 y75 y76 y77 y78 y79 y80 y81 y82 y83 y84 y85 y86 y87 y88 y89 y90 y91 y92 y93 y94 y95 y96 y97 y98 y99 y100 y101 y102 y103 y104 y105 y106 w6 w7 an xb tb wb eb lc TL han hal h64 hso hsz hT htb6 hU06 hU67 hC7 hE7 hW7 heb hwb hne
  subst han
  have hok := tab_ok hso hsz
  have hlp := hok.lt
  have hlen := hok.len
  obtain ⟨qs, hq1, hq2, hq3⟩ := hT.row
  obtain ⟨tg, rfl⟩ := own_head hq2 (by omega)
  clear hq1 hq2 hq3 qs
  refine par_loop1 _ _ _ w7 wb tb xs.length tc (unfT t []).1.length lc TA (some ⟨tg, 0, none⟩) _ _ _ _ _ _ _ _ _ _ _ _ _ _ _ _ _ _ _ _ _ _ _ _ _ _ _ _ _ _ _ _ _ _ _ _ _ _ _ _ _ _ _ _ _ _ _ _ _ _ _ _ _ _ _ _ _ _ _ _ _ _ _ _ _ _ _ _ _ _ _ _ _ _ _ _ _ _ _ _ _ _ _ _ _ _ _ _ _ _ _ _ _ _ _ _ _ _ _ _ _ _ _ _ _ _ _ _ _ rfl (hT.tab.upd hU67 not_nob) hW7 (by omega) (by omega) ?_
  intro z0 z2 z3 z4 z5 z6 z7 z8 z9 z11 z13 z14 z15 z16 z17 z18 z19 z20 z21 z22 z23 z24 z25 z26 z27 z28 z29 z30 z31 z32 z33 z34 z35 z36 z37 z38 z39 z40 z41 z42 z43 z44 z45 z46 z47 z48 z49 z50 z51 z52 z53 z54 z55 z56 z57 z58 z59 z60 z61 z62 z63 z64 z65 z66 z67 z68 z69 z70 z71 z72 z73 z74 z75 z76 z77 z78 z79 z80 z81 z82 z83 z84 z85 z86 z87 z88 z89 z90 z91 z92 z93 z94 z95 z96 z97 z98 z99 z100 z101 z102 z103 z104 z105 z106 w8 BA DA bc dc bgb dcb hM e0 e2 e3 e11
  subst e2 e3 e11
  have hx7 := hM.upd
  have hxw : xb ≠ wb := Cells.ne_ hC7 hW7 (by decide)
  have hU68 : Upd Nob w6 w8 := hU67.trans hM.upd (fun b hb e => by omega)
  have hU08 : Upd Nob w w8 := hU06.trans hU68 (fun _ _ h => h)
  refine par_mid _ _ _ w8 xb t S RA SA rc sc _ _ _ _ _ _ _ _ _ _ _ _ _ _ _ _ _ _ _ _ _ _ _ _ _ _ _ _ _ _ _ _ _ _ _ _ _ _ _ _ _ _ _ _ _ _ _ _ _ _ _ _ _ _ _ _ _ _ _ _ _ _ _ _ _ _ _ _ _ _ _ _ _ _ _ _ _ _ _ _ _ _ _ _ _ _ _ _ _ _ _ _ _ _ _ _ _ _ _ _ _ _ _ _ _ _ rfl (hC7.upd hM.upd hxw) (h1.upd_ hU08 (fun _ _ => not_nob)) hok.g0 hok.g1 ?_
  intro v84 v85 v86 v87 v88 w9 cb m hm hcb hO9 hU89
  have hg0 := hok.g0
  have hg1 := hok.g1
  refine par_loop2 _ _ _ w9 cb m w8.heap.size _ _ _ _ _ _ _ _ _ _ _ _ _ _ _ _ _ _ _ _ _ _ _ _ _ _ _ _ _ _ _ _ _ _ _ _ _ _ _ _ _ _ _ _ _ _ _ _ _ _ _ _ _ _ _ _ _ _ _ _ _ _ _ _ _ _ _ _ _ _ _ _ _ _ _ _ _ _ _ _ _ _ _ _ _ _ _ _ _ _ _ _ _ _ _ _ _ _ _ _ _ _ _ _ _ _ rfl hO9 (by omega) ?_
  intro u0 u1 u2 u3 u4 u5 u6 u7 u8 u9 u10 u11 u12 u13 u15 u16 u17 u18 u19 u20 u21 u22 u23 u24 u25 u26 u27 u28 u29 u30 u31 u32 u33 u34 u35 u36 u37 u38 u39 u40 u41 u42 u43 u44 u45 u46 u47 u48 u49 u50 u51 u52 u53 u54 u55 u56 u57 u58 u59 u60 u61 u62 u63 u64 u65 u66 u67 u68 u69 u70 u71 u72 u73 u74 u75 u76 u77 u78 u79 u80 u81 u82 u83 u84 u85 u86 u87 u88 u89 u90 u91 u92 u93 u94 u95 u96 u97 u98 u99 u100 u101 u102 u103 u104 u105 u106 w10 hO10 hU9 e1 e2 e10 e11 e12
  subst e2 e11 e12
  have hU810 : Upd Nob w8 w10 := hU89.trans hU9 (fun b hb e => by omega)
  obtain ⟨F, S', f1, f2, f3, f4, f5, hRd, hWk, hTk, hmn, hml⟩ := par_ready hT hok (hx.lower.upd hU06 (fun _ _ => not_nob) |>.lower) h64 hE7 heb hwb hne hU67 hM hU810
  obtain ⟨s', hrun⟩ := par_run hok xs hal an (List.replicate (2 * grtT t + 2).toNat (-1))
  have hcon : Con F S' (2 * grtT t + 2).toNat 28 (unfT t []).2 an (List.replicate (2 * grtT t + 2).toNat (-1)) st0 s' := run_con (E := envX xs) (k := .B (unfT t []).2 an (List.replicate (2 * grtT t + 2).toNat (-1))) (s := st0) (s' := s') hTk (fun rs p => by rw [f4]; rfl) (fun b p => by rw [f4]; rfl) (at_ := an) f5.symm (by rw [f3]; exact hrun)
  have hcap : CapR w10 F none (some ⟨cb, 0, none⟩) (List.replicate (2 * grtT t + 2).toNat (-1)) := by
    have hr := Reads.of_own hO10
    unfold CapR
    rw [List.length_replicate, ← hm]
    exact hr.weaken (fun b hb => ⟨hmn b (by simp [Value.ownBlock] at hb; omega), by simp⟩)
  have hC := hcon (by rw [f3]; exact hlp) (by rw [f4]; exact hal) (by simp) w10 none 0 (some ⟨cb, 0, none⟩) m hRd hWk hcap
  rw [f1, ← hm] at hC
  refine par_tail P _ w10 F s' (unfT t []).2 an cb m wb _ _ _ _ _ _ _ _ _ _ _ _ _ _ _ _ _ _ _ _ _ _ _ _ _ _ _ _ _ _ _ _ _ _ _ _ _ _ _ _ _ _ _ _ _ _ _ _ _ _ _ _ _ _ _ _ _ _ _ _ _ _ _ _ _ _ _ _ _ _ _ _ _ _ _ _ _ _ _ _ _ _ _ _ _ _ _ _ _ _ _ _ _ _ _ _ _ _ _ _ _ _ _ rfl f1 hC ?_
  intro OA oc w' hX
  rw [← hP]
  have hU10 : Upd Nob w w10 := hU08.trans hU810 (fun _ _ h => h)
  refine ⟨0, OA, oc, s'.out, rfl, hU10.trans hX.upd (fun b hb hm => ?_), fun _ => ⟨hso, hsz, by omega, by omega, h64, hX.wk.out.low (by rw [f2]; exact hU10.size), ?_, s', by rw [Int.toNat_natCast]; exact hrun, rfl⟩, fun _ => rfl⟩
  · have h6 := hU06.size
    rcases hm with hm | hm
    · have := hml b hm; omega
    · cases hm
  · rw [hX.wk.cnt]
    have := cntE_le (F.xs.length + 1) s'.en
    rw [f4] at this
    rw [f4]
    exact this
end Go.Proofs.Ytlaofcgllchedaa

/-
  The walk of heronlaw08.reaches.
-/
namespace Go.Proofs.Ytlaofcgllchedaa
open Go.RowKit
set_option linter.unusedVariables false

/-- a square of marks, row behind row -/
def gridB (f : Nat → Nat → Bool) (n : Nat) : Nat → Bool := fun q => f (q / n) (q % n)
theorem grid_div {a n p : Nat} (h : p < n) : (a * n + p) / n = a ∧ (a * n + p) % n = p := by
  have h0 : 0 < n := by omega
  refine ⟨?_, ?_⟩
  · rw [Nat.add_comm, Nat.add_mul_div_right _ _ h0, Nat.div_eq_of_lt h]; omega
  · rw [Nat.add_comm, Nat.add_mul_mod_self_right, Nat.mod_eq_of_lt h]
theorem grid_at (f : Nat → Nat → Bool) {a n p : Nat} (h : p < n) : gridB f n (a * n + p) = f a p := by
  unfold gridB
  rw [(grid_div h).1, (grid_div h).2]
theorem grid_lt {a n p : Nat} (ha : a < n) (h : p < n) : a * n + p < n * n := by
  have : (a + 1) * n ≤ n * n := Nat.mul_le_mul_right _ ha
  rw [Nat.add_mul] at this
  omega
theorem grid_set {f : Nat → Nat → Bool} {a n p : Nat} (h : p < n) : (rowC (gridB f n) (n * n)).setIfInBounds (a * n + p) (.bool true) = rowC (gridB (mark2 f a p) n) (n * n) := by
  refine rowC_set (by rw [grid_at _ h, mark2_self]) (fun q hq => ?_)
  unfold gridB mark2
  rw [if_neg (fun e => hq ?_)]
  have := Nat.div_add_mod q n
  rw [e.1, e.2, Nat.mul_comm] at this
  exact this.symm
theorem flatO_at : ∀ (out : List (Nat × List Int)) (gs : List (Nat × Nat)) (i p : Nat) (c : List Int), gs.length = out.length → out[i]? = some (p, c) → (flatO out gs)[i * 2]? = some (.int .i64 (p : Int))
  | (p, c) :: out, (g, k) :: gs, 0, q, d, _, h => by
    simp at h
    simp [flatO, h.1]
  | (p, c) :: out, (g, k) :: gs, i + 1, q, d, hl, h => by
    simp only [List.getElem?_cons_succ] at h
    rw [show (i + 1) * 2 = i * 2 + 1 + 1 by omega]
    simp only [flatO, List.getElem?_cons_succ]
    exact flatO_at out gs i q d (by simpa using hl) h
  | [], _, _, _, _, _, h => by simp at h
  | _ :: _, [], _, _, _, h, _ => by simp at h
theorem OutR.cell {w : World} {base : Nat} {OA : Option Addr} {oc : Nat} {out : List (Nat × List Int)} (h : OutR w base OA oc out) {i p : Nat} {c : List Int} (hi : out[i]? = some (p, c)) :
    ∃ ob, OA = some ⟨ob, 0, none⟩ ∧ w.cell? ⟨ob, i * 2, none⟩ = some (.int .i64 (p : Int)) := by
  obtain ⟨gs, h1, h2, -⟩ := h
  have hl := (List.getElem?_eq_some_iff.1 hi).1
  obtain ⟨ob, rfl⟩ := own_head h2 (by omega)
  exact ⟨ob, rfl, (h2.cellAt (i * 2) (by omega)).trans (flatO_at out gs i p c h1 hi)⟩

/-- from which place to which one does a tree fit? -/
def RcOk (t : Tree) (xs : List Int) (w w' : World) (g : Nat) (f : Nat → Nat → Bool) : Prop :=
  Cells w' g 4 (rowC (gridB f (xs.length + 1)) ((xs.length + 1) * (xs.length + 1))) ∧ w.heap.size ≤ g ∧ SoundF t ∧ szT t ≤ 2000 ∧ ∀ a p, a ≤ xs.length → p ≤ xs.length → (f a p = true ↔ fitU (envX xs) (unfU t) a p)
def RcAns (t : Tree) (xs : List Int) (w : World) (e : Ending) (w' : World) : Prop :=
  ∃ (g : Nat) (ok : Bool), e = .returned (.tuple #[.slice (some ⟨g, 0, none⟩) ((xs.length + 1) * (xs.length + 1)) ((xs.length + 1) * (xs.length + 1)), .bool ok]) ∧ Upd Nob w w' ∧ (ok = true → ∃ f, RcOk t xs w w' g f) ∧ ((NoG t ∧ SoundOk t ∧ szT t ≤ 2000) → ok = true)
theorem par_end {t : Tree} {xs : List Int} {a : Nat} {w w' : World} {OA : Option Addr} {oc : Nat} {out : List (Nat × List Int)} (h : ParOk t xs (a : Nat) w w' OA oc out) : (∀ p, (∃ c, (p, c) ∈ out) ↔ fitU (envX xs) (unfU t) a p) ∧ ∀ p c, (p, c) ∈ out → p ≤ xs.length := by
  obtain ⟨s', hr, rfl⟩ := h.run
  rw [Int.toNat_natCast] at hr
  have hl := par_law (tab_ok h.sound h.size) hr
  have ha := h.a1
  exact ⟨hl, fun p c hp => fit_bnd (envX_cls xs) (unfU t) a p (by omega) ((hl p).1 ⟨c, hp⟩)⟩

set_option maxRecDepth 100000 in
set_option maxHeartbeats 8000000 in
theorem reaches_any (t : Tree) (w : World) (S S2 : Nat → Prop) (cs : Array Value) (xs : List Int) (TA : Option Addr) (tc : Nat) (h1 : NodeR w S cs t) (hx : TextR w S2 TA xs.length xs) (h12 : xs.length ≤ 12) :
    Calls Try.prog 16 #[.agg cs, .slice TA xs.length tc] w (RcAns t xs w) := by
  obtain ⟨RA, rc, SA, sc, rfl, -⟩ := h1.top
  have HN := hideP h1
  have HX := hideP hx
  clear h1 hx
  unfold nodeCells at HN ⊢
  generalize hP : RcAns t xs w = P
  obtain ⟨n, hn⟩ : ∃ n, xs.length + 1 = n := ⟨_, rfl⟩
  obtain ⟨M, hM⟩ : ∃ M, n * n = M := ⟨_, rfl⟩
  have hM0 : M ≤ 169 := by
    have : n * n ≤ 13 * 13 := Nat.mul_le_mul (by omega) (by omega)
    omega
  have HPP := hideP (show ∀ (g : Nat) (ok : Bool) w', Upd Nob w w' → (ok = true → ∃ f, RcOk t xs w w' g f) → ((NoG t ∧ SoundOk t ∧ szT t ≤ 2000) → ok = true) → P (.returned (.tuple #[.slice (some ⟨g, 0, none⟩) M M, .bool ok])) w' from fun g ok w' a b c => by rw [← hP]; exact ⟨g, ok, by rw [hn, hM], a, b, c⟩)
  have vw : IntKind.i64.wrap ((xs.length : Int) + 1) = (n : Int) := by rw [IntKind.wrap_i64]; omega
  have hMI : (n : Int) * (n : Int) = (M : Int) := by rw [← hM]; simp
  have vw2 : IntKind.i64.wrap ((n : Int) * (n : Int)) = (M : Int) := by rw [hMI, IntKind.wrap_i64]; omega
  have n0 : n ≤ 13 := by omega
  have HNN := hideP hn
  have HMM := hideP hM
  have C0 := Cells.new w 30 #[.int .i64 t.kind, .slice RA t.rs.length rc, .int .i64 t.am, .slice SA t.subs.length sc, .int .i64 t.mn, .int .i64 t.mx, .bool t.lz, .int .i64 t.ix, .string t.nm]
  have hU := (Upd.refl Nob w).alloc (.cells #[.int .i64 t.kind, .slice RA t.rs.length rc, .int .i64 t.am, .slice SA t.subs.length sc, .int .i64 t.mn, .int .i64 t.mx, .bool t.lz, .int .i64 t.ix, .string t.nm] 30)
  have hxs : xs.length ≤ 12 := h12
  clear hP hn hM hMI
  go_enter Try.func16, Try.ntmps16
  go_upto_region 1 with fail
  generalize w.alloc (.cells #[.int .i64 t.kind, .slice RA t.rs.length rc, .int .i64 t.am, .slice SA t.subs.length sc, .int .i64 t.mn, .int .i64 t.mx, .bool t.lz, .int .i64 t.ix, .string t.nm] 30) = w2 at *
  have HU := hideP hU
  have HC := hideP C0
  clear C0 hU
  have HG := hideP (Cells.new w2 4 (rowC noMark M))
  have HU3 := hideP (HU.out.alloc (.cells (rowC noMark M) 4))
  have HC3 := hideP (HC.out.alloc (.cells (rowC noMark M) 4))
  go_upto_region 3 with (at_make; refine wpList_make_marks w2 rfl _ rfl _ M rfl rfl (by omega) ?_; try generalize w2.alloc (.cells (rowC noMark M) 4) = w3 at *)
  have HGL := hideP HG.out.lt
  have hgl2 : w.heap.size ≤ w2.heap.size := HU.out.size
  obtain ⟨g, hg⟩ : ∃ g, w2.heap.size = g := ⟨_, rfl⟩
  rw [hg]
  rw [hg] at HG hgl2 HGL
  have hxg := HC.out.lt
  rw [hg] at hxg
  have HXG := hideP (show w.heap.size ≠ g by omega)
  have HGLO := hideP hgl2
  clear hg hgl2 hxg HC
  go_wp2_with fail
  go_loopg [8] n (fun gk v8 wr => ∃ (k : Nat) (f : Nat → Nat → Bool), k + gk = n ∧ v8 = .int .i64 (k : Int) ∧ Cells wr g 4 (rowC (gridB f n) M) ∧ Upd (fun b => b = g) w3 wr ∧ (∀ a p, p ≤ xs.length → (f a p = true ↔ a < k ∧ fitU (envX xs) (unfU t) a p)) ∧ (0 < k → SoundF t ∧ szT t ≤ 2000))
  case atStart => exact ⟨0, fun _ _ => false, by omega, rfl, HG.out, Upd.refl _ _, fun a p _ => by simp, fun h => by omega⟩
  case round =>
    obtain ⟨k, f, hk, rfl, hG, hU, hf, hs⟩ := hrel
    have HK := hideP hk
    have HG := hideP hG
    have HUw := hideP (HU3.out.trans hU (fun b hb e => by have := HGLO.out; omega))
    have HUg := hideP hU
    have HF := hideP hf
    have HS := hideP hs
    clear hk hG hU hf hs
    by_cases hlt : ¬ k < n
    · obtain rfl : k = n := by have := HK.out; omega
      go_wp2_with fail
      try go_ret
      refine HPP.out g true _ HUw.out (fun _ => ⟨f, ?_⟩) (fun _ => rfl)
      have hn := HNN.out
      obtain ⟨s1, s2⟩ := HS.out (by omega)
      refine ⟨?_, HGLO.out, s1, s2, fun a p ha hp => ?_⟩
      · rw [hn, HMM.out]; exact HG.out
      · rw [HF.out a p hp]
        exact ⟨fun h => h.2, fun h => ⟨by omega, h⟩⟩
    have g1 : (k : Int) < (n : Int) := by omega
    obtain ⟨e0, e1, e2, e3, e4, e5, e6, e7, e8⟩ := nineN (HC3.out.upd HUg.out HXG.out)
    have hkx : k ≤ xs.length := by have := HNN.out; omega
    go_upto_region 7 with (go_at_call 21; refine (parses_any t _ S S2 _ xs TA tc (k : Int) (HN.out.upd_ HUw.out (fun _ _ => not_nob)) (HX.out.upd HUw.out (fun _ _ => not_nob)) (by unfold In64; omega)).mono ?_; rintro e w4 ⟨er, OA, oc, out, rfl, hU4, hok, hyes⟩; have HU4 := hideP hU4; have HOK := hideP hok; have HYES := hideP hyes; clear hU4 hok hyes e0 e1 e2 e3 e4 e5 e6 e7 e8)
    have HUw4 := hideP (HUw.out.trans HU4.out (fun _ _ h => h))
    by_cases her : er = 0
    case neg =>
      have hz : (er == 0) = false := by simpa using her
      have HNO := hideP (show ¬ (NoG t ∧ SoundOk t ∧ szT t ≤ 2000) from fun h => her (HYES.out ⟨by omega, h.1, h.2.1, h.2.2, by omega, by omega⟩))
      clear her
      go_wp2_with fail
      try go_ret
      exact HPP.out g false _ HUw4.out (fun h => by cases h) (fun h => absurd h HNO.out)
    subst her
    have HPO := hideP (HOK.out rfl)
    have HPE := hideP (par_end HPO.out)
    have hfew : out.length ≤ 13 := by have := HPO.out.few; omega
    have HG4 := hideP (HG.out.upd HU4.out not_nob)
    have HGW := hideP HG.out.lt
    clear HG HOK HYES
    obtain ⟨kn, hkn⟩ : ∃ kn, k * n = kn := ⟨_, rfl⟩
    have HKN := hideP hkn
    have hknM : kn + n ≤ M := by
      have h1 : (k + 1) * n ≤ n * n := Nat.mul_le_mul_right _ (by omega)
      rw [Nat.add_mul, hkn, HMM.out] at h1
      omega
    have hkI : (k : Int) * (n : Int) = (kn : Int) := by rw [← hkn]; simp
    have vw3 : IntKind.i64.wrap ((k : Int) * (n : Int)) = (kn : Int) := by rw [hkI, IntKind.wrap_i64]; omega
    clear hkn hkI
    go_wp2_with fail
    go_loopg [11] out.length (fun gj v11 ws => ∃ (j : Nat) (f2 : Nat → Nat → Bool), j + gj = out.length ∧ v11 = .int .i64 (j : Int) ∧ Cells ws g 4 (rowC (gridB f2 n) M) ∧ Upd (fun b => b = g) w4 ws ∧ (∀ a p, p ≤ xs.length → (f2 a p = true ↔ (a < k ∧ fitU (envX xs) (unfU t) a p) ∨ (a = k ∧ ∃ i c, i < j ∧ out[i]? = some (p, c)))))
    case atStart => exact ⟨0, f, by omega, rfl, HG4.out, Upd.refl _ _, fun a p hp => by rw [HF.out a p hp]; exact ⟨fun h => .inl h, fun h => by rcases h with h | ⟨_, i, c, h, _⟩; exact h; omega⟩⟩
    case round =>
      obtain ⟨j, f2, hj, rfl, hG, hU, hf⟩ := hrel
      have HJ := hideP hj
      have HG5 := hideP hG
      have HU5 := hideP hU
      have HF2 := hideP hf
      clear hj hG hU hf
      by_cases hjl : ¬ j < out.length
      · obtain rfl : j = out.length := by have := HJ.out; omega
        go_wp2_with fail
        have hk := HK.out
        go_roundg (n - (k + 1))
        case measure => omega
        case rel =>
          refine ⟨k + 1, f2, by omega, by go_num, HG5.out, ((HUg.out.trans HU4.out (fun _ _ h => absurd h not_nob)).trans HU5.out (fun _ _ h => h)), fun a p hp => ?_, fun _ => ⟨HPO.out.sound, HPO.out.size⟩⟩
          rw [HF2.out a p hp]
          have hl := (HPE.out.1 p)
          constructor
          · rintro (⟨h1, h2⟩ | ⟨rfl, i, c, h1, h2⟩)
            · exact ⟨by omega, h2⟩
            · exact ⟨by omega, hl.1 ⟨c, List.mem_of_getElem? h2⟩⟩
          · rintro ⟨h1, h2⟩
            by_cases e : a = k
            · subst e
              obtain ⟨c, hc⟩ := hl.2 h2
              obtain ⟨i, hi⟩ := List.mem_iff_getElem?.1 hc
              exact .inr ⟨rfl, i, c, (List.getElem?_eq_some_iff.1 hi).1, hi⟩
            · exact .inl ⟨by omega, h2⟩
      have hjl : j < out.length := by omega
      have g2 : (j : Int) < (out.length : Int) := by omega
      obtain ⟨⟨p, c⟩, hi⟩ : ∃ x, out[j]? = some x := ⟨_, List.getElem?_eq_getElem hjl⟩
      have HI := hideP hi
      have hp := HPE.out.2 p c (List.mem_of_getElem? hi)
      obtain ⟨ob, hob, hcell⟩ := (HPO.out.mem.upd HU5.out (fun b hb e => by have := HGW.out; omega)).cell hi
      subst hob
      clear hi
      obtain ⟨q, hq⟩ : ∃ q, kn + p = q := ⟨_, rfl⟩
      have HQ := hideP hq
      have hqM : q < M := by have := HNN.out; omega
      have hqI : (kn : Int) + (p : Int) = (q : Int) := by omega
      have gqM : (q : Int) < (M : Int) := by omega
      have fz := HG5.out.frozen q
      have cu := HG5.out.cellv (rowC_at (gridB f2 n) hqM)
      have HG6 := hideP (HG5.out.set_ q (.bool true))
      have HU6 := hideP (HU5.out.setCell ⟨g, q, none⟩ (.bool true) (fun _ => rfl))
      have hpn : p < n := by have := HNN.out; omega
      have HE := hideP (show (rowC (gridB f2 n) M).setIfInBounds q (.bool true) = rowC (gridB (mark2 f2 k p) n) M by
        have h1 := HMM.out
        have h2 := HKN.out
        have h3 := HQ.out
        subst h1
        subst h3
        subst h2
        exact grid_set hpn)
      clear hq
      go_wp2_with fail
      have hj := HJ.out
      go_roundg (out.length - (j + 1))
      case measure => omega
      case rel =>
        refine ⟨j + 1, mark2 f2 k p, by omega, by go_num, by rw [← HE.out]; exact HG6.out, HU6.out, fun a r hr => ?_⟩
        unfold mark2
        split
        · rename_i h
          obtain ⟨rfl, rfl⟩ := h
          exact ⟨fun _ => .inr ⟨rfl, j, c, by omega, HI.out⟩, fun _ => rfl⟩
        · rename_i h
          rw [HF2.out a r hr]
          constructor
          · rintro (h1 | ⟨h1, i, c', h2, h3⟩)
            · exact .inl h1
            · exact .inr ⟨h1, i, c', by omega, h3⟩
          · rintro (h1 | ⟨h1, i, c', h2, h3⟩)
            · exact .inl h1
            · refine .inr ⟨h1, i, c', ?_, h3⟩
              by_cases e : i = j
              · subst e
                rw [HI.out] at h3
                injection h3 with h3
                injection h3 with h4 h5
                exact absurd ⟨h1, h4.symm⟩ h
              · omega
end Go.Proofs.Ytlaofcgllchedaa
