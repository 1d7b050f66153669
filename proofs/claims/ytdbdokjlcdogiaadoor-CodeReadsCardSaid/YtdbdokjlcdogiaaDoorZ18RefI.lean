/-
  RefI8, RefI, put together.
-/
import Derived.Test.YtdbdokjlcdogiaaDoorZ15RoundP

/-
  The walk of heronref10.inst. Printed by tools/mkRefI.py.
-/
namespace Go.Proofs.YtdbdokjlcdogiaaDoor
open Go.RowKit
set_option linter.unusedVariables false

set_option maxRecDepth 100000 in
set_option maxHeartbeats 4000000 in
theorem refi_reg8 (Q : Exit → Act → World → Prop) (w : World) (la : Addr) (ln lc xb base i j c : Nat) (a b : Int) (y0 y1 y2 y3 : Value) (B : Option Addr) (acc : List (Int × Int)) (x0 x2 x3 x4 x7 x8 x9 x10 x11 x12 x13 x14 x15 x16 x17 x18 x19 x20 x21 x22 x23 x24 x25 x26 x27 x28 x29 x30 x31 x32 x33 x34 x35 x36 x37 x38 x39 x40 x41 x42 x43 x44 x45 x46 x47 x48 x49 x50 x51 x52 x53 x54 x55 x56 x57 x58 x59 x60 x61 x62 x63 x64 x65 x66 x67 x68 x69 x70 x71 : Value)
    (hC : Cells w xb 48 #[y0, y1, y2, y3, .slice B j c]) (hO : w.ownsRow base 50 2 (.slice B j c) j (pairv acc)) (hi : i + 1 < ln) (ca : w.cell? (la.add i) = some (.int .i64 a)) (cb : w.cell? ⟨la.block, la.off + (i + 1), none⟩ = some (.int .i64 b)) (hla : la.block < base) (hln : ln ≤ 100000000) (hba : base ≤ w.heap.size) (hj : j ≤ 100000000)
    (hyes : ∀ v23 v24 v25 v26 v27 v28 v29 v30 v31 v32 v33 v34 v35 v36 v37 gN cN w', Cells w' xb 48 #[y0, y1, y2, y3, .slice (some ⟨gN, 0, none⟩) (j + 1) cN] → w'.ownsRow base 50 2 (.slice (some ⟨gN, 0, none⟩) (j + 1) cN) (j + 1) (pairv (acc ++ [(a, b)])) → Upd (fun b => b = xb ∨ base ≤ b) w w' → Q .normal ⟨#[x0, .slice (some la) ln lc, x2, x3, x4, .pointer (some ⟨xb, 0, none⟩), .int .i64 (i : Nat), x7, x8, x9, x10, x11, x12, x13, x14, x15, x16, x17, x18, x19, x20, x21, x22, v23, v24, v25, v26, v27, v28, v29, v30, v31, v32, v33, v34, v35, v36, v37, x38, x39, x40, x41, x42, x43, x44, x45, x46, x47, x48, x49, x50, x51, x52, x53, x54, x55, x56, x57, x58, x59, x60, x61, x62, x63, x64, x65, x66, x67, x68, x69, x70, x71], []⟩ w') :
    (Code.region 8 #[{ dst := some 23, op := Op.fieldAddr 48 (Operand.tmp 5) 4, type := 0, pos := "ref.go:61", after := #[], guard := none },
    { dst := some 24, op := Op.load 46 (Operand.tmp 23), type := 46, pos := "ref.go:61", after := #[{ on := 0, ground := .data }], guard := none },
    { dst := some 25, op := Op.move (Operand.tmp 1), type := 71, pos := "ref.go:61", after := #[], guard := none },
    { dst := some 26, op := Op.move (Operand.tmp 6), type := 3, pos := "ref.go:61", after := #[], guard := none },
    { dst := some 27, op := Op.indexAddr 71 (Operand.tmp 25) (Operand.tmp 26), type := 0, pos := "ref.go:61", after := #[{ on := 2, ground := .data }, { on := 3, ground := .data }], guard := none },
    { dst := some 28, op := Op.load 3 (Operand.tmp 27), type := 3, pos := "ref.go:61", after := #[{ on := 4, ground := .data }], guard := none },
    { dst := some 29, op := Op.move (Operand.tmp 1), type := 71, pos := "ref.go:61", after := #[], guard := none },
    { dst := some 30, op := Op.move (Operand.tmp 6), type := 3, pos := "ref.go:61", after := #[], guard := none },
    { dst := some 31, op := Op.binOp BinOp.add 3 (Operand.tmp 30) (Operand.const (Value.int IntKind.i64 1)) 3, type := 3, pos := "ref.go:61", after := #[{ on := 7, ground := .data }], guard := none },
    { dst := some 32, op := Op.indexAddr 71 (Operand.tmp 29) (Operand.tmp 31), type := 0, pos := "ref.go:61", after := #[{ on := 6, ground := .data }, { on := 8, ground := .data }], guard := none },
    { dst := some 33, op := Op.load 3 (Operand.tmp 32), type := 3, pos := "ref.go:61", after := #[{ on := 9, ground := .data }], guard := none },
    { dst := some 34, op := Op.build 50 #[(0, Operand.tmp 28), (1, Operand.tmp 33)], type := 50, pos := "ref.go:61", after := #[{ on := 5, ground := .data }, { on := 10, ground := .data }], guard := none },
    { dst := some 35, op := Op.buildSlice 46 1 #[(0, Operand.tmp 34)], type := 46, pos := "ref.go:61", after := #[{ on := 11, ground := .data }], guard := none },
    { dst := some 36, op := Op.call { callee := Callee.builtin Builtin.append, args := #[Operand.tmp 24, Operand.tmp 35], argTypes := #[46, 46] }, type := 46, pos := "ref.go:61", after := #[{ on := 1, ground := .data }, { on := 12, ground := .data }], guard := none },
    { dst := some 37, op := Op.fieldAddr 48 (Operand.tmp 5) 4, type := 0, pos := "ref.go:61", after := #[{ on := 0, ground := .phase }, { on := 1, ground := .phase }, { on := 2, ground := .phase }, { on := 3, ground := .phase }, { on := 4, ground := .phase }, { on := 5, ground := .phase }, { on := 6, ground := .phase }, { on := 7, ground := .phase }, { on := 8, ground := .phase }, { on := 9, ground := .phase }, { on := 10, ground := .phase }, { on := 11, ground := .phase }, { on := 12, ground := .phase }, { on := 13, ground := .phase }], guard := none },
    { dst := none, op := Op.store 46 (Operand.tmp 37) (Operand.tmp 36), type := 0, pos := "ref.go:61", after := #[{ on := 14, ground := .data }, { on := 13, ground := .data }, { on := 13, ground := .chain }, { on := 0, ground := .phase }, { on := 1, ground := .phase }, { on := 2, ground := .phase }, { on := 3, ground := .phase }, { on := 4, ground := .phase }, { on := 5, ground := .phase }, { on := 6, ground := .phase }, { on := 7, ground := .phase }, { on := 8, ground := .phase }, { on := 9, ground := .phase }, { on := 10, ground := .phase }, { on := 11, ground := .phase }, { on := 12, ground := .phase }, { on := 13, ground := .phase }], guard := none }] true).wp Tryd.prog Q ⟨#[x0, .slice (some la) ln lc, x2, x3, x4, .pointer (some ⟨xb, 0, none⟩), .int .i64 (i : Nat), x7, x8, x9, x10, x11, x12, x13, x14, x15, x16, x17, x18, x19, x20, x21, x22, x23, x24, x25, x26, x27, x28, x29, x30, x31, x32, x33, x34, x35, x36, x37, x38, x39, x40, x41, x42, x43, x44, x45, x46, x47, x48, x49, x50, x51, x52, x53, x54, x55, x56, x57, x58, x59, x60, x61, x62, x63, x64, x65, x66, x67, x68, x69, x70, x71], []⟩ w := by
  obtain ⟨i0, hi0, hz0, hz1, hz2⟩ := info_parts finfo_range
  have HC := hideP hC
  have HO := hideP hO
  have HY := hideP hyes
  clear hyes hC hO
  refine Code.wp_mono (QuietQ.imp (G := fun _ _ _ => False) (fun _ _ _ h => h.elim)) ?_
  have g1 : (i : Int) < (ln : Int) := by omega
  have g3 : 0 ≤ (i : Int) + 1 := by omega
  have g2 : (i : Int) + 1 < (ln : Int) := by omega
  have k1 : IntKind.i64.wrap ((i : Int) + 1) = (i : Int) + 1 := by rw [IntKind.wrap_i64]; omega
  refine AnyJ.begin 15 (fun w' => w'.cell? ⟨xb, 0 + 4, none⟩ = some (.slice B j c) ∧ w'.cell? (la.add i) = some (.int .i64 a) ∧ w'.cell? ⟨la.block, la.off + (i + 1), none⟩ = some (.int .i64 b)) (by kernel_rfl) ⟨HC.out.cellv rfl, ca, cb⟩ (fun hSS => ?_)
  refine AnyJ.take (i := 0) (oi := { dst := some 23, op := Op.fieldAddr 48 (Operand.tmp 5) 4, type := 0, pos := "ref.go:61", after := #[], guard := none }) (v := ?v0nr1) ?a0nr1 ?b0nr1 ?c0nr1 ?d0nr1 ?e0nr1 (fun _ _ _ h => h) (Or.inl ⟨?f0nr1, ?y0nr1⟩) (by assumption) ?r0nr1
  case a0nr1 => rfl
  case b0nr1 => kernel_rfl
  case c0nr1 => kernel_rfl
  case d0nr1 => kernel_rfl
  case e0nr1 => kernel_rfl
  case f0nr1 => rfl
  case y0nr1 => (intro w' hSw; (try dsimp only at hSw); go_simp; try with_reducible rfl)
  try simp only [Act.put, List.setIfInBounds_toArray, List.set_cons_zero, List.set_cons_succ]
  refine AnyJ.take (i := 1) (oi := { dst := some 24, op := Op.load 46 (Operand.tmp 23), type := 46, pos := "ref.go:61", after := #[{ on := 0, ground := .data }], guard := none }) (v := ?v1nr2) ?a1nr2 ?b1nr2 ?c1nr2 ?d1nr2 ?e1nr2 (fun _ _ _ h => h) (Or.inl ⟨?f1nr2, ?y1nr2⟩) (by assumption) ?r1nr2
  case a1nr2 => rfl
  case b1nr2 => kernel_rfl
  case c1nr2 => kernel_rfl
  case d1nr2 => kernel_rfl
  case e1nr2 => kernel_rfl
  case f1nr2 => rfl
  case y1nr2 => (intro w' hSw; (try dsimp only at hSw); obtain ⟨y0, y1, y2⟩ := hSw; go_simp; try with_reducible rfl)
  try simp only [Act.put, List.setIfInBounds_toArray, List.set_cons_zero, List.set_cons_succ]
  refine AnyJ.take (i := 2) (oi := { dst := some 25, op := Op.move (Operand.tmp 1), type := 71, pos := "ref.go:61", after := #[], guard := none }) (v := ?v2nr3) ?a2nr3 ?b2nr3 ?c2nr3 ?d2nr3 ?e2nr3 (fun _ _ _ h => h) (Or.inl ⟨?f2nr3, ?y2nr3⟩) (by assumption) ?r2nr3
  case a2nr3 => rfl
  case b2nr3 => kernel_rfl
  case c2nr3 => kernel_rfl
  case d2nr3 => kernel_rfl
  case e2nr3 => kernel_rfl
  case f2nr3 => rfl
  case y2nr3 => (intro w' hSw; (try dsimp only at hSw); go_simp; try with_reducible rfl)
  try simp only [Act.put, List.setIfInBounds_toArray, List.set_cons_zero, List.set_cons_succ]
  refine AnyJ.take (i := 3) (oi := { dst := some 26, op := Op.move (Operand.tmp 6), type := 3, pos := "ref.go:61", after := #[], guard := none }) (v := ?v3nr4) ?a3nr4 ?b3nr4 ?c3nr4 ?d3nr4 ?e3nr4 (fun _ _ _ h => h) (Or.inl ⟨?f3nr4, ?y3nr4⟩) (by assumption) ?r3nr4
  case a3nr4 => rfl
  case b3nr4 => kernel_rfl
  case c3nr4 => kernel_rfl
  case d3nr4 => kernel_rfl
  case e3nr4 => kernel_rfl
  case f3nr4 => rfl
  case y3nr4 => (intro w' hSw; (try dsimp only at hSw); go_simp; try with_reducible rfl)
  try simp only [Act.put, List.setIfInBounds_toArray, List.set_cons_zero, List.set_cons_succ]
  refine AnyJ.take (i := 4) (oi := { dst := some 27, op := Op.indexAddr 71 (Operand.tmp 25) (Operand.tmp 26), type := 0, pos := "ref.go:61", after := #[{ on := 2, ground := .data }, { on := 3, ground := .data }], guard := none }) (v := ?v4nr5) ?a4nr5 ?b4nr5 ?c4nr5 ?d4nr5 ?e4nr5 (fun _ _ _ h => h) (Or.inl ⟨?f4nr5, ?y4nr5⟩) (by assumption) ?r4nr5
  case a4nr5 => rfl
  case b4nr5 => kernel_rfl
  case c4nr5 => kernel_rfl
  case d4nr5 => kernel_rfl
  case e4nr5 => kernel_rfl
  case f4nr5 => rfl
  case y4nr5 => (intro w' hSw; (try dsimp only at hSw); go_simp; try with_reducible rfl)
  try simp only [Act.put, List.setIfInBounds_toArray, List.set_cons_zero, List.set_cons_succ]
  refine AnyJ.take (i := 5) (oi := { dst := some 28, op := Op.load 3 (Operand.tmp 27), type := 3, pos := "ref.go:61", after := #[{ on := 4, ground := .data }], guard := none }) (v := ?v5nr6) ?a5nr6 ?b5nr6 ?c5nr6 ?d5nr6 ?e5nr6 (fun _ _ _ h => h) (Or.inl ⟨?f5nr6, ?y5nr6⟩) (by assumption) ?r5nr6
  case a5nr6 => rfl
  case b5nr6 => kernel_rfl
  case c5nr6 => kernel_rfl
  case d5nr6 => kernel_rfl
  case e5nr6 => kernel_rfl
  case f5nr6 => rfl
  case y5nr6 => (intro w' hSw; (try dsimp only at hSw); obtain ⟨y0, y1, y2⟩ := hSw; go_simp; try with_reducible rfl)
  try simp only [Act.put, List.setIfInBounds_toArray, List.set_cons_zero, List.set_cons_succ]
  refine AnyJ.take (i := 6) (oi := { dst := some 29, op := Op.move (Operand.tmp 1), type := 71, pos := "ref.go:61", after := #[], guard := none }) (v := ?v6nr7) ?a6nr7 ?b6nr7 ?c6nr7 ?d6nr7 ?e6nr7 (fun _ _ _ h => h) (Or.inl ⟨?f6nr7, ?y6nr7⟩) (by assumption) ?r6nr7
  case a6nr7 => rfl
  case b6nr7 => kernel_rfl
  case c6nr7 => kernel_rfl
  case d6nr7 => kernel_rfl
  case e6nr7 => kernel_rfl
  case f6nr7 => rfl
  case y6nr7 => (intro w' hSw; (try dsimp only at hSw); go_simp; try with_reducible rfl)
  try simp only [Act.put, List.setIfInBounds_toArray, List.set_cons_zero, List.set_cons_succ]
  refine AnyJ.take (i := 7) (oi := { dst := some 30, op := Op.move (Operand.tmp 6), type := 3, pos := "ref.go:61", after := #[], guard := none }) (v := ?v7nr8) ?a7nr8 ?b7nr8 ?c7nr8 ?d7nr8 ?e7nr8 (fun _ _ _ h => h) (Or.inl ⟨?f7nr8, ?y7nr8⟩) (by assumption) ?r7nr8
  case a7nr8 => rfl
  case b7nr8 => kernel_rfl
  case c7nr8 => kernel_rfl
  case d7nr8 => kernel_rfl
  case e7nr8 => kernel_rfl
  case f7nr8 => rfl
  case y7nr8 => (intro w' hSw; (try dsimp only at hSw); go_simp; try with_reducible rfl)
  try simp only [Act.put, List.setIfInBounds_toArray, List.set_cons_zero, List.set_cons_succ]
  refine AnyJ.take (i := 8) (oi := { dst := some 31, op := Op.binOp BinOp.add 3 (Operand.tmp 30) (Operand.const (Value.int IntKind.i64 1)) 3, type := 3, pos := "ref.go:61", after := #[{ on := 7, ground := .data }], guard := none }) (v := ?v8nr9) ?a8nr9 ?b8nr9 ?c8nr9 ?d8nr9 ?e8nr9 (fun _ _ _ h => h) (Or.inl ⟨?f8nr9, ?y8nr9⟩) (by assumption) ?r8nr9
  case a8nr9 => rfl
  case b8nr9 => kernel_rfl
  case c8nr9 => kernel_rfl
  case d8nr9 => kernel_rfl
  case e8nr9 => kernel_rfl
  case f8nr9 => rfl
  case y8nr9 => (intro w' hSw; (try dsimp only at hSw); go_simp; try with_reducible rfl)
  try simp only [Act.put, List.setIfInBounds_toArray, List.set_cons_zero, List.set_cons_succ]
  refine AnyJ.take (i := 9) (oi := { dst := some 32, op := Op.indexAddr 71 (Operand.tmp 29) (Operand.tmp 31), type := 0, pos := "ref.go:61", after := #[{ on := 6, ground := .data }, { on := 8, ground := .data }], guard := none }) (v := ?v9nr10) ?a9nr10 ?b9nr10 ?c9nr10 ?d9nr10 ?e9nr10 (fun _ _ _ h => h) (Or.inl ⟨?f9nr10, ?y9nr10⟩) (by assumption) ?r9nr10
  case a9nr10 => rfl
  case b9nr10 => kernel_rfl
  case c9nr10 => kernel_rfl
  case d9nr10 => kernel_rfl
  case e9nr10 => kernel_rfl
  case f9nr10 => rfl
  case y9nr10 => (intro w' hSw; (try dsimp only at hSw); go_simp; try with_reducible rfl)
  try simp only [Act.put, List.setIfInBounds_toArray, List.set_cons_zero, List.set_cons_succ]
  refine AnyJ.take (i := 10) (oi := { dst := some 33, op := Op.load 3 (Operand.tmp 32), type := 3, pos := "ref.go:61", after := #[{ on := 9, ground := .data }], guard := none }) (v := ?v10nr11) ?a10nr11 ?b10nr11 ?c10nr11 ?d10nr11 ?e10nr11 (fun _ _ _ h => h) (Or.inl ⟨?f10nr11, ?y10nr11⟩) (by assumption) ?r10nr11
  case a10nr11 => rfl
  case b10nr11 => kernel_rfl
  case c10nr11 => kernel_rfl
  case d10nr11 => kernel_rfl
  case e10nr11 => kernel_rfl
  case f10nr11 => rfl
  case y10nr11 => (intro w' hSw; (try dsimp only at hSw); obtain ⟨y0, y1, y2⟩ := hSw; go_simp; try with_reducible rfl)
  try simp only [Act.put, List.setIfInBounds_toArray, List.set_cons_zero, List.set_cons_succ]
  refine AnyJ.take (i := 11) (oi := { dst := some 34, op := Op.build 50 #[(0, Operand.tmp 28), (1, Operand.tmp 33)], type := 50, pos := "ref.go:61", after := #[{ on := 5, ground := .data }, { on := 10, ground := .data }], guard := none }) (v := ?v11nr12) ?a11nr12 ?b11nr12 ?c11nr12 ?d11nr12 ?e11nr12 (fun _ _ _ h => h) (Or.inl ⟨?f11nr12, ?y11nr12⟩) (by assumption) ?r11nr12
  case a11nr12 => rfl
  case b11nr12 => kernel_rfl
  case c11nr12 => kernel_rfl
  case d11nr12 => kernel_rfl
  case e11nr12 => kernel_rfl
  case f11nr12 => rfl
  case y11nr12 => (intro w' hSw; (try dsimp only at hSw); go_simp; try with_reducible rfl)
  try simp only [Act.put, List.setIfInBounds_toArray, List.set_cons_zero, List.set_cons_succ]
  refine AnyJ.one (i := 12) (o := { dst := some 35, op := Op.buildSlice 46 1 #[(0, Operand.tmp 34)], type := 46, pos := "ref.go:61", after := #[{ on := 11, ground := .data }], guard := none }) ?pr13 ?qr13 ?_
  case pr13 => kernel_rfl
  case qr13 => rfl
  intro K' hK
  go_simp
  have U1 := (Upd.refl Nob w).drew.alloc (.cells #[.int .i64 a, .int .i64 b] 50)
  have X1 := HC.out.upd U1 not_nob
  refine hK.out _ _ (.inr ⟨X1.cellv rfl, (U1.cell (p := la.add i) (World.block_lt_of_cell? w _ ca) not_nob).trans ca, (U1.cell (p := ⟨la.block, la.off + (i + 1), none⟩) (World.block_lt_of_cell? w _ cb) not_nob).trans cb⟩) ?_; clear hK K'
  try simp only [Act.put, List.setIfInBounds_toArray, List.set_cons_zero, List.set_cons_succ]
  refine AnyJ.one (i := 13) (o := { dst := some 36, op := Op.call { callee := Callee.builtin Builtin.append, args := #[Operand.tmp 24, Operand.tmp 35], argTypes := #[46, 46] }, type := 46, pos := "ref.go:61", after := #[{ on := 1, ground := .data }, { on := 12, ground := .data }], guard := none }) ?pr14 ?qr14 ?_
  case pr14 => kernel_rfl
  case qr14 => rfl
  intro K' hK
  have O1 := own_upd HO.out U1 (fun _ _ => not_nob)
  refine step_append_lies _ rfl (.tmp 24) (.tmp 35) 46 rfl base 50 i0 _ 2 16 Tryd.underlying46 hi0 hz0 hz1 hz2 rfl (by decide) (.slice B j c) j (pairv acc) (by rfl) O1 ⟨w.heap.size, 0, none⟩ 1 1 [.int .i64 a, .int .i64 b] (by rfl) (by rfl) (World.news_of_block (cs := #[.int .i64 a, .int .i64 b]) (t := 50) (fr := (0, 0)) (heap_alloc_new w.drew _)) (by intro u hu; simp at hu; rcases hu with rfl | rfl <;> rfl) (by decide) (by unfold maxLen; omega) (by omega) (by simp; omega) (w.heap.size + 1) (by simp) ?_
  intro gN cN wN oN gr hat hltN
  have OB := fun b (hb : (Value.slice B j c).ownBlock = some b) => own_lo O1 hb
  have UB := (Upd.refl (fun b => (Value.slice B j c).ownBlock = some b) (w.drew.alloc (.cells #[.int .i64 a, .int .i64 b] 50))).grown gr (fun b hb _ => hb)
  have UN := (U1.mono (G := fun b => b = xb ∨ base ≤ b) (fun b _ h => absurd h not_nob)).grown gr (fun b hb _ => .inr (OB b hb))
  have XN := X1.upd UB (own_ne O1 X1 (by decide))
  have nb : ¬ (fun b => (Value.slice B j c).ownBlock = some b) la.block := fun h => by have := OB _ h; omega
  have ca2 := (U1.cell (p := la.add i) (World.block_lt_of_cell? w _ ca) not_nob).trans ca
  have cb2 := (U1.cell (p := ⟨la.block, la.off + (i + 1), none⟩) (World.block_lt_of_cell? w _ cb) not_nob).trans cb
  refine hK.out _ _ (.inr ⟨XN.cellv rfl, (UB.cell (p := la.add i) (World.block_lt_of_cell? _ _ ca2) (by rw [add_block]; exact nb)).trans ca2, (UB.cell (p := ⟨la.block, la.off + (i + 1), none⟩) (World.block_lt_of_cell? _ _ cb2) nb).trans cb2⟩) ?_; clear hK K'
  try simp only [Act.put, List.setIfInBounds_toArray, List.set_cons_zero, List.set_cons_succ]
  have x4 : wN.cell? ⟨xb, 0 + 4, none⟩ = some (.slice B j c) := XN.cellv rfl
  have xS : wN.cell? ⟨xb, 0 + 4, none⟩ = some (.slice B j c) ∧ wN.cell? (la.add i) = some (.int .i64 a) ∧ wN.cell? ⟨la.block, la.off + (i + 1), none⟩ = some (.int .i64 b) := ⟨x4, (UB.cell (p := la.add i) (World.block_lt_of_cell? _ _ ca2) (by rw [add_block]; exact nb)).trans ca2, (UB.cell (p := ⟨la.block, la.off + (i + 1), none⟩) (World.block_lt_of_cell? _ _ cb2) nb).trans cb2⟩
  have z4 : wN.frozen? ⟨xb, 0 + 4, none⟩ = false := XN.frozen _
  refine AnyJ.take (i := 14) (oi := { dst := some 37, op := Op.fieldAddr 48 (Operand.tmp 5) 4, type := 0, pos := "ref.go:61", after := #[{ on := 0, ground := .phase }, { on := 1, ground := .phase }, { on := 2, ground := .phase }, { on := 3, ground := .phase }, { on := 4, ground := .phase }, { on := 5, ground := .phase }, { on := 6, ground := .phase }, { on := 7, ground := .phase }, { on := 8, ground := .phase }, { on := 9, ground := .phase }, { on := 10, ground := .phase }, { on := 11, ground := .phase }, { on := 12, ground := .phase }, { on := 13, ground := .phase }], guard := none }) (v := ?v14nr15) ?a14nr15 ?b14nr15 ?c14nr15 ?d14nr15 ?e14nr15 (fun _ _ _ h => h) (Or.inl ⟨?f14nr15, ?y14nr15⟩) (by assumption) ?r14nr15
  case a14nr15 => rfl
  case b14nr15 => kernel_rfl
  case c14nr15 => kernel_rfl
  case d14nr15 => kernel_rfl
  case e14nr15 => kernel_rfl
  case f14nr15 => rfl
  case y14nr15 => (intro w' hSw; (try dsimp only at hSw); go_simp; try with_reducible rfl)
  try simp only [Act.put, List.setIfInBounds_toArray, List.set_cons_zero, List.set_cons_succ]
  refine AnyJ.one (i := 15) (o := { dst := none, op := Op.store 46 (Operand.tmp 37) (Operand.tmp 36), type := 0, pos := "ref.go:61", after := #[{ on := 14, ground := .data }, { on := 13, ground := .data }, { on := 13, ground := .chain }, { on := 0, ground := .phase }, { on := 1, ground := .phase }, { on := 2, ground := .phase }, { on := 3, ground := .phase }, { on := 4, ground := .phase }, { on := 5, ground := .phase }, { on := 6, ground := .phase }, { on := 7, ground := .phase }, { on := 8, ground := .phase }, { on := 9, ground := .phase }, { on := 10, ground := .phase }, { on := 11, ground := .phase }, { on := 12, ground := .phase }, { on := 13, ground := .phase }], guard := none }) ?pr16 ?qr16 ?_
  case pr16 => kernel_rfl
  case qr16 => rfl
  intro K' hK
  go_simp
  refine hK.out _ _ (.inl rfl) ?_; clear hK K'
  refine AnyJ.done ?_ ?_ _
  · kernel_rfl
  have XE := XN.set_ 4 (.slice (some ⟨gN, 0, none⟩) (j + 1) cN)
  have UE := (Upd.refl (fun b => b = xb) wN).setCell ⟨xb, 4, none⟩ (.slice (some ⟨gN, 0, none⟩) (j + 1) cN) (fun _ => rfl)
  exact HY.out _ _ _ _ _ _ _ _ _ _ _ _ _ _ _ _ _ _ XE (by rw [pairv_cat]; exact own_far oN _ _ (own_ne oN XN (by decide))) (UN.trans UE (fun b _ h => .inl h))
end Go.Proofs.YtdbdokjlcdogiaaDoor

/-
  The walk of heronref10.inst. Printed by tools/mkRefI2.py.
-/
namespace Go.Proofs.YtdbdokjlcdogiaaDoor
open Go.RowKit
set_option linter.unusedVariables false

def RefIAns (w : World) (x : PInst) (e : Ending) (w' : World) : Prop :=
  ∃ B c, e = .returned (.agg #[.int .i64 x.op, .int .i64 x.x, .int .i64 x.y, .int .i64 x.arg, .slice B x.rs.length c]) ∧ w'.ownsRow w.heap.size 50 2 (.slice B x.rs.length c) x.rs.length (pairv x.rs) ∧ Upd Nob w w'
/-- the first numbers of a list, in memory -/
theorem ints_two {w : World} {S : Nat → Prop} {LA : Option Addr} {ln : Nat} {a b : Int} {r : List Int} (h : Reads w S 1 LA ln (intv (a :: b :: r))) : ∃ la, LA = some la ∧ S la.block ∧ la.block < w.heap.size ∧ w.cell? la = some (.int .i64 a) ∧ w.cell? ⟨la.block, la.off + 1, none⟩ = some (.int .i64 b) := by
  have hl := h.1
  simp [intv] at hl
  obtain ⟨la, rfl, hb, hs, hc⟩ := h.2 (by omega)
  have c0 := hc 0 (.int .i64 a) (by simp [intv])
  have c1 := hc 1 (.int .i64 b) (by simp [intv])
  rw [show la.add 0 = la by simp [Addr.add]] at c0
  rw [show la.add 1 = ⟨la.block, la.off + 1, none⟩ by simp [Addr.add]] at c1
  exact ⟨la, rfl, hs, hb, c0, c1⟩
theorem ints_one {w : World} {S : Nat → Prop} {LA : Option Addr} {ln : Nat} {a : Int} {r : List Int} (h : Reads w S 1 LA ln (intv (a :: r))) : ∃ la, LA = some la ∧ S la.block ∧ la.block < w.heap.size ∧ w.cell? la = some (.int .i64 a) := by
  have hl := h.1
  simp [intv] at hl
  obtain ⟨la, rfl, hb, hs, hc⟩ := h.2 (by omega)
  have c0 := hc 0 (.int .i64 a) (by simp [intv])
  rw [show la.add 0 = la by simp [Addr.add]] at c0
  exact ⟨la, rfl, hs, hb, c0⟩
/-- the result's block, stored whole -/
def five (w : World) (b : Nat) (v0 v1 v2 v3 v4 : Value) : World := ((((w.setCell ⟨b, 0, none⟩ v0).setCell ⟨b, 1, none⟩ v1).setCell ⟨b, 2, none⟩ v2).setCell ⟨b, 3, none⟩ v3).setCell ⟨b, 4, none⟩ v4
theorem five_cells {w : World} {b : Nat} {u0 u1 u2 u3 u4 : Value} (h : Cells w b 48 #[u0, u1, u2, u3, u4]) (v0 v1 v2 v3 v4 : Value) : Cells (five w b v0 v1 v2 v3 v4) b 48 #[v0, v1, v2, v3, v4] :=
  ((((h.set_ 0 v0).set_ 1 v1).set_ 2 v2).set_ 3 v3).set_ 4 v4
theorem five_upd {w0 w : World} {b : Nat} (hU : Upd Nob w0 w) (hb : ¬ b < w0.heap.size) (v0 v1 v2 v3 v4 : Value) : Upd Nob w0 (five w b v0 v1 v2 v3 v4) :=
  ((((hU.setCell ⟨b, 0, none⟩ v0 (fun h => absurd h hb)).setCell ⟨b, 1, none⟩ v1 (fun h => absurd h hb)).setCell ⟨b, 2, none⟩ v2 (fun h => absurd h hb)).setCell ⟨b, 3, none⟩ v3 (fun h => absurd h hb)).setCell ⟨b, 4, none⟩ v4 (fun h => absurd h hb)
theorem five_own {w : World} {b base e n : Nat} {v : Value} {size : Nat} {xs : List Value} (h : w.ownsRow base e size v n xs) (hb : v.ownBlock ≠ some b) (v0 v1 v2 v3 v4 : Value) : (five w b v0 v1 v2 v3 v4).ownsRow base e size v n xs :=
  own_far (own_far (own_far (own_far (own_far h _ _ hb) _ _ hb) _ _ hb) _ _ hb) _ _ hb
theorem refi_end (P : Ending → World → Prop) (w : World) (a : Act) (b : Nat) (v0 v1 v2 v3 v4 : Value) (hd : a.defers = []) (ht : a.tmps[4]? = some (.pointer (some ⟨b, 0, none⟩))) (hC : Cells w b 48 #[v0, v1, v2, v3, v4]) (hP : P (.returned (.agg #[v0, v1, v2, v3, v4])) w) :
    bodyPost Tryd.prog Tryd.f55 P .ret a w := by
  have c0 := hC.cellv (i := 0) rfl
  have c1 := hC.cellv (i := 1) rfl
  have c2 := hC.cellv (i := 2) rfl
  have c3 := hC.cellv (i := 3) rfl
  have c4 := hC.cellv (i := 4) rfl
  exact ⟨hd, _, by simp [results, Tryd.results55, go_sem, ht, c0, c1, c2, c3, c4], hP⟩
set_option maxRecDepth 100000 in
set_option maxHeartbeats 4000000 in
theorem refi_2 (w : World) (S : Nat → Prop) (LA : Option Addr) (ln lc : Nat) (a b : Int) (r : List Int) (h : Reads w S 1 LA ln (intv (a :: b :: r))) (hS : ∀ b, S b → b < w.heap.size) :
    Calls Tryd.prog 55 #[.int .i64 2, .slice LA ln lc] w (RefIAns w ⟨2, a, b, 0, []⟩) := by
    have hln : 2 ≤ ln := by have := h.1; simp [intv] at this; omega
    have HRD := hideP h
    clear h
    have C0 : Cells ((w.alloc (.cells #[.int .i64 0, .int .i64 0, .int .i64 0, .int .i64 0, .slice none 0 0] 48)).alloc (.cells #[.int .i64 2, .int .i64 0, .int .i64 0, .int .i64 0, .slice none 0 0] 48)) w.heap.size 48 #[.int .i64 0, .int .i64 0, .int .i64 0, .int .i64 0, .slice none 0 0] := (Cells.new _ _ _).alloc _
    have C1 := Cells.new (w.alloc (.cells #[.int .i64 0, .int .i64 0, .int .i64 0, .int .i64 0, .slice none 0 0] 48)) 48 #[.int .i64 2, .int .i64 0, .int .i64 0, .int .i64 0, .slice none 0 0]
    rw [World.size_alloc] at C1
    have hU : Upd Nob w ((w.alloc (.cells #[.int .i64 0, .int .i64 0, .int .i64 0, .int .i64 0, .slice none 0 0] 48)).alloc (.cells #[.int .i64 2, .int .i64 0, .int .i64 0, .int .i64 0, .slice none 0 0] 48)) := ((Upd.refl Nob w).alloc _).alloc _
    go_enter Tryd.func55, Tryd.ntmps55
    go_upto_region 2 with fail
    generalize ((w.alloc (.cells #[.int .i64 0, .int .i64 0, .int .i64 0, .int .i64 0, .slice none 0 0] 48)).alloc (.cells #[.int .i64 2, .int .i64 0, .int .i64 0, .int .i64 0, .slice none 0 0] 48)) = w2 at *
    have HC0 := hideP C0
    have HC1 := hideP C1
    have HU := hideP hU
    have hw2 := C1.lt
    obtain ⟨la, rfl, hs, hb, ca, cb⟩ := ints_two (HRD.out.upd hU (fun _ _ => not_nob))
    have g1 : (1 : Int) < (ln : Int) := by omega
    have g0 : (0 : Int) < (ln : Int) := by omega
    have hlb := hS _ hs
    have hn1 : la.block ≠ w.heap.size + 1 := by omega
    have hn0 : la.block ≠ w.heap.size := by omega
    have hn2 : ¬ w.heap.size + 1 = la.block := by omega
    clear hS hs
    have c0 := C1.cellv (i := 0) rfl
    have c1 := C1.cellv (i := 0 + 1) rfl
    have c2 := C1.cellv (i := 0 + 2) rfl
    have c3 := C1.cellv (i := 0 + 3) rfl
    have c4 := C1.cellv (i := 0 + 4) rfl
    have d0 := C0.cellv (i := 0) rfl
    have d1 := C0.cellv (i := 0 + 1) rfl
    have d2 := C0.cellv (i := 0 + 2) rfl
    have d3 := C0.cellv (i := 0 + 3) rfl
    have d4 := C0.cellv (i := 0 + 4) rfl
    have e0 := C1.frozen 0
    have e1 := C1.frozen (0 + 1)
    have e2 := C1.frozen (0 + 2)
    have e3 := C1.frozen (0 + 3)
    have e4 := C1.frozen (0 + 4)
    have f0 := C0.frozen 0
    have f1 := C0.frozen (0 + 1)
    have f2 := C0.frozen (0 + 2)
    have f3 := C0.frozen (0 + 3)
    have f4 := C0.frozen (0 + 4)
    clear C0 C1 hU
    go_wp2_with fail
    exact refi_end _ _ _ _ _ _ _ _ _ rfl rfl (five_cells ((((HC0.out).far ⟨w.heap.size + 1, 1, none⟩ (.int .i64 a) (by simp))).far ⟨w.heap.size + 1, 2, none⟩ (.int .i64 b) (by simp)) _ _ _ _ _) ⟨none, 0, rfl, World.ownsRow_nil _ _ _ _, five_upd ((((HU.out).setCell ⟨w.heap.size + 1, 1, none⟩ (.int .i64 a) (fun h => absurd h (by show ¬ w.heap.size + 1 < _; omega)))).setCell ⟨w.heap.size + 1, 2, none⟩ (.int .i64 b) (fun h => absurd h (by show ¬ w.heap.size + 1 < _; omega))) (Nat.lt_irrefl _) _ _ _ _ _⟩
set_option maxRecDepth 100000 in
set_option maxHeartbeats 4000000 in
theorem refi_3 (w : World) (S : Nat → Prop) (LA : Option Addr) (ln lc : Nat) (a b : Int) (r : List Int) (h : Reads w S 1 LA ln (intv (a :: b :: r))) (hS : ∀ b, S b → b < w.heap.size) :
    Calls Tryd.prog 55 #[.int .i64 3, .slice LA ln lc] w (RefIAns w ⟨3, b, 0, a, []⟩) := by
    have hln : 2 ≤ ln := by have := h.1; simp [intv] at this; omega
    have HRD := hideP h
    clear h
    have C0 : Cells ((w.alloc (.cells #[.int .i64 0, .int .i64 0, .int .i64 0, .int .i64 0, .slice none 0 0] 48)).alloc (.cells #[.int .i64 3, .int .i64 0, .int .i64 0, .int .i64 0, .slice none 0 0] 48)) w.heap.size 48 #[.int .i64 0, .int .i64 0, .int .i64 0, .int .i64 0, .slice none 0 0] := (Cells.new _ _ _).alloc _
    have C1 := Cells.new (w.alloc (.cells #[.int .i64 0, .int .i64 0, .int .i64 0, .int .i64 0, .slice none 0 0] 48)) 48 #[.int .i64 3, .int .i64 0, .int .i64 0, .int .i64 0, .slice none 0 0]
    rw [World.size_alloc] at C1
    have hU : Upd Nob w ((w.alloc (.cells #[.int .i64 0, .int .i64 0, .int .i64 0, .int .i64 0, .slice none 0 0] 48)).alloc (.cells #[.int .i64 3, .int .i64 0, .int .i64 0, .int .i64 0, .slice none 0 0] 48)) := ((Upd.refl Nob w).alloc _).alloc _
    go_enter Tryd.func55, Tryd.ntmps55
    go_upto_region 2 with fail
    generalize ((w.alloc (.cells #[.int .i64 0, .int .i64 0, .int .i64 0, .int .i64 0, .slice none 0 0] 48)).alloc (.cells #[.int .i64 3, .int .i64 0, .int .i64 0, .int .i64 0, .slice none 0 0] 48)) = w2 at *
    have HC0 := hideP C0
    have HC1 := hideP C1
    have HU := hideP hU
    have hw2 := C1.lt
    obtain ⟨la, rfl, hs, hb, ca, cb⟩ := ints_two (HRD.out.upd hU (fun _ _ => not_nob))
    have g1 : (1 : Int) < (ln : Int) := by omega
    have g0 : (0 : Int) < (ln : Int) := by omega
    have hlb := hS _ hs
    have hn1 : la.block ≠ w.heap.size + 1 := by omega
    have hn0 : la.block ≠ w.heap.size := by omega
    have hn2 : ¬ w.heap.size + 1 = la.block := by omega
    clear hS hs
    have c0 := C1.cellv (i := 0) rfl
    have c1 := C1.cellv (i := 0 + 1) rfl
    have c2 := C1.cellv (i := 0 + 2) rfl
    have c3 := C1.cellv (i := 0 + 3) rfl
    have c4 := C1.cellv (i := 0 + 4) rfl
    have d0 := C0.cellv (i := 0) rfl
    have d1 := C0.cellv (i := 0 + 1) rfl
    have d2 := C0.cellv (i := 0 + 2) rfl
    have d3 := C0.cellv (i := 0 + 3) rfl
    have d4 := C0.cellv (i := 0 + 4) rfl
    have e0 := C1.frozen 0
    have e1 := C1.frozen (0 + 1)
    have e2 := C1.frozen (0 + 2)
    have e3 := C1.frozen (0 + 3)
    have e4 := C1.frozen (0 + 4)
    have f0 := C0.frozen 0
    have f1 := C0.frozen (0 + 1)
    have f2 := C0.frozen (0 + 2)
    have f3 := C0.frozen (0 + 3)
    have f4 := C0.frozen (0 + 4)
    clear C0 C1 hU
    go_wp2_with fail
    exact refi_end _ _ _ _ _ _ _ _ _ rfl rfl (five_cells ((((HC0.out).far ⟨w.heap.size + 1, 3, none⟩ (.int .i64 a) (by simp))).far ⟨w.heap.size + 1, 1, none⟩ (.int .i64 b) (by simp)) _ _ _ _ _) ⟨none, 0, rfl, World.ownsRow_nil _ _ _ _, five_upd ((((HU.out).setCell ⟨w.heap.size + 1, 3, none⟩ (.int .i64 a) (fun h => absurd h (by show ¬ w.heap.size + 1 < _; omega)))).setCell ⟨w.heap.size + 1, 1, none⟩ (.int .i64 b) (fun h => absurd h (by show ¬ w.heap.size + 1 < _; omega))) (Nat.lt_irrefl _) _ _ _ _ _⟩
set_option maxRecDepth 100000 in
set_option maxHeartbeats 4000000 in
theorem refi_4 (w : World) (S : Nat → Prop) (LA : Option Addr) (ln lc : Nat) (a b : Int) (r : List Int) (h : Reads w S 1 LA ln (intv (a :: b :: r))) (hS : ∀ b, S b → b < w.heap.size) :
    Calls Tryd.prog 55 #[.int .i64 4, .slice LA ln lc] w (RefIAns w ⟨4, b, 0, a, []⟩) := by
    have hln : 2 ≤ ln := by have := h.1; simp [intv] at this; omega
    have HRD := hideP h
    clear h
    have C0 : Cells ((w.alloc (.cells #[.int .i64 0, .int .i64 0, .int .i64 0, .int .i64 0, .slice none 0 0] 48)).alloc (.cells #[.int .i64 4, .int .i64 0, .int .i64 0, .int .i64 0, .slice none 0 0] 48)) w.heap.size 48 #[.int .i64 0, .int .i64 0, .int .i64 0, .int .i64 0, .slice none 0 0] := (Cells.new _ _ _).alloc _
    have C1 := Cells.new (w.alloc (.cells #[.int .i64 0, .int .i64 0, .int .i64 0, .int .i64 0, .slice none 0 0] 48)) 48 #[.int .i64 4, .int .i64 0, .int .i64 0, .int .i64 0, .slice none 0 0]
    rw [World.size_alloc] at C1
    have hU : Upd Nob w ((w.alloc (.cells #[.int .i64 0, .int .i64 0, .int .i64 0, .int .i64 0, .slice none 0 0] 48)).alloc (.cells #[.int .i64 4, .int .i64 0, .int .i64 0, .int .i64 0, .slice none 0 0] 48)) := ((Upd.refl Nob w).alloc _).alloc _
    go_enter Tryd.func55, Tryd.ntmps55
    go_upto_region 2 with fail
    generalize ((w.alloc (.cells #[.int .i64 0, .int .i64 0, .int .i64 0, .int .i64 0, .slice none 0 0] 48)).alloc (.cells #[.int .i64 4, .int .i64 0, .int .i64 0, .int .i64 0, .slice none 0 0] 48)) = w2 at *
    have HC0 := hideP C0
    have HC1 := hideP C1
    have HU := hideP hU
    have hw2 := C1.lt
    obtain ⟨la, rfl, hs, hb, ca, cb⟩ := ints_two (HRD.out.upd hU (fun _ _ => not_nob))
    have g1 : (1 : Int) < (ln : Int) := by omega
    have g0 : (0 : Int) < (ln : Int) := by omega
    have hlb := hS _ hs
    have hn1 : la.block ≠ w.heap.size + 1 := by omega
    have hn0 : la.block ≠ w.heap.size := by omega
    have hn2 : ¬ w.heap.size + 1 = la.block := by omega
    clear hS hs
    have c0 := C1.cellv (i := 0) rfl
    have c1 := C1.cellv (i := 0 + 1) rfl
    have c2 := C1.cellv (i := 0 + 2) rfl
    have c3 := C1.cellv (i := 0 + 3) rfl
    have c4 := C1.cellv (i := 0 + 4) rfl
    have d0 := C0.cellv (i := 0) rfl
    have d1 := C0.cellv (i := 0 + 1) rfl
    have d2 := C0.cellv (i := 0 + 2) rfl
    have d3 := C0.cellv (i := 0 + 3) rfl
    have d4 := C0.cellv (i := 0 + 4) rfl
    have e0 := C1.frozen 0
    have e1 := C1.frozen (0 + 1)
    have e2 := C1.frozen (0 + 2)
    have e3 := C1.frozen (0 + 3)
    have e4 := C1.frozen (0 + 4)
    have f0 := C0.frozen 0
    have f1 := C0.frozen (0 + 1)
    have f2 := C0.frozen (0 + 2)
    have f3 := C0.frozen (0 + 3)
    have f4 := C0.frozen (0 + 4)
    clear C0 C1 hU
    go_wp2_with fail
    exact refi_end _ _ _ _ _ _ _ _ _ rfl rfl (five_cells ((((HC0.out).far ⟨w.heap.size + 1, 3, none⟩ (.int .i64 a) (by simp))).far ⟨w.heap.size + 1, 1, none⟩ (.int .i64 b) (by simp)) _ _ _ _ _) ⟨none, 0, rfl, World.ownsRow_nil _ _ _ _, five_upd ((((HU.out).setCell ⟨w.heap.size + 1, 3, none⟩ (.int .i64 a) (fun h => absurd h (by show ¬ w.heap.size + 1 < _; omega)))).setCell ⟨w.heap.size + 1, 1, none⟩ (.int .i64 b) (fun h => absurd h (by show ¬ w.heap.size + 1 < _; omega))) (Nat.lt_irrefl _) _ _ _ _ _⟩
set_option maxRecDepth 100000 in
set_option maxHeartbeats 4000000 in
theorem refi_5 (w : World) (S : Nat → Prop) (LA : Option Addr) (ln lc : Nat) (a : Int) (r : List Int) (h : Reads w S 1 LA ln (intv (a :: r))) (hS : ∀ b, S b → b < w.heap.size) :
    Calls Tryd.prog 55 #[.int .i64 5, .slice LA ln lc] w (RefIAns w ⟨5, 0, 0, a, []⟩) := by
    have hln : 1 ≤ ln := by have := h.1; simp [intv] at this; omega
    have HRD := hideP h
    clear h
    have C0 : Cells ((w.alloc (.cells #[.int .i64 0, .int .i64 0, .int .i64 0, .int .i64 0, .slice none 0 0] 48)).alloc (.cells #[.int .i64 5, .int .i64 0, .int .i64 0, .int .i64 0, .slice none 0 0] 48)) w.heap.size 48 #[.int .i64 0, .int .i64 0, .int .i64 0, .int .i64 0, .slice none 0 0] := (Cells.new _ _ _).alloc _
    have C1 := Cells.new (w.alloc (.cells #[.int .i64 0, .int .i64 0, .int .i64 0, .int .i64 0, .slice none 0 0] 48)) 48 #[.int .i64 5, .int .i64 0, .int .i64 0, .int .i64 0, .slice none 0 0]
    rw [World.size_alloc] at C1
    have hU : Upd Nob w ((w.alloc (.cells #[.int .i64 0, .int .i64 0, .int .i64 0, .int .i64 0, .slice none 0 0] 48)).alloc (.cells #[.int .i64 5, .int .i64 0, .int .i64 0, .int .i64 0, .slice none 0 0] 48)) := ((Upd.refl Nob w).alloc _).alloc _
    go_enter Tryd.func55, Tryd.ntmps55
    go_upto_region 2 with fail
    generalize ((w.alloc (.cells #[.int .i64 0, .int .i64 0, .int .i64 0, .int .i64 0, .slice none 0 0] 48)).alloc (.cells #[.int .i64 5, .int .i64 0, .int .i64 0, .int .i64 0, .slice none 0 0] 48)) = w2 at *
    have HC0 := hideP C0
    have HC1 := hideP C1
    have HU := hideP hU
    have hw2 := C1.lt
    obtain ⟨la, rfl, hs, hb, ca⟩ := ints_one (HRD.out.upd hU (fun _ _ => not_nob))
    have g0 : (0 : Int) < (ln : Int) := by omega
    have hlb := hS _ hs
    have hn1 : la.block ≠ w.heap.size + 1 := by omega
    have hn0 : la.block ≠ w.heap.size := by omega
    have hn2 : ¬ w.heap.size + 1 = la.block := by omega
    clear hS hs
    have c0 := C1.cellv (i := 0) rfl
    have c1 := C1.cellv (i := 0 + 1) rfl
    have c2 := C1.cellv (i := 0 + 2) rfl
    have c3 := C1.cellv (i := 0 + 3) rfl
    have c4 := C1.cellv (i := 0 + 4) rfl
    have d0 := C0.cellv (i := 0) rfl
    have d1 := C0.cellv (i := 0 + 1) rfl
    have d2 := C0.cellv (i := 0 + 2) rfl
    have d3 := C0.cellv (i := 0 + 3) rfl
    have d4 := C0.cellv (i := 0 + 4) rfl
    have e0 := C1.frozen 0
    have e1 := C1.frozen (0 + 1)
    have e2 := C1.frozen (0 + 2)
    have e3 := C1.frozen (0 + 3)
    have e4 := C1.frozen (0 + 4)
    have f0 := C0.frozen 0
    have f1 := C0.frozen (0 + 1)
    have f2 := C0.frozen (0 + 2)
    have f3 := C0.frozen (0 + 3)
    have f4 := C0.frozen (0 + 4)
    clear C0 C1 hU
    go_wp2_with fail
    exact refi_end _ _ _ _ _ _ _ _ _ rfl rfl (five_cells ((HC0.out).far ⟨w.heap.size + 1, 3, none⟩ (.int .i64 a) (by simp)) _ _ _ _ _) ⟨none, 0, rfl, World.ownsRow_nil _ _ _ _, five_upd ((HU.out).setCell ⟨w.heap.size + 1, 3, none⟩ (.int .i64 a) (fun h => absurd h (by show ¬ w.heap.size + 1 < _; omega))) (Nat.lt_irrefl _) _ _ _ _ _⟩
set_option maxRecDepth 100000 in
set_option maxHeartbeats 4000000 in
theorem refi_6 (w : World) (S : Nat → Prop) (LA : Option Addr) (ln lc : Nat) (l : List Int) (h : Reads w S 1 LA ln (intv (l))) (hS : ∀ b, S b → b < w.heap.size) :
    Calls Tryd.prog 55 #[.int .i64 6, .slice LA ln lc] w (RefIAns w ⟨6, 0, 0, 0, []⟩) := by
    have C0 : Cells ((w.alloc (.cells #[.int .i64 0, .int .i64 0, .int .i64 0, .int .i64 0, .slice none 0 0] 48)).alloc (.cells #[.int .i64 6, .int .i64 0, .int .i64 0, .int .i64 0, .slice none 0 0] 48)) w.heap.size 48 #[.int .i64 0, .int .i64 0, .int .i64 0, .int .i64 0, .slice none 0 0] := (Cells.new _ _ _).alloc _
    have C1 := Cells.new (w.alloc (.cells #[.int .i64 0, .int .i64 0, .int .i64 0, .int .i64 0, .slice none 0 0] 48)) 48 #[.int .i64 6, .int .i64 0, .int .i64 0, .int .i64 0, .slice none 0 0]
    rw [World.size_alloc] at C1
    have hU : Upd Nob w ((w.alloc (.cells #[.int .i64 0, .int .i64 0, .int .i64 0, .int .i64 0, .slice none 0 0] 48)).alloc (.cells #[.int .i64 6, .int .i64 0, .int .i64 0, .int .i64 0, .slice none 0 0] 48)) := ((Upd.refl Nob w).alloc _).alloc _
    go_enter Tryd.func55, Tryd.ntmps55
    go_upto_region 2 with fail
    generalize ((w.alloc (.cells #[.int .i64 0, .int .i64 0, .int .i64 0, .int .i64 0, .slice none 0 0] 48)).alloc (.cells #[.int .i64 6, .int .i64 0, .int .i64 0, .int .i64 0, .slice none 0 0] 48)) = w2 at *
    have HC0 := hideP C0
    have HC1 := hideP C1
    have HU := hideP hU
    have hw2 := C1.lt
    have c0 := C1.cellv (i := 0) rfl
    have c1 := C1.cellv (i := 0 + 1) rfl
    have c2 := C1.cellv (i := 0 + 2) rfl
    have c3 := C1.cellv (i := 0 + 3) rfl
    have c4 := C1.cellv (i := 0 + 4) rfl
    have d0 := C0.cellv (i := 0) rfl
    have d1 := C0.cellv (i := 0 + 1) rfl
    have d2 := C0.cellv (i := 0 + 2) rfl
    have d3 := C0.cellv (i := 0 + 3) rfl
    have d4 := C0.cellv (i := 0 + 4) rfl
    have e0 := C1.frozen 0
    have e1 := C1.frozen (0 + 1)
    have e2 := C1.frozen (0 + 2)
    have e3 := C1.frozen (0 + 3)
    have e4 := C1.frozen (0 + 4)
    have f0 := C0.frozen 0
    have f1 := C0.frozen (0 + 1)
    have f2 := C0.frozen (0 + 2)
    have f3 := C0.frozen (0 + 3)
    have f4 := C0.frozen (0 + 4)
    clear C0 C1 hU
    go_wp2_with fail
    exact refi_end _ _ _ _ _ _ _ _ _ rfl rfl (five_cells HC0.out _ _ _ _ _) ⟨none, 0, rfl, World.ownsRow_nil _ _ _ _, five_upd HU.out (Nat.lt_irrefl _) _ _ _ _ _⟩
set_option maxRecDepth 100000 in
set_option maxHeartbeats 4000000 in
theorem refi_7 (w : World) (S : Nat → Prop) (LA : Option Addr) (ln lc : Nat) (a : Int) (r : List Int) (h : Reads w S 1 LA ln (intv (a :: r))) (hS : ∀ b, S b → b < w.heap.size) :
    Calls Tryd.prog 55 #[.int .i64 7, .slice LA ln lc] w (RefIAns w ⟨7, a, 0, 0, []⟩) := by
    have hln : 1 ≤ ln := by have := h.1; simp [intv] at this; omega
    have HRD := hideP h
    clear h
    have C0 : Cells ((w.alloc (.cells #[.int .i64 0, .int .i64 0, .int .i64 0, .int .i64 0, .slice none 0 0] 48)).alloc (.cells #[.int .i64 7, .int .i64 0, .int .i64 0, .int .i64 0, .slice none 0 0] 48)) w.heap.size 48 #[.int .i64 0, .int .i64 0, .int .i64 0, .int .i64 0, .slice none 0 0] := (Cells.new _ _ _).alloc _
    have C1 := Cells.new (w.alloc (.cells #[.int .i64 0, .int .i64 0, .int .i64 0, .int .i64 0, .slice none 0 0] 48)) 48 #[.int .i64 7, .int .i64 0, .int .i64 0, .int .i64 0, .slice none 0 0]
    rw [World.size_alloc] at C1
    have hU : Upd Nob w ((w.alloc (.cells #[.int .i64 0, .int .i64 0, .int .i64 0, .int .i64 0, .slice none 0 0] 48)).alloc (.cells #[.int .i64 7, .int .i64 0, .int .i64 0, .int .i64 0, .slice none 0 0] 48)) := ((Upd.refl Nob w).alloc _).alloc _
    go_enter Tryd.func55, Tryd.ntmps55
    go_upto_region 2 with fail
    generalize ((w.alloc (.cells #[.int .i64 0, .int .i64 0, .int .i64 0, .int .i64 0, .slice none 0 0] 48)).alloc (.cells #[.int .i64 7, .int .i64 0, .int .i64 0, .int .i64 0, .slice none 0 0] 48)) = w2 at *
    have HC0 := hideP C0
    have HC1 := hideP C1
    have HU := hideP hU
    have hw2 := C1.lt
    obtain ⟨la, rfl, hs, hb, ca⟩ := ints_one (HRD.out.upd hU (fun _ _ => not_nob))
    have g0 : (0 : Int) < (ln : Int) := by omega
    have hlb := hS _ hs
    have hn1 : la.block ≠ w.heap.size + 1 := by omega
    have hn0 : la.block ≠ w.heap.size := by omega
    have hn2 : ¬ w.heap.size + 1 = la.block := by omega
    clear hS hs
    have c0 := C1.cellv (i := 0) rfl
    have c1 := C1.cellv (i := 0 + 1) rfl
    have c2 := C1.cellv (i := 0 + 2) rfl
    have c3 := C1.cellv (i := 0 + 3) rfl
    have c4 := C1.cellv (i := 0 + 4) rfl
    have d0 := C0.cellv (i := 0) rfl
    have d1 := C0.cellv (i := 0 + 1) rfl
    have d2 := C0.cellv (i := 0 + 2) rfl
    have d3 := C0.cellv (i := 0 + 3) rfl
    have d4 := C0.cellv (i := 0 + 4) rfl
    have e0 := C1.frozen 0
    have e1 := C1.frozen (0 + 1)
    have e2 := C1.frozen (0 + 2)
    have e3 := C1.frozen (0 + 3)
    have e4 := C1.frozen (0 + 4)
    have f0 := C0.frozen 0
    have f1 := C0.frozen (0 + 1)
    have f2 := C0.frozen (0 + 2)
    have f3 := C0.frozen (0 + 3)
    have f4 := C0.frozen (0 + 4)
    clear C0 C1 hU
    go_wp2_with fail
    exact refi_end _ _ _ _ _ _ _ _ _ rfl rfl (five_cells ((HC0.out).far ⟨w.heap.size + 1, 1, none⟩ (.int .i64 a) (by simp)) _ _ _ _ _) ⟨none, 0, rfl, World.ownsRow_nil _ _ _ _, five_upd ((HU.out).setCell ⟨w.heap.size + 1, 1, none⟩ (.int .i64 a) (fun h => absurd h (by show ¬ w.heap.size + 1 < _; omega))) (Nat.lt_irrefl _) _ _ _ _ _⟩
theorem pairsOf_len : ∀ (r : List Int), (pairsOf r).length = r.length / 2
  | [] => by simp [pairsOf]
  | [a] => by simp [pairsOf]
  | a :: b :: r => by
    unfold pairsOf
    simp only [List.length_cons]
    rw [pairsOf_len r]
    omega
theorem pairsOf_at : ∀ (r : List Int) (k : Nat), 2 * k + 1 < r.length → ∃ x y, r[2 * k]? = some x ∧ r[2 * k + 1]? = some y ∧ (pairsOf r)[k]? = some (x, y)
  | [], k, h => by simp at h
  | [a], k, h => by simp at h
  | a :: b :: r, 0, h => ⟨a, b, rfl, rfl, rfl⟩
  | a :: b :: r, k + 1, h => by
    obtain ⟨x, y, h1, h2, h3⟩ := pairsOf_at r k (by simp at h; omega)
    refine ⟨x, y, ?_, ?_, by unfold pairsOf; simpa using h3⟩
    · rw [show 2 * (k + 1) = 2 * k + 1 + 1 by omega]; simpa using h1
    · rw [show 2 * (k + 1) + 1 = 2 * k + 1 + 1 + 1 by omega]; simpa using h2
set_option maxRecDepth 100000 in
set_option maxHeartbeats 4000000 in
theorem refi_1 (w : World) (S : Nat → Prop) (LA : Option Addr) (ln lc : Nat) (a b : Int) (r : List Int) (h : Reads w S 1 LA ln (intv (a :: b :: r))) (hS : ∀ b, S b → b < w.heap.size) (hl8 : ln ≤ 100000000) :
    Calls Tryd.prog 55 #[.int .i64 1, .slice LA ln lc] w (RefIAns w ⟨1, a, 0, 0, pairsOf r⟩) := by
    have hln : ln = r.length + 2 := by have := h.1; simp [intv] at this; omega
    have HRD := hideP h
    clear h
    generalize hP : RefIAns w ⟨1, a, 0, 0, pairsOf r⟩ = P
    have HP := hideP hP
    clear hP
    have C0 : Cells ((w.alloc (.cells #[.int .i64 0, .int .i64 0, .int .i64 0, .int .i64 0, .slice none 0 0] 48)).alloc (.cells #[.int .i64 1, .int .i64 0, .int .i64 0, .int .i64 0, .slice none 0 0] 48)) w.heap.size 48 #[.int .i64 0, .int .i64 0, .int .i64 0, .int .i64 0, .slice none 0 0] := (Cells.new _ _ _).alloc _
    have C1 := Cells.new (w.alloc (.cells #[.int .i64 0, .int .i64 0, .int .i64 0, .int .i64 0, .slice none 0 0] 48)) 48 #[.int .i64 1, .int .i64 0, .int .i64 0, .int .i64 0, .slice none 0 0]
    rw [World.size_alloc] at C1
    have hU : Upd Nob w ((w.alloc (.cells #[.int .i64 0, .int .i64 0, .int .i64 0, .int .i64 0, .slice none 0 0] 48)).alloc (.cells #[.int .i64 1, .int .i64 0, .int .i64 0, .int .i64 0, .slice none 0 0] 48)) := ((Upd.refl Nob w).alloc _).alloc _
    go_enter Tryd.func55, Tryd.ntmps55
    go_upto_region 2 with fail
    generalize ((w.alloc (.cells #[.int .i64 0, .int .i64 0, .int .i64 0, .int .i64 0, .slice none 0 0] 48)).alloc (.cells #[.int .i64 1, .int .i64 0, .int .i64 0, .int .i64 0, .slice none 0 0] 48)) = w2 at *
    have HC0 := hideP C0
    have HC1 := hideP C1
    have HU := hideP hU
    have hw2 := C1.lt
    obtain ⟨la, rfl, hs, hb, ca, cb⟩ := ints_two (HRD.out.upd hU (fun _ _ => not_nob))
    have g1 : (1 : Int) < (ln : Int) := by omega
    have g0 : (0 : Int) < (ln : Int) := by omega
    have hlb := hS _ hs
    have hn1 : la.block ≠ w.heap.size + 1 := by omega
    have hn2 : ¬ w.heap.size + 1 = la.block := by omega
    have c1 := C1.cellv (i := 0 + 1) rfl
    have e1 := C1.frozen (0 + 1)
    have HLA := hideP (show ∀ wr, Upd Nob w wr → ∀ i x, (a :: b :: r)[i]? = some x → wr.cell? (la.add i) = some (.int .i64 x) from fun wr hv i x hx => by
      obtain ⟨ad, e, -, -, hc⟩ := (HRD.out.upd hv (fun _ _ => not_nob)).2 (by omega)
      injection e with e
      subst e
      exact hc i _ (by rw [intv, List.getElem?_map, hx]; rfl))
    clear C0 C1 hU hS hs
    have HL := hideP hln
    clear hln
    go_wp2_with fail
    have HX := hideP (HC1.out.set_ 1 (.int .i64 a))
    have HZ := hideP (HC0.out.far ⟨w.heap.size + 1, 1, none⟩ (.int .i64 a) (by simp))
    have HV := hideP (HU.out.setCell ⟨w.heap.size + 1, 1, none⟩ (.int .i64 a) (fun h => absurd h (by show ¬ w.heap.size + 1 < _; omega)))
    clear c1 e1 ca cb HC0 HC1 HU
    generalize w2.setCell ⟨w.heap.size + 1, 0 + 1, none⟩ (.int .i64 a) = w3 at *
    go_loopg [6] (r.length / 2) (fun gk v6 wr => ∃ (k : Nat) (B : Option Addr) (c : Nat), k + gk = r.length / 2 ∧ v6 = .int .i64 ((2 + 2 * k : Nat) : Int) ∧ Cells wr (w.heap.size + 1) 48 #[.int .i64 1, .int .i64 a, .int .i64 0, .int .i64 0, .slice B k c] ∧ Cells wr w.heap.size 48 #[.int .i64 0, .int .i64 0, .int .i64 0, .int .i64 0, .slice none 0 0] ∧ wr.ownsRow (w.heap.size + 2) 50 2 (.slice B k c) k (pairv ((pairsOf r).take k)) ∧ Upd Nob w wr)
    case atStart => exact ⟨0, none, 0, by omega, rfl, HX.out, HZ.out, World.ownsRow_nil _ _ _ _, HV.out⟩
    case round =>
      obtain ⟨k, B, c, hk, rfl, hX, hZ, hO, hU⟩ := hrel
      have HK := hideP hk
      have HX := hideP hX
      have HZ := hideP hZ
      have HO := hideP hO
      have HU := hideP hU
      have hsr := hU.size
      have hl := HL.out
      clear hk
      by_cases hlt : ¬ k < r.length / 2
      · have hkk : k = r.length / 2 := by have := HK.out; omega
        have q1 : ¬ ((2 + 2 * k : Nat) : Int) + 1 < (ln : Int) := by omega
        have q2 : IntKind.i64.wrap (((2 + 2 * k : Nat) : Int) + 1) = ((2 + 2 * k : Nat) : Int) + 1 := by rw [IntKind.wrap_i64]; omega
        have HKK := hideP hkk
        clear hkk
        generalize 2 + 2 * k = i at *
        have c0 := hX.cellv (i := 0) rfl
        have c1 := hX.cellv (i := 0 + 1) rfl
        have c2 := hX.cellv (i := 0 + 2) rfl
        have c3 := hX.cellv (i := 0 + 3) rfl
        have c4 := hX.cellv (i := 0 + 4) rfl
        have d0 := hZ.cellv (i := 0) rfl
        have d1 := hZ.cellv (i := 0 + 1) rfl
        have d2 := hZ.cellv (i := 0 + 2) rfl
        have d3 := hZ.cellv (i := 0 + 3) rfl
        have d4 := hZ.cellv (i := 0 + 4) rfl
        have f0 := hZ.frozen 0
        have f1 := hZ.frozen (0 + 1)
        have f2 := hZ.frozen (0 + 2)
        have f3 := hZ.frozen (0 + 3)
        have f4 := hZ.frozen (0 + 4)
        clear hX hZ hO hU hl
        go_wp2_with fail
        have hpl : (pairsOf r).length = k := by rw [pairsOf_len]; exact HKK.out.symm
        have hO2 := HO.out
        rw [List.take_of_length_le (by omega)] at hO2
        refine refi_end _ _ _ _ _ _ _ _ _ rfl rfl (five_cells HZ.out _ _ _ _ _) ?_
        rw [← HP.out]
        refine ⟨B, c, by rw [hpl], ?_, five_upd HU.out (Nat.lt_irrefl _) _ _ _ _ _⟩
        rw [hpl]
        refine own_base (five_own hO2 (own_ne HO.out HZ.out (by decide)) _ _ _ _ _) (fun g hg => by have := own_lo HO.out hg; omega)
      have hlt : k < r.length / 2 := by omega
      have q1 : ((2 + 2 * k : Nat) : Int) + 1 < (ln : Int) := by omega
      have q2 : IntKind.i64.wrap (((2 + 2 * k : Nat) : Int) + 1) = ((2 + 2 * k : Nat) : Int) + 1 := by rw [IntKind.wrap_i64]; omega
      have q3 : IntKind.i64.wrap (((2 + 2 * k : Nat) : Int) + 2) = ((2 + 2 * (k + 1) : Nat) : Int) := by rw [IntKind.wrap_i64]; omega
      obtain ⟨x, y, h1, h2, h3⟩ := pairsOf_at r k (by omega)
      have ca := HLA.out wr HU.out (2 + 2 * k) x (by rw [show 2 + 2 * k = 2 * k + 1 + 1 by omega]; simpa using h1)
      have cb := HLA.out wr HU.out (2 + 2 * k + 1) y (by rw [show 2 + 2 * k + 1 = 2 * k + 1 + 1 + 1 by omega]; simpa using h2)
      rw [show la.add (2 + 2 * k + 1) = ⟨la.block, la.off + (2 + 2 * k + 1), none⟩ by simp [Addr.add]] at cb
      have hi2 : 2 + 2 * k + 1 < ln := by omega
      have e3 : (pairsOf r).take (k + 1) = (pairsOf r).take k ++ [(x, y)] := by rw [List.take_add_one, h3]; rfl
      have HE := hideP e3
      have HQ := hideP (show 2 + 2 * k + 2 = 2 + 2 * (k + 1) from by omega)
      have hK := HK.out
      generalize hgi : 2 + 2 * k = i at *
      clear hX hZ hO hU e3 hl
      go_upto_region 8 with fail
      refine refi_reg8 _ wr la ln lc (w.heap.size + 1) (w.heap.size + 2) i k c x y _ _ _ _ B ((pairsOf r).take k) _ _ _ _ _ _ _ _ _ _ _ _ _ _ _ _ _ _ _ _ _ _ _ _ _ _ _ _ _ _ _ _ _ _ _ _ _ _ _ _ _ _ _ _ _ _ _ _ _ _ _ _ _ _ _ _ _ _ _ _ _ _ _ _ _ _ _ _ _ HX.out HO.out hi2 ca cb (by omega) hl8 (by have := HX.out.lt; omega) (by omega) ?_
      intro _ _ _ _ _ _ _ _ _ _ _ _ _ _ _ gN cN w' hC2 hO2 hU2
      go_wp2_with fail
      go_roundg (r.length / 2 - (k + 1))
      case measure => omega
      case rel => exact ⟨k + 1, some ⟨gN, 0, none⟩, cN, by omega, by (first | go_num | (congr 1; omega)), hC2, HZ.out.upd hU2 (fun h => by rcases h with h | h <;> omega), by rw [HE.out]; exact hO2, HU.out.trans hU2 (fun b hb h => by rcases h with h | h <;> omega)⟩
end Go.Proofs.YtdbdokjlcdogiaaDoor
