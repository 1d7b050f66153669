/-
  ParR, ParL, put together.
-/
import Derived.Test.YtlaofcgllchedaaZ22RepR

/-
  Drawn regions of heronref06.Parses: a row of marks is appended. Printed by tools/mkParR.py.
-/
namespace Go.Proofs.Ytlaofcgllchedaa
open Go.RowKit
set_option linter.unusedVariables false

theorem pinfo_bool : (Try.prog.info? 4).map (fun i => (i.zero, i.size, i.bytes)) = some (some (.bool false), 1, 1) := by kernel_rfl
theorem pinfo_bools : (Try.prog.info? 40).map (fun i => (i.zero, i.size, i.bytes)) = some (some (.slice none 0 0), 1, 24) := by kernel_rfl
/-- a row of marks, none set -/
def noMark : Nat → Bool := fun _ => false
theorem made_marks (n : Nat) : madeCells (Value.bool false).cells (n * 1) = rowC noMark n := by
  apply Array.toList_inj.1
  rw [show (Value.bool false).cells = #[Value.bool false] from rfl, toList_madeCells_one, Nat.mul_one]
  apply List.ext_getElem?
  intro j
  by_cases h : j < n
  · simp [rowC, noMark, h]
  · simp [rowC, noMark, h]
/-- 'make([]bool, n)' at a step of a region that draws its order -/
theorem step_make_marks {ops : Array Oper} {o : Oper} {a : Act} {K : Act → World → Prop} {Q : Exit → Act → World → Prop} {E : Prop} (w : World)
    (hg : o.guard = none) (l : Operand) (hop : o.op = Op.makeSlice 40 l l) (C : Int) (n : Nat) (hl : a.eval l = .int .i64 C) (hC : C = (n : Int)) (hn : n ≤ 100000)
    (hK : K (a.put o.dst (.slice (some ⟨w.heap.size, 0, none⟩) n n)) (w.alloc (.cells (rowC noMark n) 4))) :
    if Region.wanted o (yielded ops a.tmps) = true then Oper.wp Try.prog o a w K Q else E := by
  rw [if_pos (by simp [Region.wanted, hg])]
  obtain ⟨i0, hi0, hz0, hz1, hz2⟩ := info_parts pinfo_bool
  subst hC
  have hrun := run_make (P := Try.prog) w 40 4 i0 (.bool false) Try.underlying40 hi0 hz0 .i64 .i64 (n : Int) (n : Int) (by omega) (by omega) (by rw [hz2]; omega) (by omega)
  rw [Int.toNat_natCast, hz1, made_marks] at hrun
  unfold Oper.wp
  simp [execOp, hop, hl, hrun, Result.andThen]
  exact hK
set_option maxRecDepth 100000 in
set_option maxHeartbeats 4000000 in
theorem par_reg17 (Q : Exit → Act → World → Prop) (wr : World) (wb n tc k bc base : Nat) (TA BA : Option Addr) (vs : List Value) (p0 p1 p2 p4 p5 p6 : Value) (x0 x2 x3 x4 x5 x6 x7 x8 x9 x10 x11 x13 x14 x15 x16 x17 x18 x19 x20 x21 x22 x23 x24 x25 x26 x27 x28 x29 x30 x31 x32 x33 x34 x35 x36 x37 x38 x39 x40 x41 x42 x43 x44 x45 x46 x47 x48 x49 x50 x51 x52 x53 x54 x55 x56 x57 x58 x59 x60 x61 x62 x63 x64 x65 x66 x67 x68 x69 x70 x71 x72 x73 x74 x75 x76 x77 x78 x79 x80 x81 x82 x83 x84 x85 x86 x87 x88 x89 x90 x91 x92 x93 x94 x95 x96 x97 x98 x99 x100 x101 x102 x103 x104 x105 x106 : Value)
    (hC : Cells wr wb 65 #[p0, p1, p2, .slice BA k bc, p4, p5, p6]) (hO : wr.ownsRow base 40 1 (.slice BA k bc) k vs) (hb : base ≤ wr.heap.size) (hk : k ≤ 100000) (hn : n ≤ 64)
    (hnext : ∀ (v58 v59 v60 v61 v62 v63 v64 v65 v66 v67 v68 v69 v70 : Value) (w4 : World) (gB gN cN : Nat), Upd (fun (b : Nat) => (Value.slice BA k bc).ownBlock = some b) wr w4 → gB = wr.heap.size → Cells w4 gB 4 (rowC noMark (n + 1)) → ((Value.slice BA k bc).ownBlock = some gN ∨ gN = wr.heap.size + 2) → w4.ownsRow base 40 1 (.slice (some ⟨gN, 0, none⟩) (k + 1) cN) (k + 1) (vs ++ [.slice (some ⟨gB, 0, none⟩) (n + 1) (n + 1)]) → Cells w4 wb 65 #[p0, p1, p2, .slice BA k bc, p4, p5, p6] → Q .normal ⟨#[x0, .slice TA n tc, x2, x3, x4, x5, x6, x7, x8, x9, x10, x11, .pointer (some ⟨wb, 0, none⟩), x13, x14, x15, x16, x17, x18, x19, x20, x21, x22, x23, x24, x25, x26, x27, x28, x29, x30, x31, x32, x33, x34, x35, x36, x37, x38, x39, x40, x41, x42, x43, x44, x45, x46, x47, x48, x49, x50, x51, x52, x53, x54, x55, x56, x57, v58, v59, v60, v61, v62, v63, v64, v65, v66, v67, v68, v69, v70, x71, x72, x73, x74, x75, x76, x77, x78, x79, x80, x81, x82, x83, x84, x85, x86, x87, x88, x89, x90, x91, x92, x93, x94, x95, x96, x97, x98, x99, x100, x101, x102, x103, x104, x105, x106], []⟩ (w4.setCell ⟨wb, 0 + 3, none⟩ (.slice (some ⟨gN, 0, none⟩) (k + 1) cN))) :
    (Code.region 17 #[{ dst := some 58, op := Op.move (Operand.tmp 12), type := 62, pos := "ref.go:264", after := #[], guard := none }, { dst := some 59, op := Op.move (Operand.tmp 12), type := 62, pos := "ref.go:264", after := #[], guard := none }, { dst := some 60, op := Op.nilCheck (Operand.tmp 59), type := 0, pos := "ref.go:264", after := #[{ on := 1, ground := .data }], guard := none }, { dst := some 61, op := Op.fieldAddr 65 (Operand.tmp 60) 3, type := 0, pos := "ref.go:264", after := #[{ on := 2, ground := .data }], guard := none }, { dst := some 62, op := Op.load 63 (Operand.tmp 61), type := 63, pos := "ref.go:264", after := #[{ on := 3, ground := .data }], guard := none }, { dst := some 63, op := Op.move (Operand.tmp 1), type := 22, pos := "ref.go:264", after := #[], guard := none }, { dst := some 64, op := Op.call { callee := Callee.builtin Builtin.len, args := #[Operand.tmp 63], argTypes := #[22] }, type := 3, pos := "ref.go:264", after := #[{ on := 5, ground := .data }], guard := none }, { dst := some 65, op := Op.binOp BinOp.add 3 (Operand.tmp 64) (Operand.const (Value.int IntKind.i64 1)) 3, type := 3, pos := "ref.go:264", after := #[{ on := 6, ground := .data }], guard := none }, { dst := some 66, op := Op.makeSlice 40 (Operand.tmp 65) (Operand.tmp 65), type := 40, pos := "ref.go:264", after := #[{ on := 7, ground := .data }, { on := 7, ground := .data }], guard := none }, { dst := some 67, op := Op.buildSlice 63 1 #[(0, Operand.tmp 66)], type := 63, pos := "ref.go:264", after := #[{ on := 8, ground := .data }], guard := none }, { dst := some 68, op := Op.call { callee := Callee.builtin Builtin.append, args := #[Operand.tmp 62, Operand.tmp 67], argTypes := #[63, 63] }, type := 63, pos := "ref.go:264", after := #[{ on := 4, ground := .data }, { on := 9, ground := .data }], guard := none }, { dst := some 69, op := Op.nilCheck (Operand.tmp 58), type := 0, pos := "ref.go:264", after := #[{ on := 0, ground := .data }, { on := 0, ground := .phase }, { on := 1, ground := .phase }, { on := 2, ground := .phase }, { on := 3, ground := .phase }, { on := 4, ground := .phase }, { on := 5, ground := .phase }, { on := 6, ground := .phase }, { on := 7, ground := .phase }, { on := 8, ground := .phase }, { on := 9, ground := .phase }, { on := 10, ground := .phase }], guard := none }, { dst := some 70, op := Op.fieldAddr 65 (Operand.tmp 69) 3, type := 0, pos := "ref.go:264", after := #[{ on := 11, ground := .data }, { on := 0, ground := .phase }, { on := 1, ground := .phase }, { on := 2, ground := .phase }, { on := 3, ground := .phase }, { on := 4, ground := .phase }, { on := 5, ground := .phase }, { on := 6, ground := .phase }, { on := 7, ground := .phase }, { on := 8, ground := .phase }, { on := 9, ground := .phase }, { on := 10, ground := .phase }], guard := none }, { dst := none, op := Op.store 63 (Operand.tmp 70) (Operand.tmp 68), type := 0, pos := "ref.go:264", after := #[{ on := 12, ground := .data }, { on := 10, ground := .data }, { on := 10, ground := .chain }, { on := 0, ground := .phase }, { on := 1, ground := .phase }, { on := 2, ground := .phase }, { on := 3, ground := .phase }, { on := 4, ground := .phase }, { on := 5, ground := .phase }, { on := 6, ground := .phase }, { on := 7, ground := .phase }, { on := 8, ground := .phase }, { on := 9, ground := .phase }, { on := 10, ground := .phase }], guard := none }] true).wp Try.prog Q ⟨#[x0, .slice TA n tc, x2, x3, x4, x5, x6, x7, x8, x9, x10, x11, .pointer (some ⟨wb, 0, none⟩), x13, x14, x15, x16, x17, x18, x19, x20, x21, x22, x23, x24, x25, x26, x27, x28, x29, x30, x31, x32, x33, x34, x35, x36, x37, x38, x39, x40, x41, x42, x43, x44, x45, x46, x47, x48, x49, x50, x51, x52, x53, x54, x55, x56, x57, x58, x59, x60, x61, x62, x63, x64, x65, x66, x67, x68, x69, x70, x71, x72, x73, x74, x75, x76, x77, x78, x79, x80, x81, x82, x83, x84, x85, x86, x87, x88, x89, x90, x91, x92, x93, x94, x95, x96, x97, x98, x99, x100, x101, x102, x103, x104, x105, x106], []⟩ wr := by
  obtain ⟨i0, hi0, hz0, hz1, hz2⟩ := info_parts pinfo_bools
  have HY := hideP hnext
  have hS : (fun (w' : World) => w'.cell? ⟨wb, 0 + 3, none⟩ = some (.slice BA k bc)) wr := hC.cellv rfl
  have n64 : (n : Int) ≤ 64 := by omega
  have hUd := (Upd.refl Nob wr).drew
  have HCA := hideP (hUd.alloc (.cells (rowC noMark (n + 1)) 4))
  have HCB := hideP (HCA.out.alloc (.cells #[.slice (some ⟨wr.drew.heap.size, 0, none⟩) (n + 1) (n + 1)] 40))
  have HGB := hideP ((Cells.new wr.drew 4 (rowC noMark (n + 1))).alloc (.cells #[.slice (some ⟨wr.drew.heap.size, 0, none⟩) (n + 1) (n + 1)] 40))
  have hwb := heap_alloc_new (wr.drew.alloc (.cells (rowC noMark (n + 1)) 4)) (.cells #[.slice (some ⟨wr.drew.heap.size, 0, none⟩) (n + 1) (n + 1)] 40)
  rw [World.size_alloc] at hwb
  have HWB := hideP hwb
  have HC := hideP hC
  have HO := hideP hO
  have vw : IntKind.i64.wrap ((n : Int) + 1) = (n : Int) + 1 := by rw [IntKind.wrap_i64]; omega
  clear hnext hC hO hUd hwb
  refine Code.wp_mono (QuietQ.imp (G := fun _ _ _ => False) (fun _ _ _ h => h.elim)) ?_
  refine AnyJ.begin 13 (fun (w' : World) => w'.cell? ⟨wb, 0 + 3, none⟩ = some (.slice BA k bc)) (by kernel_rfl) hS (fun hSS => ?_)
  refine AnyJ.take (i := 0) (oi := { dst := some 58, op := Op.move (Operand.tmp 12), type := 62, pos := "ref.go:264", after := #[], guard := none }) (v := ?v0nr171) ?a0nr171 ?b0nr171 ?c0nr171 ?d0nr171 ?e0nr171 (fun _ _ _ h => h) (Or.inl ⟨?f0nr171, ?y0nr171⟩) (by assumption) ?r0nr171
  case a0nr171 => rfl
  case b0nr171 => kernel_rfl
  case c0nr171 => kernel_rfl
  case d0nr171 => kernel_rfl
  case e0nr171 => kernel_rfl
  case f0nr171 => rfl
  case y0nr171 => (intro w' hSw; (try dsimp only at hSw); go_simp; try with_reducible rfl)
  try simp only [Act.put, List.setIfInBounds_toArray, List.set_cons_zero, List.set_cons_succ]
  refine AnyJ.take (i := 1) (oi := { dst := some 59, op := Op.move (Operand.tmp 12), type := 62, pos := "ref.go:264", after := #[], guard := none }) (v := ?v1nr172) ?a1nr172 ?b1nr172 ?c1nr172 ?d1nr172 ?e1nr172 (fun _ _ _ h => h) (Or.inl ⟨?f1nr172, ?y1nr172⟩) (by assumption) ?r1nr172
  case a1nr172 => rfl
  case b1nr172 => kernel_rfl
  case c1nr172 => kernel_rfl
  case d1nr172 => kernel_rfl
  case e1nr172 => kernel_rfl
  case f1nr172 => rfl
  case y1nr172 => (intro w' hSw; (try dsimp only at hSw); go_simp; try with_reducible rfl)
  try simp only [Act.put, List.setIfInBounds_toArray, List.set_cons_zero, List.set_cons_succ]
  refine AnyJ.take (i := 2) (oi := { dst := some 60, op := Op.nilCheck (Operand.tmp 59), type := 0, pos := "ref.go:264", after := #[{ on := 1, ground := .data }], guard := none }) (v := ?v2nr173) ?a2nr173 ?b2nr173 ?c2nr173 ?d2nr173 ?e2nr173 (fun _ _ _ h => h) (Or.inl ⟨?f2nr173, ?y2nr173⟩) (by assumption) ?r2nr173
  case a2nr173 => rfl
  case b2nr173 => kernel_rfl
  case c2nr173 => kernel_rfl
  case d2nr173 => kernel_rfl
  case e2nr173 => kernel_rfl
  case f2nr173 => rfl
  case y2nr173 => (intro w' hSw; (try dsimp only at hSw); go_simp; try with_reducible rfl)
  try simp only [Act.put, List.setIfInBounds_toArray, List.set_cons_zero, List.set_cons_succ]
  refine AnyJ.take (i := 3) (oi := { dst := some 61, op := Op.fieldAddr 65 (Operand.tmp 60) 3, type := 0, pos := "ref.go:264", after := #[{ on := 2, ground := .data }], guard := none }) (v := ?v3nr174) ?a3nr174 ?b3nr174 ?c3nr174 ?d3nr174 ?e3nr174 (fun _ _ _ h => h) (Or.inl ⟨?f3nr174, ?y3nr174⟩) (by assumption) ?r3nr174
  case a3nr174 => rfl
  case b3nr174 => kernel_rfl
  case c3nr174 => kernel_rfl
  case d3nr174 => kernel_rfl
  case e3nr174 => kernel_rfl
  case f3nr174 => rfl
  case y3nr174 => (intro w' hSw; (try dsimp only at hSw); go_simp; try with_reducible rfl)
  try simp only [Act.put, List.setIfInBounds_toArray, List.set_cons_zero, List.set_cons_succ]
  refine AnyJ.take (i := 4) (oi := { dst := some 62, op := Op.load 63 (Operand.tmp 61), type := 63, pos := "ref.go:264", after := #[{ on := 3, ground := .data }], guard := none }) (v := ?v4nr175) ?a4nr175 ?b4nr175 ?c4nr175 ?d4nr175 ?e4nr175 (fun _ _ _ h => h) (Or.inl ⟨?f4nr175, ?y4nr175⟩) (by assumption) ?r4nr175
  case a4nr175 => rfl
  case b4nr175 => kernel_rfl
  case c4nr175 => kernel_rfl
  case d4nr175 => kernel_rfl
  case e4nr175 => kernel_rfl
  case f4nr175 => rfl
  case y4nr175 => (intro w' hSw; (try dsimp only at hSw); go_simp; try with_reducible rfl)
  try simp only [Act.put, List.setIfInBounds_toArray, List.set_cons_zero, List.set_cons_succ]
  refine AnyJ.take (i := 5) (oi := { dst := some 63, op := Op.move (Operand.tmp 1), type := 22, pos := "ref.go:264", after := #[], guard := none }) (v := ?v5nr176) ?a5nr176 ?b5nr176 ?c5nr176 ?d5nr176 ?e5nr176 (fun _ _ _ h => h) (Or.inl ⟨?f5nr176, ?y5nr176⟩) (by assumption) ?r5nr176
  case a5nr176 => rfl
  case b5nr176 => kernel_rfl
  case c5nr176 => kernel_rfl
  case d5nr176 => kernel_rfl
  case e5nr176 => kernel_rfl
  case f5nr176 => rfl
  case y5nr176 => (intro w' hSw; (try dsimp only at hSw); go_simp; try with_reducible rfl)
  try simp only [Act.put, List.setIfInBounds_toArray, List.set_cons_zero, List.set_cons_succ]
  refine AnyJ.take (i := 6) (oi := { dst := some 64, op := Op.call { callee := Callee.builtin Builtin.len, args := #[Operand.tmp 63], argTypes := #[22] }, type := 3, pos := "ref.go:264", after := #[{ on := 5, ground := .data }], guard := none }) (v := ?v6nr177) ?a6nr177 ?b6nr177 ?c6nr177 ?d6nr177 ?e6nr177 (fun _ _ _ h => h) (Or.inl ⟨?f6nr177, ?y6nr177⟩) (by assumption) ?r6nr177
  case a6nr177 => rfl
  case b6nr177 => kernel_rfl
  case c6nr177 => kernel_rfl
  case d6nr177 => kernel_rfl
  case e6nr177 => kernel_rfl
  case f6nr177 => rfl
  case y6nr177 => (intro w' hSw; (try dsimp only at hSw); go_simp; try with_reducible rfl)
  try simp only [Act.put, List.setIfInBounds_toArray, List.set_cons_zero, List.set_cons_succ]
  refine AnyJ.take (i := 7) (oi := { dst := some 65, op := Op.binOp BinOp.add 3 (Operand.tmp 64) (Operand.const (Value.int IntKind.i64 1)) 3, type := 3, pos := "ref.go:264", after := #[{ on := 6, ground := .data }], guard := none }) (v := ?v7nr178) ?a7nr178 ?b7nr178 ?c7nr178 ?d7nr178 ?e7nr178 (fun _ _ _ h => h) (Or.inl ⟨?f7nr178, ?y7nr178⟩) (by assumption) ?r7nr178
  case a7nr178 => rfl
  case b7nr178 => kernel_rfl
  case c7nr178 => kernel_rfl
  case d7nr178 => kernel_rfl
  case e7nr178 => kernel_rfl
  case f7nr178 => rfl
  case y7nr178 => (intro w' hSw; (try dsimp only at hSw); go_simp; try with_reducible rfl)
  try simp only [Act.put, List.setIfInBounds_toArray, List.set_cons_zero, List.set_cons_succ]
  clear hSS hS
  refine AnyJ.one (i := 8) (o := { dst := some 66, op := Op.makeSlice 40 (Operand.tmp 65) (Operand.tmp 65), type := 40, pos := "ref.go:264", after := #[{ on := 7, ground := .data }, { on := 7, ground := .data }], guard := none }) ?pr179 ?qr179 ?_
  case pr179 => kernel_rfl
  case qr179 => rfl
  intro K' hK
  refine step_make_marks wr.drew rfl (.tmp 65) rfl _ (n + 1) (by rfl) (by omega) (by omega) ?_
  refine hK.out _ _ (.inr ((HC.out.upd HCA.out not_nob).cellv rfl)) ?_; clear hK K'
  try simp only [Act.put, List.setIfInBounds_toArray, List.set_cons_zero, List.set_cons_succ]
  refine AnyJ.one (i := 9) (o := { dst := some 67, op := Op.buildSlice 63 1 #[(0, Operand.tmp 66)], type := 63, pos := "ref.go:264", after := #[{ on := 8, ground := .data }], guard := none }) ?pr1710 ?qr1710 ?_
  case pr1710 => kernel_rfl
  case qr1710 => rfl
  intro K' hK
  go_simp
  refine hK.out _ _ (.inr ((HC.out.upd HCB.out not_nob).cellv rfl)) ?_; clear hK K'
  try simp only [Act.put, List.setIfInBounds_toArray, List.set_cons_zero, List.set_cons_succ]
  refine AnyJ.one (i := 10) (o := { dst := some 68, op := Op.call { callee := Callee.builtin Builtin.append, args := #[Operand.tmp 62, Operand.tmp 67], argTypes := #[63, 63] }, type := 63, pos := "ref.go:264", after := #[{ on := 4, ground := .data }, { on := 9, ground := .data }], guard := none }) ?pr1711 ?qr1711 ?_
  case pr1711 => kernel_rfl
  case qr1711 => rfl
  intro K' hK
  have P9 := own_upd HO.out HCB.out (fun _ _ => not_nob)
  refine step_append_lies _ rfl (.tmp 62) (.tmp 67) 63 rfl base 40 i0 _ 1 24 Try.underlying63 hi0 hz0 hz1 hz2 rfl (by decide) (.slice BA k bc) k vs (by rfl) P9 ⟨wr.drew.heap.size + 1, 0, none⟩ 1 1 [.slice (some ⟨wr.drew.heap.size, 0, none⟩) (n + 1) (n + 1)] (by rfl) (by rfl) (World.news_of_block (cs := #[.slice (some ⟨wr.drew.heap.size, 0, none⟩) (n + 1) (n + 1)]) (t := 40) (fr := (0, 0)) HWB.out) (by intro u hu; simp at hu; subst hu; rfl) (by decide) (by unfold maxLen; omega) (by omega) (Nat.le_trans hb HCB.out.size) (wr.heap.size + 2) (by show ((wr.alloc (.cells (rowC noMark (n + 1)) 4)).alloc (.cells #[.slice (some ⟨wr.heap.size, 0, none⟩) (n + 1) (n + 1)] 40)).heap.size = wr.heap.size + 2; rw [World.size_alloc, World.size_alloc]) ?_
  intro gN cN w4 oN gr hat hltN
  have UB := (HCB.out.mono (fun _ _ h => absurd h not_nob)).grown (F := fun b => (Value.slice BA k bc).ownBlock = some b) gr (fun b hb _ => hb)
  have C4 := HC.out.upd UB (fun e => own_ne HO.out HC.out (by decide) e)
  have G4 : Cells w4 wr.heap.size 4 (rowC noMark (n + 1)) := HGB.out.grown gr (fun e => own_ne P9 HGB.out (by decide) e)
  refine hK.out _ _ (.inr (C4.cellv rfl)) ?_; clear hK K'
  try simp only [Act.put, List.setIfInBounds_toArray, List.set_cons_zero, List.set_cons_succ]
  refine AnyJ.one (i := 11) (o := { dst := some 69, op := Op.nilCheck (Operand.tmp 58), type := 0, pos := "ref.go:264", after := #[{ on := 0, ground := .data }, { on := 0, ground := .phase }, { on := 1, ground := .phase }, { on := 2, ground := .phase }, { on := 3, ground := .phase }, { on := 4, ground := .phase }, { on := 5, ground := .phase }, { on := 6, ground := .phase }, { on := 7, ground := .phase }, { on := 8, ground := .phase }, { on := 9, ground := .phase }, { on := 10, ground := .phase }], guard := none }) ?pr1712 ?qr1712 ?_
  case pr1712 => kernel_rfl
  case qr1712 => rfl
  intro K' hK
  go_simp
  refine hK.out _ _ (.inr (C4.cellv rfl)) ?_; clear hK K'
  try simp only [Act.put, List.setIfInBounds_toArray, List.set_cons_zero, List.set_cons_succ]
  refine AnyJ.one (i := 12) (o := { dst := some 70, op := Op.fieldAddr 65 (Operand.tmp 69) 3, type := 0, pos := "ref.go:264", after := #[{ on := 11, ground := .data }, { on := 0, ground := .phase }, { on := 1, ground := .phase }, { on := 2, ground := .phase }, { on := 3, ground := .phase }, { on := 4, ground := .phase }, { on := 5, ground := .phase }, { on := 6, ground := .phase }, { on := 7, ground := .phase }, { on := 8, ground := .phase }, { on := 9, ground := .phase }, { on := 10, ground := .phase }], guard := none }) ?pr1713 ?qr1713 ?_
  case pr1713 => kernel_rfl
  case qr1713 => rfl
  intro K' hK
  go_simp
  refine hK.out _ _ (.inr (C4.cellv rfl)) ?_; clear hK K'
  try simp only [Act.put, List.setIfInBounds_toArray, List.set_cons_zero, List.set_cons_succ]
  have s0 : w4.cell? ⟨wb, 0 + 3, none⟩ = some (.slice BA k bc) := C4.cellv rfl
  have z0 : w4.frozen? ⟨wb, 0 + 3, none⟩ = false := C4.frozen _
  refine AnyJ.one (i := 13) (o := { dst := none, op := Op.store 63 (Operand.tmp 70) (Operand.tmp 68), type := 0, pos := "ref.go:264", after := #[{ on := 12, ground := .data }, { on := 10, ground := .data }, { on := 10, ground := .chain }, { on := 0, ground := .phase }, { on := 1, ground := .phase }, { on := 2, ground := .phase }, { on := 3, ground := .phase }, { on := 4, ground := .phase }, { on := 5, ground := .phase }, { on := 6, ground := .phase }, { on := 7, ground := .phase }, { on := 8, ground := .phase }, { on := 9, ground := .phase }, { on := 10, ground := .phase }], guard := none }) ?pr1714 ?qr1714 ?_
  case pr1714 => kernel_rfl
  case qr1714 => rfl
  intro K' hK
  go_simp
  refine hK.out _ _ (.inl rfl) ?_; clear hK K'
  refine AnyJ.done ?_ ?_ _
  · kernel_rfl
  exact HY.out _ _ _ _ _ _ _ _ _ _ _ _ _ w4 _ gN cN UB rfl G4 hat oN C4
set_option maxRecDepth 100000 in
set_option maxHeartbeats 4000000 in
theorem par_reg18 (Q : Exit → Act → World → Prop) (wr : World) (wb n tc k bc base : Nat) (TA BA : Option Addr) (vs : List Value) (p0 p1 p2 p3 p5 p6 : Value) (x0 x2 x3 x4 x5 x6 x7 x8 x9 x10 x11 x13 x14 x15 x16 x17 x18 x19 x20 x21 x22 x23 x24 x25 x26 x27 x28 x29 x30 x31 x32 x33 x34 x35 x36 x37 x38 x39 x40 x41 x42 x43 x44 x45 x46 x47 x48 x49 x50 x51 x52 x53 x54 x55 x56 x57 x58 x59 x60 x61 x62 x63 x64 x65 x66 x67 x68 x69 x70 x71 x72 x73 x74 x75 x76 x77 x78 x79 x80 x81 x82 x83 x84 x85 x86 x87 x88 x89 x90 x91 x92 x93 x94 x95 x96 x97 x98 x99 x100 x101 x102 x103 x104 x105 x106 : Value)
    (hC : Cells wr wb 65 #[p0, p1, p2, p3, .slice BA k bc, p5, p6]) (hO : wr.ownsRow base 40 1 (.slice BA k bc) k vs) (hb : base ≤ wr.heap.size) (hk : k ≤ 100000) (hn : n ≤ 64)
    (hnext : ∀ (v71 v72 v73 v74 v75 v76 v77 v78 v79 v80 v81 v82 v83 : Value) (w4 : World) (gB gN cN : Nat), Upd (fun (b : Nat) => (Value.slice BA k bc).ownBlock = some b) wr w4 → gB = wr.heap.size → Cells w4 gB 4 (rowC noMark (n + 1)) → ((Value.slice BA k bc).ownBlock = some gN ∨ gN = wr.heap.size + 2) → w4.ownsRow base 40 1 (.slice (some ⟨gN, 0, none⟩) (k + 1) cN) (k + 1) (vs ++ [.slice (some ⟨gB, 0, none⟩) (n + 1) (n + 1)]) → Cells w4 wb 65 #[p0, p1, p2, p3, .slice BA k bc, p5, p6] → Q .normal ⟨#[x0, .slice TA n tc, x2, x3, x4, x5, x6, x7, x8, x9, x10, x11, .pointer (some ⟨wb, 0, none⟩), x13, x14, x15, x16, x17, x18, x19, x20, x21, x22, x23, x24, x25, x26, x27, x28, x29, x30, x31, x32, x33, x34, x35, x36, x37, x38, x39, x40, x41, x42, x43, x44, x45, x46, x47, x48, x49, x50, x51, x52, x53, x54, x55, x56, x57, x58, x59, x60, x61, x62, x63, x64, x65, x66, x67, x68, x69, x70, v71, v72, v73, v74, v75, v76, v77, v78, v79, v80, v81, v82, v83, x84, x85, x86, x87, x88, x89, x90, x91, x92, x93, x94, x95, x96, x97, x98, x99, x100, x101, x102, x103, x104, x105, x106], []⟩ (w4.setCell ⟨wb, 0 + 4, none⟩ (.slice (some ⟨gN, 0, none⟩) (k + 1) cN))) :
    (Code.region 18 #[{ dst := some 71, op := Op.move (Operand.tmp 12), type := 62, pos := "ref.go:265", after := #[], guard := none }, { dst := some 72, op := Op.move (Operand.tmp 12), type := 62, pos := "ref.go:265", after := #[], guard := none }, { dst := some 73, op := Op.nilCheck (Operand.tmp 72), type := 0, pos := "ref.go:265", after := #[{ on := 1, ground := .data }], guard := none }, { dst := some 74, op := Op.fieldAddr 65 (Operand.tmp 73) 4, type := 0, pos := "ref.go:265", after := #[{ on := 2, ground := .data }], guard := none }, { dst := some 75, op := Op.load 63 (Operand.tmp 74), type := 63, pos := "ref.go:265", after := #[{ on := 3, ground := .data }], guard := none }, { dst := some 76, op := Op.move (Operand.tmp 1), type := 22, pos := "ref.go:265", after := #[], guard := none }, { dst := some 77, op := Op.call { callee := Callee.builtin Builtin.len, args := #[Operand.tmp 76], argTypes := #[22] }, type := 3, pos := "ref.go:265", after := #[{ on := 5, ground := .data }], guard := none }, { dst := some 78, op := Op.binOp BinOp.add 3 (Operand.tmp 77) (Operand.const (Value.int IntKind.i64 1)) 3, type := 3, pos := "ref.go:265", after := #[{ on := 6, ground := .data }], guard := none }, { dst := some 79, op := Op.makeSlice 40 (Operand.tmp 78) (Operand.tmp 78), type := 40, pos := "ref.go:265", after := #[{ on := 7, ground := .data }, { on := 7, ground := .data }], guard := none }, { dst := some 80, op := Op.buildSlice 63 1 #[(0, Operand.tmp 79)], type := 63, pos := "ref.go:265", after := #[{ on := 8, ground := .data }], guard := none }, { dst := some 81, op := Op.call { callee := Callee.builtin Builtin.append, args := #[Operand.tmp 75, Operand.tmp 80], argTypes := #[63, 63] }, type := 63, pos := "ref.go:265", after := #[{ on := 4, ground := .data }, { on := 9, ground := .data }], guard := none }, { dst := some 82, op := Op.nilCheck (Operand.tmp 71), type := 0, pos := "ref.go:265", after := #[{ on := 0, ground := .data }, { on := 0, ground := .phase }, { on := 1, ground := .phase }, { on := 2, ground := .phase }, { on := 3, ground := .phase }, { on := 4, ground := .phase }, { on := 5, ground := .phase }, { on := 6, ground := .phase }, { on := 7, ground := .phase }, { on := 8, ground := .phase }, { on := 9, ground := .phase }, { on := 10, ground := .phase }], guard := none }, { dst := some 83, op := Op.fieldAddr 65 (Operand.tmp 82) 4, type := 0, pos := "ref.go:265", after := #[{ on := 11, ground := .data }, { on := 0, ground := .phase }, { on := 1, ground := .phase }, { on := 2, ground := .phase }, { on := 3, ground := .phase }, { on := 4, ground := .phase }, { on := 5, ground := .phase }, { on := 6, ground := .phase }, { on := 7, ground := .phase }, { on := 8, ground := .phase }, { on := 9, ground := .phase }, { on := 10, ground := .phase }], guard := none }, { dst := none, op := Op.store 63 (Operand.tmp 83) (Operand.tmp 81), type := 0, pos := "ref.go:265", after := #[{ on := 12, ground := .data }, { on := 10, ground := .data }, { on := 10, ground := .chain }, { on := 0, ground := .phase }, { on := 1, ground := .phase }, { on := 2, ground := .phase }, { on := 3, ground := .phase }, { on := 4, ground := .phase }, { on := 5, ground := .phase }, { on := 6, ground := .phase }, { on := 7, ground := .phase }, { on := 8, ground := .phase }, { on := 9, ground := .phase }, { on := 10, ground := .phase }], guard := none }] true).wp Try.prog Q ⟨#[x0, .slice TA n tc, x2, x3, x4, x5, x6, x7, x8, x9, x10, x11, .pointer (some ⟨wb, 0, none⟩), x13, x14, x15, x16, x17, x18, x19, x20, x21, x22, x23, x24, x25, x26, x27, x28, x29, x30, x31, x32, x33, x34, x35, x36, x37, x38, x39, x40, x41, x42, x43, x44, x45, x46, x47, x48, x49, x50, x51, x52, x53, x54, x55, x56, x57, x58, x59, x60, x61, x62, x63, x64, x65, x66, x67, x68, x69, x70, x71, x72, x73, x74, x75, x76, x77, x78, x79, x80, x81, x82, x83, x84, x85, x86, x87, x88, x89, x90, x91, x92, x93, x94, x95, x96, x97, x98, x99, x100, x101, x102, x103, x104, x105, x106], []⟩ wr := by
  obtain ⟨i0, hi0, hz0, hz1, hz2⟩ := info_parts pinfo_bools
  have HY := hideP hnext
  have hS : (fun (w' : World) => w'.cell? ⟨wb, 0 + 4, none⟩ = some (.slice BA k bc)) wr := hC.cellv rfl
  have n64 : (n : Int) ≤ 64 := by omega
  have hUd := (Upd.refl Nob wr).drew
  have HCA := hideP (hUd.alloc (.cells (rowC noMark (n + 1)) 4))
  have HCB := hideP (HCA.out.alloc (.cells #[.slice (some ⟨wr.drew.heap.size, 0, none⟩) (n + 1) (n + 1)] 40))
  have HGB := hideP ((Cells.new wr.drew 4 (rowC noMark (n + 1))).alloc (.cells #[.slice (some ⟨wr.drew.heap.size, 0, none⟩) (n + 1) (n + 1)] 40))
  have hwb := heap_alloc_new (wr.drew.alloc (.cells (rowC noMark (n + 1)) 4)) (.cells #[.slice (some ⟨wr.drew.heap.size, 0, none⟩) (n + 1) (n + 1)] 40)
  rw [World.size_alloc] at hwb
  have HWB := hideP hwb
  have HC := hideP hC
  have HO := hideP hO
  have vw : IntKind.i64.wrap ((n : Int) + 1) = (n : Int) + 1 := by rw [IntKind.wrap_i64]; omega
  clear hnext hC hO hUd hwb
  refine Code.wp_mono (QuietQ.imp (G := fun _ _ _ => False) (fun _ _ _ h => h.elim)) ?_
  refine AnyJ.begin 13 (fun (w' : World) => w'.cell? ⟨wb, 0 + 4, none⟩ = some (.slice BA k bc)) (by kernel_rfl) hS (fun hSS => ?_)
  refine AnyJ.take (i := 0) (oi := { dst := some 71, op := Op.move (Operand.tmp 12), type := 62, pos := "ref.go:265", after := #[], guard := none }) (v := ?v0nr1815) ?a0nr1815 ?b0nr1815 ?c0nr1815 ?d0nr1815 ?e0nr1815 (fun _ _ _ h => h) (Or.inl ⟨?f0nr1815, ?y0nr1815⟩) (by assumption) ?r0nr1815
  case a0nr1815 => rfl
  case b0nr1815 => kernel_rfl
  case c0nr1815 => kernel_rfl
  case d0nr1815 => kernel_rfl
  case e0nr1815 => kernel_rfl
  case f0nr1815 => rfl
  case y0nr1815 => (intro w' hSw; (try dsimp only at hSw); go_simp; try with_reducible rfl)
  try simp only [Act.put, List.setIfInBounds_toArray, List.set_cons_zero, List.set_cons_succ]
  refine AnyJ.take (i := 1) (oi := { dst := some 72, op := Op.move (Operand.tmp 12), type := 62, pos := "ref.go:265", after := #[], guard := none }) (v := ?v1nr1816) ?a1nr1816 ?b1nr1816 ?c1nr1816 ?d1nr1816 ?e1nr1816 (fun _ _ _ h => h) (Or.inl ⟨?f1nr1816, ?y1nr1816⟩) (by assumption) ?r1nr1816
  case a1nr1816 => rfl
  case b1nr1816 => kernel_rfl
  case c1nr1816 => kernel_rfl
  case d1nr1816 => kernel_rfl
  case e1nr1816 => kernel_rfl
  case f1nr1816 => rfl
  case y1nr1816 => (intro w' hSw; (try dsimp only at hSw); go_simp; try with_reducible rfl)
  try simp only [Act.put, List.setIfInBounds_toArray, List.set_cons_zero, List.set_cons_succ]
  refine AnyJ.take (i := 2) (oi := { dst := some 73, op := Op.nilCheck (Operand.tmp 72), type := 0, pos := "ref.go:265", after := #[{ on := 1, ground := .data }], guard := none }) (v := ?v2nr1817) ?a2nr1817 ?b2nr1817 ?c2nr1817 ?d2nr1817 ?e2nr1817 (fun _ _ _ h => h) (Or.inl ⟨?f2nr1817, ?y2nr1817⟩) (by assumption) ?r2nr1817
  case a2nr1817 => rfl
  case b2nr1817 => kernel_rfl
  case c2nr1817 => kernel_rfl
  case d2nr1817 => kernel_rfl
  case e2nr1817 => kernel_rfl
  case f2nr1817 => rfl
  case y2nr1817 => (intro w' hSw; (try dsimp only at hSw); go_simp; try with_reducible rfl)
  try simp only [Act.put, List.setIfInBounds_toArray, List.set_cons_zero, List.set_cons_succ]
  refine AnyJ.take (i := 3) (oi := { dst := some 74, op := Op.fieldAddr 65 (Operand.tmp 73) 4, type := 0, pos := "ref.go:265", after := #[{ on := 2, ground := .data }], guard := none }) (v := ?v3nr1818) ?a3nr1818 ?b3nr1818 ?c3nr1818 ?d3nr1818 ?e3nr1818 (fun _ _ _ h => h) (Or.inl ⟨?f3nr1818, ?y3nr1818⟩) (by assumption) ?r3nr1818
  case a3nr1818 => rfl
  case b3nr1818 => kernel_rfl
  case c3nr1818 => kernel_rfl
  case d3nr1818 => kernel_rfl
  case e3nr1818 => kernel_rfl
  case f3nr1818 => rfl
  case y3nr1818 => (intro w' hSw; (try dsimp only at hSw); go_simp; try with_reducible rfl)
  try simp only [Act.put, List.setIfInBounds_toArray, List.set_cons_zero, List.set_cons_succ]
  refine AnyJ.take (i := 4) (oi := { dst := some 75, op := Op.load 63 (Operand.tmp 74), type := 63, pos := "ref.go:265", after := #[{ on := 3, ground := .data }], guard := none }) (v := ?v4nr1819) ?a4nr1819 ?b4nr1819 ?c4nr1819 ?d4nr1819 ?e4nr1819 (fun _ _ _ h => h) (Or.inl ⟨?f4nr1819, ?y4nr1819⟩) (by assumption) ?r4nr1819
  case a4nr1819 => rfl
  case b4nr1819 => kernel_rfl
  case c4nr1819 => kernel_rfl
  case d4nr1819 => kernel_rfl
  case e4nr1819 => kernel_rfl
  case f4nr1819 => rfl
  case y4nr1819 => (intro w' hSw; (try dsimp only at hSw); go_simp; try with_reducible rfl)
  try simp only [Act.put, List.setIfInBounds_toArray, List.set_cons_zero, List.set_cons_succ]
  refine AnyJ.take (i := 5) (oi := { dst := some 76, op := Op.move (Operand.tmp 1), type := 22, pos := "ref.go:265", after := #[], guard := none }) (v := ?v5nr1820) ?a5nr1820 ?b5nr1820 ?c5nr1820 ?d5nr1820 ?e5nr1820 (fun _ _ _ h => h) (Or.inl ⟨?f5nr1820, ?y5nr1820⟩) (by assumption) ?r5nr1820
  case a5nr1820 => rfl
  case b5nr1820 => kernel_rfl
  case c5nr1820 => kernel_rfl
  case d5nr1820 => kernel_rfl
  case e5nr1820 => kernel_rfl
  case f5nr1820 => rfl
  case y5nr1820 => (intro w' hSw; (try dsimp only at hSw); go_simp; try with_reducible rfl)
  try simp only [Act.put, List.setIfInBounds_toArray, List.set_cons_zero, List.set_cons_succ]
  refine AnyJ.take (i := 6) (oi := { dst := some 77, op := Op.call { callee := Callee.builtin Builtin.len, args := #[Operand.tmp 76], argTypes := #[22] }, type := 3, pos := "ref.go:265", after := #[{ on := 5, ground := .data }], guard := none }) (v := ?v6nr1821) ?a6nr1821 ?b6nr1821 ?c6nr1821 ?d6nr1821 ?e6nr1821 (fun _ _ _ h => h) (Or.inl ⟨?f6nr1821, ?y6nr1821⟩) (by assumption) ?r6nr1821
  case a6nr1821 => rfl
  case b6nr1821 => kernel_rfl
  case c6nr1821 => kernel_rfl
  case d6nr1821 => kernel_rfl
  case e6nr1821 => kernel_rfl
  case f6nr1821 => rfl
  case y6nr1821 => (intro w' hSw; (try dsimp only at hSw); go_simp; try with_reducible rfl)
  try simp only [Act.put, List.setIfInBounds_toArray, List.set_cons_zero, List.set_cons_succ]
  refine AnyJ.take (i := 7) (oi := { dst := some 78, op := Op.binOp BinOp.add 3 (Operand.tmp 77) (Operand.const (Value.int IntKind.i64 1)) 3, type := 3, pos := "ref.go:265", after := #[{ on := 6, ground := .data }], guard := none }) (v := ?v7nr1822) ?a7nr1822 ?b7nr1822 ?c7nr1822 ?d7nr1822 ?e7nr1822 (fun _ _ _ h => h) (Or.inl ⟨?f7nr1822, ?y7nr1822⟩) (by assumption) ?r7nr1822
  case a7nr1822 => rfl
  case b7nr1822 => kernel_rfl
  case c7nr1822 => kernel_rfl
  case d7nr1822 => kernel_rfl
  case e7nr1822 => kernel_rfl
  case f7nr1822 => rfl
  case y7nr1822 => (intro w' hSw; (try dsimp only at hSw); go_simp; try with_reducible rfl)
  try simp only [Act.put, List.setIfInBounds_toArray, List.set_cons_zero, List.set_cons_succ]
  clear hSS hS
  refine AnyJ.one (i := 8) (o := { dst := some 79, op := Op.makeSlice 40 (Operand.tmp 78) (Operand.tmp 78), type := 40, pos := "ref.go:265", after := #[{ on := 7, ground := .data }, { on := 7, ground := .data }], guard := none }) ?pr1823 ?qr1823 ?_
  case pr1823 => kernel_rfl
  case qr1823 => rfl
  intro K' hK
  refine step_make_marks wr.drew rfl (.tmp 78) rfl _ (n + 1) (by rfl) (by omega) (by omega) ?_
  refine hK.out _ _ (.inr ((HC.out.upd HCA.out not_nob).cellv rfl)) ?_; clear hK K'
  try simp only [Act.put, List.setIfInBounds_toArray, List.set_cons_zero, List.set_cons_succ]
  refine AnyJ.one (i := 9) (o := { dst := some 80, op := Op.buildSlice 63 1 #[(0, Operand.tmp 79)], type := 63, pos := "ref.go:265", after := #[{ on := 8, ground := .data }], guard := none }) ?pr1824 ?qr1824 ?_
  case pr1824 => kernel_rfl
  case qr1824 => rfl
  intro K' hK
  go_simp
  refine hK.out _ _ (.inr ((HC.out.upd HCB.out not_nob).cellv rfl)) ?_; clear hK K'
  try simp only [Act.put, List.setIfInBounds_toArray, List.set_cons_zero, List.set_cons_succ]
  refine AnyJ.one (i := 10) (o := { dst := some 81, op := Op.call { callee := Callee.builtin Builtin.append, args := #[Operand.tmp 75, Operand.tmp 80], argTypes := #[63, 63] }, type := 63, pos := "ref.go:265", after := #[{ on := 4, ground := .data }, { on := 9, ground := .data }], guard := none }) ?pr1825 ?qr1825 ?_
  case pr1825 => kernel_rfl
  case qr1825 => rfl
  intro K' hK
  have P9 := own_upd HO.out HCB.out (fun _ _ => not_nob)
  refine step_append_lies _ rfl (.tmp 75) (.tmp 80) 63 rfl base 40 i0 _ 1 24 Try.underlying63 hi0 hz0 hz1 hz2 rfl (by decide) (.slice BA k bc) k vs (by rfl) P9 ⟨wr.drew.heap.size + 1, 0, none⟩ 1 1 [.slice (some ⟨wr.drew.heap.size, 0, none⟩) (n + 1) (n + 1)] (by rfl) (by rfl) (World.news_of_block (cs := #[.slice (some ⟨wr.drew.heap.size, 0, none⟩) (n + 1) (n + 1)]) (t := 40) (fr := (0, 0)) HWB.out) (by intro u hu; simp at hu; subst hu; rfl) (by decide) (by unfold maxLen; omega) (by omega) (Nat.le_trans hb HCB.out.size) (wr.heap.size + 2) (by show ((wr.alloc (.cells (rowC noMark (n + 1)) 4)).alloc (.cells #[.slice (some ⟨wr.heap.size, 0, none⟩) (n + 1) (n + 1)] 40)).heap.size = wr.heap.size + 2; rw [World.size_alloc, World.size_alloc]) ?_
  intro gN cN w4 oN gr hat hltN
  have UB := (HCB.out.mono (fun _ _ h => absurd h not_nob)).grown (F := fun b => (Value.slice BA k bc).ownBlock = some b) gr (fun b hb _ => hb)
  have C4 := HC.out.upd UB (fun e => own_ne HO.out HC.out (by decide) e)
  have G4 : Cells w4 wr.heap.size 4 (rowC noMark (n + 1)) := HGB.out.grown gr (fun e => own_ne P9 HGB.out (by decide) e)
  refine hK.out _ _ (.inr (C4.cellv rfl)) ?_; clear hK K'
  try simp only [Act.put, List.setIfInBounds_toArray, List.set_cons_zero, List.set_cons_succ]
  refine AnyJ.one (i := 11) (o := { dst := some 82, op := Op.nilCheck (Operand.tmp 71), type := 0, pos := "ref.go:265", after := #[{ on := 0, ground := .data }, { on := 0, ground := .phase }, { on := 1, ground := .phase }, { on := 2, ground := .phase }, { on := 3, ground := .phase }, { on := 4, ground := .phase }, { on := 5, ground := .phase }, { on := 6, ground := .phase }, { on := 7, ground := .phase }, { on := 8, ground := .phase }, { on := 9, ground := .phase }, { on := 10, ground := .phase }], guard := none }) ?pr1826 ?qr1826 ?_
  case pr1826 => kernel_rfl
  case qr1826 => rfl
  intro K' hK
  go_simp
  refine hK.out _ _ (.inr (C4.cellv rfl)) ?_; clear hK K'
  try simp only [Act.put, List.setIfInBounds_toArray, List.set_cons_zero, List.set_cons_succ]
  refine AnyJ.one (i := 12) (o := { dst := some 83, op := Op.fieldAddr 65 (Operand.tmp 82) 4, type := 0, pos := "ref.go:265", after := #[{ on := 11, ground := .data }, { on := 0, ground := .phase }, { on := 1, ground := .phase }, { on := 2, ground := .phase }, { on := 3, ground := .phase }, { on := 4, ground := .phase }, { on := 5, ground := .phase }, { on := 6, ground := .phase }, { on := 7, ground := .phase }, { on := 8, ground := .phase }, { on := 9, ground := .phase }, { on := 10, ground := .phase }], guard := none }) ?pr1827 ?qr1827 ?_
  case pr1827 => kernel_rfl
  case qr1827 => rfl
  intro K' hK
  go_simp
  refine hK.out _ _ (.inr (C4.cellv rfl)) ?_; clear hK K'
  try simp only [Act.put, List.setIfInBounds_toArray, List.set_cons_zero, List.set_cons_succ]
  have s0 : w4.cell? ⟨wb, 0 + 4, none⟩ = some (.slice BA k bc) := C4.cellv rfl
  have z0 : w4.frozen? ⟨wb, 0 + 4, none⟩ = false := C4.frozen _
  refine AnyJ.one (i := 13) (o := { dst := none, op := Op.store 63 (Operand.tmp 83) (Operand.tmp 81), type := 0, pos := "ref.go:265", after := #[{ on := 12, ground := .data }, { on := 10, ground := .data }, { on := 10, ground := .chain }, { on := 0, ground := .phase }, { on := 1, ground := .phase }, { on := 2, ground := .phase }, { on := 3, ground := .phase }, { on := 4, ground := .phase }, { on := 5, ground := .phase }, { on := 6, ground := .phase }, { on := 7, ground := .phase }, { on := 8, ground := .phase }, { on := 9, ground := .phase }, { on := 10, ground := .phase }], guard := none }) ?pr1828 ?qr1828 ?_
  case pr1828 => kernel_rfl
  case qr1828 => rfl
  intro K' hK
  go_simp
  refine hK.out _ _ (.inl rfl) ?_; clear hK K'
  refine AnyJ.done ?_ ?_ _
  · kernel_rfl
  exact HY.out _ _ _ _ _ _ _ _ _ _ _ _ _ w4 _ gN cN UB rfl G4 hat oN C4
end Go.Proofs.Ytlaofcgllchedaa

/-
  The loops of heronref06.Parses: the rows of marks are made, the captures begun. Printed by tools/mkParL.py.
-/
namespace Go.Proofs.Ytlaofcgllchedaa
open Go.RowKit
set_option linter.unusedVariables false

def fstAt : Code → Nat → Code
  | .seq a _, 0 => a
  | .seq _ b, n + 1 => fstAt b n
  | c, _ => c
def seqAt : Code → Nat → Code
  | c, 0 => c
  | .seq _ b, n + 1 => seqAt b n
  | c, _ + 1 => c
def rowsV (f : Nat → Nat) (n k : Nat) : List Value := (List.range k).map fun i => .slice (some ⟨f i, 0, none⟩) (n + 1) (n + 1)
theorem rowsV_at (f : Nat → Nat) (n : Nat) {k i : Nat} (h : i < k) : (rowsV f n k)[i]? = some (.slice (some ⟨f i, 0, none⟩) (n + 1) (n + 1)) := by simp [rowsV, h]
def more (f : Nat → Nat) (k g : Nat) : Nat → Nat := fun i => if i = k then g else f i
theorem rowsV_more (f : Nat → Nat) (n k g : Nat) : rowsV (more f k g) n (k + 1) = rowsV f n k ++ [.slice (some ⟨g, 0, none⟩) (n + 1) (n + 1)] := by
  unfold rowsV
  rw [List.range_succ, List.map_append]
  congr 1
  · refine List.map_congr_left (fun i hi => ?_)
    have := List.mem_range.1 hi
    simp [more, show ¬ i = k by omega]
  · simp [more]
/-- the rows of marks, as far as they are made -/
structure Mks (w0 w : World) (wb n k kd : Nat) (p0 p1 p2 p5 p6 : Value) (BA DA : Option Addr) (bc dc : Nat) (bgb dcb : Nat → Nat) : Prop where
  wk : Cells w wb 65 #[p0, p1, p2, .slice BA k bc, .slice DA kd dc, p5, p6]
  bo : w.ownsRow w0.heap.size 40 1 (.slice BA k bc) k (rowsV bgb n k)
  dk : w.ownsRow w0.heap.size 40 1 (.slice DA kd dc) kd (rowsV dcb n kd)
  ne : ∀ b, (Value.slice DA kd dc).ownBlock = some b → ¬ (Value.slice BA k bc).ownBlock = some b
  bg : ∀ i, i < k → Cells w (bgb i) 4 (rowC noMark (n + 1)) ∧ w0.heap.size ≤ bgb i
  dg : ∀ i, i < kd → Cells w (dcb i) 4 (rowC noMark (n + 1)) ∧ w0.heap.size ≤ dcb i
  bb : ∀ i j, i < k → j < k → bgb i = bgb j → i = j
  dd : ∀ i j, i < kd → j < kd → dcb i = dcb j → i = j
  bd : ∀ i j, i < k → j < kd → bgb i ≠ dcb j
  lo : wb < w0.heap.size
  upd : Upd (fun b => b = wb) w0 w
theorem more_inj {f : Nat → Nat} {k g : Nat} (h : ∀ i j, i < k → j < k → f i = f j → i = j) (hg : ∀ i, i < k → f i ≠ g) : ∀ i j, i < k + 1 → j < k + 1 → more f k g i = more f k g j → i = j := by
  intro i j hi hj he
  unfold more at he
  by_cases e1 : i = k <;> by_cases e2 : j = k
  · omega
  · rw [if_pos e1, if_neg e2] at he
    exact absurd he.symm (hg j (by omega))
  · rw [if_neg e1, if_pos e2] at he
    exact absurd he (hg i (by omega))
  · rw [if_neg e1, if_neg e2] at he
    exact h i j (by omega) (by omega) he
theorem more_at {f : Nat → Nat} {k g i : Nat} (h : i < k) : more f k g i = f i := by simp [more, show ¬ i = k by omega]
theorem more_k {f : Nat → Nat} {k g : Nat} : more f k g k = g := by simp [more]
section
variable {w0 w w4 : World} {wb n k kd : Nat} {p0 p1 p2 p5 p6 : Value} {BA DA : Option Addr} {bc dc gB gN cN : Nat} {bgb dcb : Nat → Nat}
theorem Mks.b (h : Mks w0 w wb n k kd p0 p1 p2 p5 p6 BA DA bc dc bgb dcb) (hU : Upd (fun (b : Nat) => (Value.slice BA k bc).ownBlock = some b) w w4) (hgB : gB = w.heap.size) (hG : Cells w4 gB 4 (rowC noMark (n + 1)))
    (hat : (Value.slice BA k bc).ownBlock = some gN ∨ gN = w.heap.size + 2) (oN : w4.ownsRow w0.heap.size 40 1 (.slice (some ⟨gN, 0, none⟩) (k + 1) cN) (k + 1) (rowsV bgb n k ++ [.slice (some ⟨gB, 0, none⟩) (n + 1) (n + 1)])) (C4 : Cells w4 wb 65 #[p0, p1, p2, .slice BA k bc, .slice DA kd dc, p5, p6]) :
    Mks w0 (w4.setCell ⟨wb, 0 + 3, none⟩ (.slice (some ⟨gN, 0, none⟩) (k + 1) cN)) wb n (k + 1) kd p0 p1 p2 p5 p6 (some ⟨gN, 0, none⟩) DA cN dc (more bgb k gB) dcb := by
  have hUy := (Upd.refl (fun b => b = wb) w4).setCell ⟨wb, 0 + 3, none⟩ (.slice (some ⟨gN, 0, none⟩) (k + 1) cN) (fun _ => rfl)
  have hsz := h.upd.size
  have hAlo : ∀ b, (Value.slice BA k bc).ownBlock = some b → w0.heap.size ≤ b := fun b hb => wk_lo h.bo hb
  have hcell : ∀ q, Cells w q 4 (rowC noMark (n + 1)) → Cells (w4.setCell ⟨wb, 0 + 3, none⟩ (.slice (some ⟨gN, 0, none⟩) (k + 1) cN)) q 4 (rowC noMark (n + 1)) := fun q hq => (hq.upd hU (fun e => own_ne h.bo hq (by decide) e)).upd hUy (Cells.ne_ hq h.wk (by decide))
  have hbel : ∀ i, i < k → bgb i < w.heap.size := fun i hi => (h.bg i hi).1.lt
  have hbel2 : ∀ i, i < kd → dcb i < w.heap.size := fun i hi => (h.dg i hi).1.lt
  have oA := own_upd oN hUy (fun b hb e => by subst e; exact own_ne oN C4 (by decide) hb)
  have oB : (w4.setCell ⟨wb, 0 + 3, none⟩ (.slice (some ⟨gN, 0, none⟩) (k + 1) cN)).ownsRow w0.heap.size 40 1 (.slice DA kd dc) kd (rowsV dcb n kd) := by
    have h1 := own_upd h.dk hU (fun b hb e => h.ne b hb e)
    exact own_upd h1 hUy (fun b hb e => by subst e; exact own_ne h1 C4 (by decide) hb)
  have hcA : ∀ i, i < k + 1 → Cells (w4.setCell ⟨wb, 0 + 3, none⟩ (.slice (some ⟨gN, 0, none⟩) (k + 1) cN)) (more bgb k gB i) 4 (rowC noMark (n + 1)) ∧ w0.heap.size ≤ more bgb k gB i := fun i hi => by
    by_cases e : i = k
    · subst e
      rw [more_k]
      exact ⟨hG.upd hUy (Cells.ne_ hG C4 (by decide)), by omega⟩
    · rw [more_at (by omega)]
      exact ⟨hcell _ (h.bg i (by omega)).1, (h.bg i (by omega)).2⟩
  have hcB : ∀ i, i < kd → Cells (w4.setCell ⟨wb, 0 + 3, none⟩ (.slice (some ⟨gN, 0, none⟩) (k + 1) cN)) (dcb i) 4 (rowC noMark (n + 1)) ∧ w0.heap.size ≤ dcb i := fun i hi => ⟨hcell _ (h.dg i hi).1, (h.dg i hi).2⟩
  have hne : ∀ b, (Value.slice DA kd dc).ownBlock = some b → ¬ gN = b := fun b hb e => by
    subst e
    rcases hat with hx | hx
    · exact h.ne _ hb hx
    · obtain ⟨cur, hc, -⟩ := own_cells h.dk hb
      have := hc.lt
      omega
  have hup : Upd (fun b => b = wb) w0 (w4.setCell ⟨wb, 0 + 3, none⟩ (.slice (some ⟨gN, 0, none⟩) (k + 1) cN)) := (h.upd.trans hU (fun b hb e => by have := hAlo b e; omega)).trans hUy (fun _ _ e => e)
  have hW := C4.set_ 3 (.slice (some ⟨gN, 0, none⟩) (k + 1) cN)
  rw [← rowsV_more] at oA
  exact ⟨hW, oA, oB, fun b hb e => hne b hb (by simpa [Value.ownBlock] using e), hcA, hcB, more_inj h.bb (fun i hi => by have := hbel i hi; omega), h.dd, fun i j hi hj => by
    by_cases e : i = k
    · subst e; rw [more_k]; have := hbel2 j hj; omega
    · rw [more_at (by omega)]; exact h.bd i j (by omega) hj, h.lo, hup⟩
theorem Mks.d (h : Mks w0 w wb n k kd p0 p1 p2 p5 p6 BA DA bc dc bgb dcb) (hU : Upd (fun (b : Nat) => (Value.slice DA kd dc).ownBlock = some b) w w4) (hgB : gB = w.heap.size) (hG : Cells w4 gB 4 (rowC noMark (n + 1)))
    (hat : (Value.slice DA kd dc).ownBlock = some gN ∨ gN = w.heap.size + 2) (oN : w4.ownsRow w0.heap.size 40 1 (.slice (some ⟨gN, 0, none⟩) (kd + 1) cN) (kd + 1) (rowsV dcb n kd ++ [.slice (some ⟨gB, 0, none⟩) (n + 1) (n + 1)])) (C4 : Cells w4 wb 65 #[p0, p1, p2, .slice BA k bc, .slice DA kd dc, p5, p6]) :
    Mks w0 (w4.setCell ⟨wb, 0 + 4, none⟩ (.slice (some ⟨gN, 0, none⟩) (kd + 1) cN)) wb n k (kd + 1) p0 p1 p2 p5 p6 BA (some ⟨gN, 0, none⟩) bc cN bgb (more dcb kd gB) := by
  have hUy := (Upd.refl (fun b => b = wb) w4).setCell ⟨wb, 0 + 4, none⟩ (.slice (some ⟨gN, 0, none⟩) (kd + 1) cN) (fun _ => rfl)
  have hsz := h.upd.size
  have hAlo : ∀ b, (Value.slice DA kd dc).ownBlock = some b → w0.heap.size ≤ b := fun b hb => wk_lo h.dk hb
  have hcell : ∀ q, Cells w q 4 (rowC noMark (n + 1)) → Cells (w4.setCell ⟨wb, 0 + 4, none⟩ (.slice (some ⟨gN, 0, none⟩) (kd + 1) cN)) q 4 (rowC noMark (n + 1)) := fun q hq => (hq.upd hU (fun e => own_ne h.dk hq (by decide) e)).upd hUy (Cells.ne_ hq h.wk (by decide))
  have hbel : ∀ i, i < kd → dcb i < w.heap.size := fun i hi => (h.dg i hi).1.lt
  have hbel2 : ∀ i, i < k → bgb i < w.heap.size := fun i hi => (h.bg i hi).1.lt
  have oA := own_upd oN hUy (fun b hb e => by subst e; exact own_ne oN C4 (by decide) hb)
  have oB : (w4.setCell ⟨wb, 0 + 4, none⟩ (.slice (some ⟨gN, 0, none⟩) (kd + 1) cN)).ownsRow w0.heap.size 40 1 (.slice BA k bc) k (rowsV bgb n k) := by
    have h1 := own_upd h.bo hU (fun b hb e => h.ne b e hb)
    exact own_upd h1 hUy (fun b hb e => by subst e; exact own_ne h1 C4 (by decide) hb)
  have hcA : ∀ i, i < kd + 1 → Cells (w4.setCell ⟨wb, 0 + 4, none⟩ (.slice (some ⟨gN, 0, none⟩) (kd + 1) cN)) (more dcb kd gB i) 4 (rowC noMark (n + 1)) ∧ w0.heap.size ≤ more dcb kd gB i := fun i hi => by
    by_cases e : i = kd
    · subst e
      rw [more_k]
      exact ⟨hG.upd hUy (Cells.ne_ hG C4 (by decide)), by omega⟩
    · rw [more_at (by omega)]
      exact ⟨hcell _ (h.dg i (by omega)).1, (h.dg i (by omega)).2⟩
  have hcB : ∀ i, i < k → Cells (w4.setCell ⟨wb, 0 + 4, none⟩ (.slice (some ⟨gN, 0, none⟩) (kd + 1) cN)) (bgb i) 4 (rowC noMark (n + 1)) ∧ w0.heap.size ≤ bgb i := fun i hi => ⟨hcell _ (h.bg i hi).1, (h.bg i hi).2⟩
  have hne : ∀ b, (Value.slice BA k bc).ownBlock = some b → ¬ gN = b := fun b hb e => by
    subst e
    rcases hat with hx | hx
    · exact h.ne _ hx hb
    · obtain ⟨cur, hc, -⟩ := own_cells h.bo hb
      have := hc.lt
      omega
  have hup : Upd (fun b => b = wb) w0 (w4.setCell ⟨wb, 0 + 4, none⟩ (.slice (some ⟨gN, 0, none⟩) (kd + 1) cN)) := (h.upd.trans hU (fun b hb e => by have := hAlo b e; omega)).trans hUy (fun _ _ e => e)
  have hW := C4.set_ 4 (.slice (some ⟨gN, 0, none⟩) (kd + 1) cN)
  rw [← rowsV_more] at oA
  exact ⟨hW, oB, oA, fun b hb e => hne b e (by simpa [Value.ownBlock] using hb), hcB, hcA, h.bb, more_inj h.dd (fun i hi => by have := hbel i hi; omega), fun i j hi hj => by
    by_cases e : j = kd
    · subst e; rw [more_k]; have := hbel2 i hi; omega
    · rw [more_at (by omega)]; exact h.bd i j hi (by omega), h.lo, hup⟩
end
set_option maxRecDepth 100000 in
set_option maxHeartbeats 4000000 in
theorem par_loop1 (Q : Exit → Act → World → Prop) (K rest : Code) (w0 : World) (wb tb n tc L lc : Nat) (TA TL : Option Addr) (p0 p1 p2 p5 p6 : Value) (x0 x2 x3 x4 x5 x6 x7 x8 x9 x11 x13 x14 x15 x16 x17 x18 x19 x20 x21 x22 x23 x24 x25 x26 x27 x28 x29 x30 x31 x32 x33 x34 x35 x36 x37 x38 x39 x40 x41 x42 x43 x44 x45 x46 x47 x48 x49 x50 x51 x52 x53 x54 x55 x56 x57 x58 x59 x60 x61 x62 x63 x64 x65 x66 x67 x68 x69 x70 x71 x72 x73 x74 x75 x76 x77 x78 x79 x80 x81 x82 x83 x84 x85 x86 x87 x88 x89 x90 x91 x92 x93 x94 x95 x96 x97 x98 x99 x100 x101 x102 x103 x104 x105 x106 : Value) (hK : Try.f21.body = some K)
    (hT : Cells w0 tb 61 #[.slice TL L lc]) (hW : Cells w0 wb 65 #[p0, p1, p2, .slice none 0 0, .slice none 0 0, p5, p6]) (hL : L ≤ 90000) (hn : n ≤ 64)
    (hnext : ∀ (y0 y2 y3 y4 y5 y6 y7 y8 y9 y11 y13 y14 y15 y16 y17 y18 y19 y20 y21 y22 y23 y24 y25 y26 y27 y28 y29 y30 y31 y32 y33 y34 y35 y36 y37 y38 y39 y40 y41 y42 y43 y44 y45 y46 y47 y48 y49 y50 y51 y52 y53 y54 y55 y56 y57 y58 y59 y60 y61 y62 y63 y64 y65 y66 y67 y68 y69 y70 y71 y72 y73 y74 y75 y76 y77 y78 y79 y80 y81 y82 y83 y84 y85 y86 y87 y88 y89 y90 y91 y92 y93 y94 y95 y96 y97 y98 y99 y100 y101 y102 y103 y104 y105 y106 : Value) (w : World) (BA DA : Option Addr) (bc dc : Nat) (bgb dcb : Nat → Nat), Mks w0 w wb n L L p0 p1 p2 p5 p6 BA DA bc dc bgb dcb → x0 = y0 → x2 = y2 → x3 = y3 → x11 = y11 → rest.wp Try.prog Q ⟨#[y0, .slice TA n tc, y2, y3, y4, y5, y6, y7, y8, y9, .pointer (some ⟨tb, 0, none⟩), y11, .pointer (some ⟨wb, 0, none⟩), y13, y14, y15, y16, y17, y18, y19, y20, y21, y22, y23, y24, y25, y26, y27, y28, y29, y30, y31, y32, y33, y34, y35, y36, y37, y38, y39, y40, y41, y42, y43, y44, y45, y46, y47, y48, y49, y50, y51, y52, y53, y54, y55, y56, y57, y58, y59, y60, y61, y62, y63, y64, y65, y66, y67, y68, y69, y70, y71, y72, y73, y74, y75, y76, y77, y78, y79, y80, y81, y82, y83, y84, y85, y86, y87, y88, y89, y90, y91, y92, y93, y94, y95, y96, y97, y98, y99, y100, y101, y102, y103, y104, y105, y106], []⟩ w) :
    (Code.seq (fstAt K 10) rest).wp Try.prog Q ⟨#[x0, .slice TA n tc, x2, x3, x4, x5, x6, x7, x8, x9, .pointer (some ⟨tb, 0, none⟩), x11, .pointer (some ⟨wb, 0, none⟩), x13, x14, x15, x16, x17, x18, x19, x20, x21, x22, x23, x24, x25, x26, x27, x28, x29, x30, x31, x32, x33, x34, x35, x36, x37, x38, x39, x40, x41, x42, x43, x44, x45, x46, x47, x48, x49, x50, x51, x52, x53, x54, x55, x56, x57, x58, x59, x60, x61, x62, x63, x64, x65, x66, x67, x68, x69, x70, x71, x72, x73, x74, x75, x76, x77, x78, x79, x80, x81, x82, x83, x84, x85, x86, x87, x88, x89, x90, x91, x92, x93, x94, x95, x96, x97, x98, x99, x100, x101, x102, x103, x104, x105, x106], []⟩ w0 := by
  injection hK with hK
  subst hK
  have HT := hideP hT
  have HN := hideP hnext
  have HTW := hideP (Cells.ne_ hT hW (by decide))
  have HM := hideP (show Mks w0 w0 wb n 0 0 p0 p1 p2 p5 p6 none none 0 0 (fun _ => 0) (fun _ => 0) from ⟨hW, World.ownsRow_nil _ _ _ _, World.ownsRow_nil _ _ _ _, fun b hb => (by cases hb), fun i hi => (by omega), fun i hi => (by omega), fun i j hi => (by omega), fun i j hi => (by omega), fun i j hi => (by omega), hW.lt, Upd.refl _ _⟩)
  clear hT hW hnext
  simp only [fstAt]
  go_wp2_with fail
  go_loopg [13] L (fun gk v13 wr => ∃ (k : Nat) (BA DA : Option Addr) (bc dc : Nat) (bgb dcb : Nat → Nat), k + gk = L ∧ v13 = .int .i64 (k : Int) ∧ Mks w0 wr wb n k k p0 p1 p2 p5 p6 BA DA bc dc bgb dcb)
  case atStart => exact ⟨0, none, none, 0, 0, _, _, by omega, rfl, HM.out⟩
  case round =>
    obtain ⟨k, BA, DA, bc, dc, bgb, dcb, hk, rfl, hM⟩ := hrel
    have HM := hideP hM
    have HK := hideP hk
    have c0 : wr.cell? ⟨tb, 0, none⟩ = some (.slice TL L lc) := (HT.out.upd hM.upd HTW.out).cellv rfl
    clear hM hk
    by_cases hlt : ¬ k < L
    · obtain rfl : k = L := by have := HK.out; omega
      go_wp2_with fail
      exact HN.out _ _ _ _ _ _ _ _ _ _ _ _ _ _ _ _ _ _ _ _ _ _ _ _ _ _ _ _ _ _ _ _ _ _ _ _ _ _ _ _ _ _ _ _ _ _ _ _ _ _ _ _ _ _ _ _ _ _ _ _ _ _ _ _ _ _ _ _ _ _ _ _ _ _ _ _ _ _ _ _ _ _ _ _ _ _ _ _ _ _ _ _ _ _ _ _ _ _ _ _ _ _ _ _ wr BA DA bc dc bgb dcb HM.out rfl rfl rfl rfl
    have g1 : (k : Int) < (L : Int) := by omega
    go_upto_region 17 with fail
    clear c0
    refine par_reg17 _ wr wb n tc k bc w0.heap.size TA BA (rowsV bgb n k) p0 p1 p2 (.slice DA k dc) p5 p6 _ _ _ _ _ _ _ _ _ _ _ _ _ _ _ _ _ _ _ _ _ _ _ _ _ _ _ _ _ _ _ _ _ _ _ _ _ _ _ _ _ _ _ _ _ _ _ _ _ _ _ _ _ _ _ _ _ _ _ _ _ _ _ _ _ _ _ _ _ _ _ _ _ _ _ _ _ _ _ _ _ _ _ _ _ _ _ _ _ _ _ _ _ _ _ _ _ _ _ _ _ _ _ _ _ HM.out.wk HM.out.bo HM.out.upd.size (by omega) hn ?_
    intro _ _ _ _ _ _ _ _ _ _ _ _ _ w4 gB gN cN hU hgB hG hat oN C4
    have HM2 := hideP (HM.out.b hU hgB hG hat oN C4)
    generalize w4.setCell ⟨wb, 0 + 3, none⟩ (.slice (some ⟨gN, 0, none⟩) (k + 1) cN) = w5 at *
    clear hU hgB hG hat oN C4 HM
    go_upto_region 18 with fail
    refine par_reg18 _ w5 wb n tc k dc w0.heap.size TA DA (rowsV dcb n k) p0 p1 p2 (.slice (some ⟨gN, 0, none⟩) (k + 1) cN) p5 p6 _ _ _ _ _ _ _ _ _ _ _ _ _ _ _ _ _ _ _ _ _ _ _ _ _ _ _ _ _ _ _ _ _ _ _ _ _ _ _ _ _ _ _ _ _ _ _ _ _ _ _ _ _ _ _ _ _ _ _ _ _ _ _ _ _ _ _ _ _ _ _ _ _ _ _ _ _ _ _ _ _ _ _ _ _ _ _ _ _ _ _ _ _ _ _ _ _ _ _ _ _ _ _ _ _ HM2.out.wk HM2.out.dk HM2.out.upd.size (by omega) hn ?_
    intro _ _ _ _ _ _ _ _ _ _ _ _ _ w6 gB2 gN2 cN2 hU hgB hG hat oN C4
    have HM3 := hideP (HM2.out.d hU hgB hG hat oN C4)
    generalize w6.setCell ⟨wb, 0 + 4, none⟩ (.slice (some ⟨gN2, 0, none⟩) (k + 1) cN2) = w7 at *
    clear hU hgB hG hat oN C4 HM2
    go_wp2_with fail
    go_roundg (L - (k + 1))
    case measure => have := HK.out; omega
    case rel => exact ⟨k + 1, _, _, _, _, _, _, by have := HK.out; omega, by go_num, HM3.out⟩
set_option maxRecDepth 100000 in
set_option maxHeartbeats 4000000 in
theorem par_loop2 (Q : Exit → Act → World → Prop) (K rest : Code) (w0 : World) (cb m lo : Nat) (x0 x1 x2 x3 x4 x5 x6 x7 x8 x9 x10 x11 x12 x13 x15 x16 x17 x18 x19 x20 x21 x22 x23 x24 x25 x26 x27 x28 x29 x30 x31 x32 x33 x34 x35 x36 x37 x38 x39 x40 x41 x42 x43 x44 x45 x46 x47 x48 x49 x50 x51 x52 x53 x54 x55 x56 x57 x58 x59 x60 x61 x62 x63 x64 x65 x66 x67 x68 x69 x70 x71 x72 x73 x74 x75 x76 x77 x78 x79 x80 x81 x82 x83 x84 x85 x86 x87 x88 x89 x90 x91 x92 x93 x94 x95 x96 x97 x98 x99 x100 x101 x102 x103 x104 x105 x106 : Value) (hK : Try.f21.body = some K)
    (hO : w0.ownsRow lo 3 1 (.slice (some ⟨cb, 0, none⟩) m m) m (intv (List.replicate m 0))) (hm : m ≤ 100000)
    (hnext : ∀ (y0 y1 y2 y3 y4 y5 y6 y7 y8 y9 y10 y11 y12 y13 y15 y16 y17 y18 y19 y20 y21 y22 y23 y24 y25 y26 y27 y28 y29 y30 y31 y32 y33 y34 y35 y36 y37 y38 y39 y40 y41 y42 y43 y44 y45 y46 y47 y48 y49 y50 y51 y52 y53 y54 y55 y56 y57 y58 y59 y60 y61 y62 y63 y64 y65 y66 y67 y68 y69 y70 y71 y72 y73 y74 y75 y76 y77 y78 y79 y80 y81 y82 y83 y84 y85 y86 y87 y88 y89 y90 y91 y92 y93 y94 y95 y96 y97 y98 y99 y100 y101 y102 y103 y104 y105 y106 : Value) (w : World), w.ownsRow lo 3 1 (.slice (some ⟨cb, 0, none⟩) m m) m (intv (List.replicate m (-1))) → Upd (fun b => b = cb) w0 w → x1 = y1 → x2 = y2 → x10 = y10 → x11 = y11 → x12 = y12 → rest.wp Try.prog Q ⟨#[y0, y1, y2, y3, y4, y5, y6, y7, y8, y9, y10, y11, y12, y13, .slice (some ⟨cb, 0, none⟩) m m, y15, y16, y17, y18, y19, y20, y21, y22, y23, y24, y25, y26, y27, y28, y29, y30, y31, y32, y33, y34, y35, y36, y37, y38, y39, y40, y41, y42, y43, y44, y45, y46, y47, y48, y49, y50, y51, y52, y53, y54, y55, y56, y57, y58, y59, y60, y61, y62, y63, y64, y65, y66, y67, y68, y69, y70, y71, y72, y73, y74, y75, y76, y77, y78, y79, y80, y81, y82, y83, y84, y85, y86, y87, y88, y89, y90, y91, y92, y93, y94, y95, y96, y97, y98, y99, y100, y101, y102, y103, y104, y105, y106], []⟩ w) :
    (Code.seq (fstAt K 12) rest).wp Try.prog Q ⟨#[x0, x1, x2, x3, x4, x5, x6, x7, x8, x9, x10, x11, x12, x13, .slice (some ⟨cb, 0, none⟩) m m, x15, x16, x17, x18, x19, x20, x21, x22, x23, x24, x25, x26, x27, x28, x29, x30, x31, x32, x33, x34, x35, x36, x37, x38, x39, x40, x41, x42, x43, x44, x45, x46, x47, x48, x49, x50, x51, x52, x53, x54, x55, x56, x57, x58, x59, x60, x61, x62, x63, x64, x65, x66, x67, x68, x69, x70, x71, x72, x73, x74, x75, x76, x77, x78, x79, x80, x81, x82, x83, x84, x85, x86, x87, x88, x89, x90, x91, x92, x93, x94, x95, x96, x97, x98, x99, x100, x101, x102, x103, x104, x105, x106], []⟩ w0 := by
  injection hK with hK
  subst hK
  have HN := hideP hnext
  have HO := hideP hO
  clear hO hnext
  simp only [fstAt]
  go_wp2_with fail
  go_loopg [15] m (fun gk v15 wr => ∃ (k : Nat), k + gk = m ∧ v15 = .int .i64 (k : Int) ∧ wr.ownsRow lo 3 1 (.slice (some ⟨cb, 0, none⟩) m m) m (intv (List.replicate k (-1) ++ List.replicate (m - k) 0)) ∧ Upd (fun b => b = cb) w0 wr)
  case atStart => exact ⟨0, by omega, rfl, by simpa using HO.out, Upd.refl _ _⟩
  case round =>
    obtain ⟨k, hk, rfl, hO, hU⟩ := hrel
    have HK := hideP hk
    have HO2 := hideP hO
    have HU2 := hideP hU
    clear hk hO hU
    by_cases hlt : ¬ k < m
    · obtain rfl : k = m := by have := HK.out; omega
      have HO3 := hideP (show wr.ownsRow lo 3 1 (.slice (some ⟨cb, 0, none⟩) k k) k (intv (List.replicate k (-1))) by simpa using HO2.out)
      go_wp2_with fail
      exact HN.out _ _ _ _ _ _ _ _ _ _ _ _ _ _ _ _ _ _ _ _ _ _ _ _ _ _ _ _ _ _ _ _ _ _ _ _ _ _ _ _ _ _ _ _ _ _ _ _ _ _ _ _ _ _ _ _ _ _ _ _ _ _ _ _ _ _ _ _ _ _ _ _ _ _ _ _ _ _ _ _ _ _ _ _ _ _ _ _ _ _ _ _ _ _ _ _ _ _ _ _ _ _ _ _ _ _ wr HO3.out HU2.out rfl rfl rfl rfl rfl
    have g1 : (k : Int) < (m : Int) := by omega
    have fz : wr.frozen? ⟨cb, k, none⟩ = false := HO2.out.frozenAt k
    obtain ⟨u, cu⟩ : ∃ u, wr.cell? ⟨cb, k, none⟩ = some u := by
      have h1 := HO2.out.cellAt k (by omega)
      rw [List.getElem?_eq_getElem (by have := HO2.out.1; omega)] at h1
      exact ⟨_, h1⟩
    have HO3 := hideP (own_set HO2.out k (.int .i64 (-1)) (by omega))
    have HE := hideP (show (intv (List.replicate k (-1) ++ List.replicate (m - k) 0)).set k (.int .i64 (-1)) = intv (List.replicate (k + 1) (-1) ++ List.replicate (m - (k + 1)) 0) by
      apply List.ext_getElem?
      intro j
      simp only [intv, List.getElem?_set, List.getElem?_map, List.getElem?_append, List.length_replicate, List.getElem?_replicate, List.length_map, List.length_append]
      have hk := HK.out
      by_cases h1 : k = j
      · subst h1
        simp
        omega
      · rw [if_neg h1]
        by_cases h2 : j < k
        · simp [h2, show j < k + 1 by omega]
        · by_cases h3 : j < m
          · simp [h2, show ¬ j < k + 1 by omega, show j - k < m - k by omega, show j - (k + 1) < m - (k + 1) by omega]
          · simp [h2, show ¬ j < k + 1 by omega, show ¬ j - k < m - k by omega, show ¬ j - (k + 1) < m - (k + 1) by omega])
    have HU3 := hideP (HU2.out.setCell ⟨cb, k, none⟩ (.int .i64 (-1)) (fun _ => rfl))
    go_wp2_with fail
    go_roundg (m - (k + 1))
    case measure => have := HK.out; omega
    case rel => exact ⟨k + 1, by have := HK.out; omega, by go_num, by rw [← HE.out]; exact HO3.out, HU3.out⟩
end Go.Proofs.Ytlaofcgllchedaa
