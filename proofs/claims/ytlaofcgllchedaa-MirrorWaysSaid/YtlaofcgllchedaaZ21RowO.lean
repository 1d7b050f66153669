/-
  Put, RowO, put together.
-/
import Derived.Test.YtlaofcgllchedaaZ20Held
import Derived.StillTailTactics
import Derived.Deep.AppendLies
import Derived.Test.YtlaofcgllchedaaZ14UnfG

/-
  The walk of heronref06's Tree.put. Printed by tools/mkPut.py.
-/
namespace Go.Proofs.Ytlaofcgllchedaa
open Go.RowKit
set_option linter.unusedVariables false

theorem pinfo_node : (Try.prog.info? 77).map (fun i => (i.zero, i.size, i.bytes)) = some (some (.agg #[.int .i64 0, .int .i64 0, .int .i64 0, .slice none 0 0, .slice none 0 0, .bool false, .int .i64 0, .int .i64 0]), 8, 96) := by kernel_rfl
set_option maxRecDepth 100000 in
set_option maxHeartbeats 4000000 in
theorem put_reg3 (Q : Exit → Act → World → Prop) (wr : World) (tb xb n tc base : Nat) (TA : Option Addr) (a0 a1 a2 a3 a4 a5 a6 a7 : Value) (vs : List Value) (x1 x2 x4 x5 x6 x7 x8 x9 x10 x11 x12 x13 x14 x15 x16 x17 x18 x19 x20 x21 x22 x23 x24 x25 x26 x27 x28 x29 x30 x31 x32 x33 x34 x35 x36 x37 x38 x39 x40 x41 x42 x43 x44 x45 x46 x47 x48 x49 x50 x51 x52 x53 x54 : Value)
    (hT : Cells wr tb 61 #[.slice TA n tc]) (hX : Cells wr xb 77 #[a0, a1, a2, a3, a4, a5, a6, a7]) (hO : wr.ownsRow base 77 8 (.slice TA n tc) n vs) (hn : n ≤ 100000) (hbase : base ≤ wr.heap.size) (hxo : (Value.slice TA n tc).ownBlock ≠ some xb)
    (b0 : a0.oneCell' = true) (b1 : a1.oneCell' = true) (b2 : a2.oneCell' = true) (b3 : a3.oneCell' = true) (b4 : a4.oneCell' = true) (b5 : a5.oneCell' = true) (b6 : a6.oneCell' = true) (b7 : a7.oneCell' = true)
    (hnext : ∀ (v13 v14 v15 v16 v17 v18 v19 v20 v21 v22 : Value) (wN : World) (gN cN : Nat), Upd (fun b => (Value.slice TA n tc).ownBlock = some b) wr wN → ((Value.slice TA n tc).ownBlock = some gN ∨ gN = wr.heap.size + 1) → gN < wN.heap.size →
      Cells wN tb 61 #[.slice TA n tc] → Cells wN xb 77 #[a0, a1, a2, a3, a4, a5, a6, a7] → wN.ownsRow base 77 8 (.slice (some ⟨gN, 0, none⟩) (n + 1) cN) (n + 1) (vs ++ [a0, a1, a2, a3, a4, a5, a6, a7]) →
      Q .normal ⟨#[.pointer (some ⟨tb, 0, none⟩), x1, x2, .pointer (some ⟨xb, 0, none⟩), x4, x5, x6, x7, x8, x9, x10, x11, x12, v13, v14, v15, v16, v17, v18, v19, v20, v21, v22, x23, x24, x25, x26, x27, x28, x29, x30, x31, x32, x33, x34, x35, x36, x37, x38, x39, x40, x41, x42, x43, x44, x45, x46, x47, x48, x49, x50, x51, x52, x53, x54], []⟩ (wN.setCell ⟨tb, 0, none⟩ (.slice (some ⟨gN, 0, none⟩) (n + 1) cN))) :
    (Code.region 3 #[{ dst := some 13, op := Op.move (Operand.tmp 0), type := 58, pos := "ref.go:69", after := #[], guard := none },
    { dst := some 14, op := Op.move (Operand.tmp 0), type := 58, pos := "ref.go:69", after := #[], guard := none },
    { dst := some 15, op := Op.nilCheck (Operand.tmp 14), type := 0, pos := "ref.go:69", after := #[{ on := 1, ground := .data }], guard := none },
    { dst := some 16, op := Op.fieldAddr 61 (Operand.tmp 15) 0, type := 0, pos := "ref.go:69", after := #[{ on := 2, ground := .data }], guard := none },
    { dst := some 17, op := Op.load 59 (Operand.tmp 16), type := 59, pos := "ref.go:69", after := #[{ on := 3, ground := .data }], guard := none },
    { dst := some 18, op := Op.load 77 (Operand.tmp 3), type := 77, pos := "ref.go:69", after := #[], guard := none },
    { dst := some 19, op := Op.buildSlice 59 1 #[(0, Operand.tmp 18)], type := 59, pos := "ref.go:69", after := #[{ on := 5, ground := .data }], guard := none },
    { dst := some 20, op := Op.call { callee := Callee.builtin Builtin.append, args := #[Operand.tmp 17, Operand.tmp 19], argTypes := #[59, 59] }, type := 59, pos := "ref.go:69", after := #[{ on := 4, ground := .data }, { on := 6, ground := .data }], guard := none },
    { dst := some 21, op := Op.nilCheck (Operand.tmp 13), type := 0, pos := "ref.go:69", after := #[{ on := 0, ground := .data }, { on := 0, ground := .phase }, { on := 1, ground := .phase }, { on := 2, ground := .phase }, { on := 3, ground := .phase }, { on := 4, ground := .phase }, { on := 5, ground := .phase }, { on := 6, ground := .phase }, { on := 7, ground := .phase }], guard := none },
    { dst := some 22, op := Op.fieldAddr 61 (Operand.tmp 21) 0, type := 0, pos := "ref.go:69", after := #[{ on := 8, ground := .data }, { on := 0, ground := .phase }, { on := 1, ground := .phase }, { on := 2, ground := .phase }, { on := 3, ground := .phase }, { on := 4, ground := .phase }, { on := 5, ground := .phase }, { on := 6, ground := .phase }, { on := 7, ground := .phase }], guard := none },
    { dst := none, op := Op.store 59 (Operand.tmp 22) (Operand.tmp 20), type := 0, pos := "ref.go:69", after := #[{ on := 9, ground := .data }, { on := 7, ground := .data }, { on := 7, ground := .chain }, { on := 0, ground := .phase }, { on := 1, ground := .phase }, { on := 2, ground := .phase }, { on := 3, ground := .phase }, { on := 4, ground := .phase }, { on := 5, ground := .phase }, { on := 6, ground := .phase }, { on := 7, ground := .phase }], guard := none }] true).wp Try.prog Q ⟨#[.pointer (some ⟨tb, 0, none⟩), x1, x2, .pointer (some ⟨xb, 0, none⟩), x4, x5, x6, x7, x8, x9, x10, x11, x12, x13, x14, x15, x16, x17, x18, x19, x20, x21, x22, x23, x24, x25, x26, x27, x28, x29, x30, x31, x32, x33, x34, x35, x36, x37, x38, x39, x40, x41, x42, x43, x44, x45, x46, x47, x48, x49, x50, x51, x52, x53, x54], []⟩ wr := by
  obtain ⟨i0, hi0, hz0, hz1, hz2⟩ := info_parts pinfo_node
  have HT := hideP hT
  have HX := hideP hX
  have HY := hideP hnext
  have HO := hideP hO
  have HNX := hideP hxo
  clear hT hX hnext hO hxo
  refine Code.wp_mono (QuietQ.imp (G := fun _ _ _ => False) (fun _ _ _ h => h.elim)) ?_
  refine AnyJ.begin 10 (fun w' => w'.cell? ⟨tb, 0, none⟩ = some (.slice TA n tc) ∧ w'.cell? ⟨xb, 0, none⟩ = some a0 ∧ w'.cell? ⟨xb, 1, none⟩ = some a1 ∧ w'.cell? ⟨xb, 2, none⟩ = some a2 ∧ w'.cell? ⟨xb, 3, none⟩ = some a3 ∧ w'.cell? ⟨xb, 4, none⟩ = some a4 ∧ w'.cell? ⟨xb, 5, none⟩ = some a5 ∧ w'.cell? ⟨xb, 6, none⟩ = some a6 ∧ w'.cell? ⟨xb, 7, none⟩ = some a7) (by kernel_rfl) ⟨HT.out.cellv rfl, HX.out.cellv rfl, HX.out.cellv rfl, HX.out.cellv rfl, HX.out.cellv rfl, HX.out.cellv rfl, HX.out.cellv rfl, HX.out.cellv rfl, HX.out.cellv rfl⟩ (fun hSS => ?_)
  refine AnyJ.take (i := 0) (oi := { dst := some 13, op := Op.move (Operand.tmp 0), type := 58, pos := "ref.go:69", after := #[], guard := none }) (v := ?v0nh1) ?a0nh1 ?b0nh1 ?c0nh1 ?d0nh1 ?e0nh1 (fun _ _ _ h => h) (Or.inl ⟨?f0nh1, ?y0nh1⟩) (by assumption) ?r0nh1
  case a0nh1 => rfl
  case b0nh1 => kernel_rfl
  case c0nh1 => kernel_rfl
  case d0nh1 => kernel_rfl
  case e0nh1 => kernel_rfl
  case f0nh1 => rfl
  case y0nh1 => (intro w' hSw; (try dsimp only at hSw); obtain ⟨sT, s0, s1, s2, s3, s4, s5, s6, s7⟩ := hSw; go_simp; try with_reducible rfl)
  try simp only [Act.put, List.setIfInBounds_toArray, List.set_cons_zero, List.set_cons_succ]
  refine AnyJ.take (i := 1) (oi := { dst := some 14, op := Op.move (Operand.tmp 0), type := 58, pos := "ref.go:69", after := #[], guard := none }) (v := ?v1nh2) ?a1nh2 ?b1nh2 ?c1nh2 ?d1nh2 ?e1nh2 (fun _ _ _ h => h) (Or.inl ⟨?f1nh2, ?y1nh2⟩) (by assumption) ?r1nh2
  case a1nh2 => rfl
  case b1nh2 => kernel_rfl
  case c1nh2 => kernel_rfl
  case d1nh2 => kernel_rfl
  case e1nh2 => kernel_rfl
  case f1nh2 => rfl
  case y1nh2 => (intro w' hSw; (try dsimp only at hSw); obtain ⟨sT, s0, s1, s2, s3, s4, s5, s6, s7⟩ := hSw; go_simp; try with_reducible rfl)
  try simp only [Act.put, List.setIfInBounds_toArray, List.set_cons_zero, List.set_cons_succ]
  refine AnyJ.take (i := 2) (oi := { dst := some 15, op := Op.nilCheck (Operand.tmp 14), type := 0, pos := "ref.go:69", after := #[{ on := 1, ground := .data }], guard := none }) (v := ?v2nh3) ?a2nh3 ?b2nh3 ?c2nh3 ?d2nh3 ?e2nh3 (fun _ _ _ h => h) (Or.inl ⟨?f2nh3, ?y2nh3⟩) (by assumption) ?r2nh3
  case a2nh3 => rfl
  case b2nh3 => kernel_rfl
  case c2nh3 => kernel_rfl
  case d2nh3 => kernel_rfl
  case e2nh3 => kernel_rfl
  case f2nh3 => rfl
  case y2nh3 => (intro w' hSw; (try dsimp only at hSw); obtain ⟨sT, s0, s1, s2, s3, s4, s5, s6, s7⟩ := hSw; go_simp; try with_reducible rfl)
  try simp only [Act.put, List.setIfInBounds_toArray, List.set_cons_zero, List.set_cons_succ]
  refine AnyJ.take (i := 3) (oi := { dst := some 16, op := Op.fieldAddr 61 (Operand.tmp 15) 0, type := 0, pos := "ref.go:69", after := #[{ on := 2, ground := .data }], guard := none }) (v := ?v3nh4) ?a3nh4 ?b3nh4 ?c3nh4 ?d3nh4 ?e3nh4 (fun _ _ _ h => h) (Or.inl ⟨?f3nh4, ?y3nh4⟩) (by assumption) ?r3nh4
  case a3nh4 => rfl
  case b3nh4 => kernel_rfl
  case c3nh4 => kernel_rfl
  case d3nh4 => kernel_rfl
  case e3nh4 => kernel_rfl
  case f3nh4 => rfl
  case y3nh4 => (intro w' hSw; (try dsimp only at hSw); obtain ⟨sT, s0, s1, s2, s3, s4, s5, s6, s7⟩ := hSw; go_simp; try with_reducible rfl)
  try simp only [Act.put, List.setIfInBounds_toArray, List.set_cons_zero, List.set_cons_succ]
  refine AnyJ.take (i := 4) (oi := { dst := some 17, op := Op.load 59 (Operand.tmp 16), type := 59, pos := "ref.go:69", after := #[{ on := 3, ground := .data }], guard := none }) (v := ?v4nh5) ?a4nh5 ?b4nh5 ?c4nh5 ?d4nh5 ?e4nh5 (fun _ _ _ h => h) (Or.inl ⟨?f4nh5, ?y4nh5⟩) (by assumption) ?r4nh5
  case a4nh5 => rfl
  case b4nh5 => kernel_rfl
  case c4nh5 => kernel_rfl
  case d4nh5 => kernel_rfl
  case e4nh5 => kernel_rfl
  case f4nh5 => rfl
  case y4nh5 => (intro w' hSw; (try dsimp only at hSw); obtain ⟨sT, s0, s1, s2, s3, s4, s5, s6, s7⟩ := hSw; go_simp; try with_reducible rfl)
  try simp only [Act.put, List.setIfInBounds_toArray, List.set_cons_zero, List.set_cons_succ]
  refine AnyJ.take (i := 5) (oi := { dst := some 18, op := Op.load 77 (Operand.tmp 3), type := 77, pos := "ref.go:69", after := #[], guard := none }) (v := ?v5nh6) ?a5nh6 ?b5nh6 ?c5nh6 ?d5nh6 ?e5nh6 (fun _ _ _ h => h) (Or.inl ⟨?f5nh6, ?y5nh6⟩) (by assumption) ?r5nh6
  case a5nh6 => rfl
  case b5nh6 => kernel_rfl
  case c5nh6 => kernel_rfl
  case d5nh6 => kernel_rfl
  case e5nh6 => kernel_rfl
  case f5nh6 => rfl
  case y5nh6 => (intro w' hSw; (try dsimp only at hSw); obtain ⟨sT, s0, s1, s2, s3, s4, s5, s6, s7⟩ := hSw; go_simp; try with_reducible rfl)
  try simp only [Act.put, List.setIfInBounds_toArray, List.set_cons_zero, List.set_cons_succ]
  refine AnyJ.one (i := 6) (o := { dst := some 19, op := Op.buildSlice 59 1 #[(0, Operand.tmp 18)], type := 59, pos := "ref.go:69", after := #[{ on := 5, ground := .data }], guard := none }) ?ph7 ?qh7 ?_
  case ph7 => kernel_rfl
  case qh7 => rfl
  intro K' hK
  go_simp
  have U9 := ((Upd.refl Nob wr).drew).alloc (.cells #[a0, a1, a2, a3, a4, a5, a6, a7] 77)
  have T9 := HT.out.upd U9 not_nob
  have X9 := HX.out.upd U9 not_nob
  refine hK.out _ _ (.inr ⟨T9.cellv rfl, X9.cellv rfl, X9.cellv rfl, X9.cellv rfl, X9.cellv rfl, X9.cellv rfl, X9.cellv rfl, X9.cellv rfl, X9.cellv rfl⟩) ?_; clear hK K'
  try simp only [Act.put, List.setIfInBounds_toArray, List.set_cons_zero, List.set_cons_succ]
  refine AnyJ.one (i := 7) (o := { dst := some 20, op := Op.call { callee := Callee.builtin Builtin.append, args := #[Operand.tmp 17, Operand.tmp 19], argTypes := #[59, 59] }, type := 59, pos := "ref.go:69", after := #[{ on := 4, ground := .data }, { on := 6, ground := .data }], guard := none }) ?ph8 ?qh8 ?_
  case ph8 => kernel_rfl
  case qh8 => rfl
  intro K' hK
  have P9 := own_upd HO.out U9 (fun _ _ => not_nob)
  refine step_append_lies _ rfl (.tmp 17) (.tmp 19) 59 rfl base 77 i0 _ 8 96 Try.underlying59 hi0 hz0 hz1 hz2 rfl (by decide) (.slice TA n tc) n vs (by rfl) P9 ⟨wr.heap.size, 0, none⟩ 1 1 [a0, a1, a2, a3, a4, a5, a6, a7] (by rfl) (by rfl) (World.news_of_block (cs := #[a0, a1, a2, a3, a4, a5, a6, a7]) (t := 77) (fr := (0, 0)) (heap_alloc_new wr.drew _)) (by intro u hu; simp at hu; rcases hu with rfl | rfl | rfl | rfl | rfl | rfl | rfl | rfl <;> assumption) (by decide) (by unfold maxLen; omega) (by omega) (by simp; omega) (wr.heap.size + 1) (by simp) ?_
  intro gN cN wN oN gr hat hltN
  have UB := (Upd.refl (fun b => (Value.slice TA n tc).ownBlock = some b) (wr.drew.alloc (.cells #[a0, a1, a2, a3, a4, a5, a6, a7] 77))).grown gr (fun b hb _ => hb)
  have TN := T9.upd UB (own_ne P9 T9 (by decide))
  have XN := X9.upd UB HNX.out
  refine hK.out _ _ (.inr ⟨TN.cellv rfl, XN.cellv rfl, XN.cellv rfl, XN.cellv rfl, XN.cellv rfl, XN.cellv rfl, XN.cellv rfl, XN.cellv rfl, XN.cellv rfl⟩) ?_; clear hK K'
  try simp only [Act.put, List.setIfInBounds_toArray, List.set_cons_zero, List.set_cons_succ]
  have x4 : wN.cell? ⟨tb, 0, none⟩ = some (.slice TA n tc) := TN.cellv rfl
  have z4 : wN.frozen? ⟨tb, 0, none⟩ = false := TN.frozen _
  refine AnyJ.one (i := 8) (o := { dst := some 21, op := Op.nilCheck (Operand.tmp 13), type := 0, pos := "ref.go:69", after := #[{ on := 0, ground := .data }, { on := 0, ground := .phase }, { on := 1, ground := .phase }, { on := 2, ground := .phase }, { on := 3, ground := .phase }, { on := 4, ground := .phase }, { on := 5, ground := .phase }, { on := 6, ground := .phase }, { on := 7, ground := .phase }], guard := none }) ?ph9 ?qh9 ?_
  case ph9 => kernel_rfl
  case qh9 => rfl
  intro K' hK
  go_simp
  refine hK.out _ _ (.inr ⟨TN.cellv rfl, XN.cellv rfl, XN.cellv rfl, XN.cellv rfl, XN.cellv rfl, XN.cellv rfl, XN.cellv rfl, XN.cellv rfl, XN.cellv rfl⟩) ?_; clear hK K'
  try simp only [Act.put, List.setIfInBounds_toArray, List.set_cons_zero, List.set_cons_succ]
  have hSN : (fun w' => w'.cell? ⟨tb, 0, none⟩ = some (.slice TA n tc) ∧ w'.cell? ⟨xb, 0, none⟩ = some a0 ∧ w'.cell? ⟨xb, 1, none⟩ = some a1 ∧ w'.cell? ⟨xb, 2, none⟩ = some a2 ∧ w'.cell? ⟨xb, 3, none⟩ = some a3 ∧ w'.cell? ⟨xb, 4, none⟩ = some a4 ∧ w'.cell? ⟨xb, 5, none⟩ = some a5 ∧ w'.cell? ⟨xb, 6, none⟩ = some a6 ∧ w'.cell? ⟨xb, 7, none⟩ = some a7) wN := ⟨TN.cellv rfl, XN.cellv rfl, XN.cellv rfl, XN.cellv rfl, XN.cellv rfl, XN.cellv rfl, XN.cellv rfl, XN.cellv rfl, XN.cellv rfl⟩
  refine AnyJ.take (i := 9) (oi := { dst := some 22, op := Op.fieldAddr 61 (Operand.tmp 21) 0, type := 0, pos := "ref.go:69", after := #[{ on := 8, ground := .data }, { on := 0, ground := .phase }, { on := 1, ground := .phase }, { on := 2, ground := .phase }, { on := 3, ground := .phase }, { on := 4, ground := .phase }, { on := 5, ground := .phase }, { on := 6, ground := .phase }, { on := 7, ground := .phase }], guard := none }) (v := ?v9nh10) ?a9nh10 ?b9nh10 ?c9nh10 ?d9nh10 ?e9nh10 (fun _ _ _ h => h) (Or.inl ⟨?f9nh10, ?y9nh10⟩) (by assumption) ?r9nh10
  case a9nh10 => rfl
  case b9nh10 => kernel_rfl
  case c9nh10 => kernel_rfl
  case d9nh10 => kernel_rfl
  case e9nh10 => kernel_rfl
  case f9nh10 => rfl
  case y9nh10 => (intro w' hSw; (try dsimp only at hSw); obtain ⟨sT, s0, s1, s2, s3, s4, s5, s6, s7⟩ := hSw; go_simp; try with_reducible rfl)
  try simp only [Act.put, List.setIfInBounds_toArray, List.set_cons_zero, List.set_cons_succ]
  refine AnyJ.one (i := 10) (o := { dst := none, op := Op.store 59 (Operand.tmp 22) (Operand.tmp 20), type := 0, pos := "ref.go:69", after := #[{ on := 9, ground := .data }, { on := 7, ground := .data }, { on := 7, ground := .chain }, { on := 0, ground := .phase }, { on := 1, ground := .phase }, { on := 2, ground := .phase }, { on := 3, ground := .phase }, { on := 4, ground := .phase }, { on := 5, ground := .phase }, { on := 6, ground := .phase }, { on := 7, ground := .phase }], guard := none }) ?ph11 ?qh11 ?_
  case ph11 => kernel_rfl
  case qh11 => rfl
  intro K' hK
  go_simp
  refine hK.out _ _ (.inl rfl) ?_; clear hK K'
  refine AnyJ.done ?_ ?_ _
  · kernel_rfl
  exact HY.out _ _ _ _ _ _ _ _ _ _ wN gN cN ((U9.mono (fun _ _ h => absurd h not_nob)).trans UB (fun _ _ h => h)) hat hltN TN XN oN
theorem setUps_nil (l : List PN) (n k : Nat) : setUps l n k [] = l := rfl
theorem NodeO.put {w : World} {base : Nat} {S : Nat → Prop} {x y : PN} {q : Q4} (h : NodeO w base S x q) (h1 : y.rs = x.rs) (h2 : y.subs = x.subs) (h3 : y.asr = x.asr) (h4 : y.ix = x.ix) : NodeO w base S y q := by
  unfold NodeO
  rw [h1, h2, h3, h4]
  exact h
/-- the row with one more -/
theorem put_added {w w2 wN : World} {base tb gN cN tc : Nat} {S D : Nat → Prop} {l : List PN} {TA : Option Addr} {x : PN} {q : Q4} (hT : TabR w base tb S D l TA tc) (hN : NodeO w base S x q) (hND : ∀ b, (Value.slice q.2.1 x.subs.length q.2.2).ownBlock = some b → ¬ D b) (hU2 : Upd Nob w w2) (hUN : Upd (fun b => (Value.slice TA l.length tc).ownBlock = some b) w2 wN)
    (hat : (Value.slice TA l.length tc).ownBlock = some gN ∨ gN = w2.heap.size + 1) (TN : Cells wN tb 61 #[.slice TA l.length tc]) {qs : List Q4} (hq : qs.length = l.length)
    (hO : w.ownsRow base 77 8 (.slice TA l.length tc) l.length (flatN l qs)) (hOn : ∀ (i : Nat) (x : PN) (q : Q4), l[i]? = some x → qs[i]? = some q → NodeO w base S x q ∧ ∀ b, (Value.slice q.2.1 x.subs.length q.2.2).ownBlock = some b → ¬ D b)
    (oN : wN.ownsRow base 77 8 (.slice (some ⟨gN, 0, none⟩) (l.length + 1) cN) (l.length + 1) (flatN l qs ++ ndL x q)) :
    TNx base tb S D w TA (l ++ [x]) (wN.setCell ⟨tb, 0, none⟩ (.slice (some ⟨gN, 0, none⟩) (l.length + 1) cN)) (some ⟨gN, 0, none⟩) cN := by
  have htb := hT.size
  have hs2 := hU2.size
  have hUA : Upd (TabF tb TA) w wN := (hU2.mono (fun _ _ h => absurd h not_nob)).trans (hUN.mono (fun b _ h => .inr (slice_own.1 h))) (fun _ _ h => h)
  have hUF := hUA.setCell ⟨tb, 0, none⟩ (.slice (some ⟨gN, 0, none⟩) (l.length + 1) cN) (fun _ => .inl rfl)
  have hF : Upd (fun b => b = tb) wN (wN.setCell ⟨tb, 0, none⟩ (.slice (some ⟨gN, 0, none⟩) (l.length + 1) cN)) := (Upd.refl (fun b => b = tb) wN).setCell _ _ (fun _ => rfl)
  have keep : ∀ {y : PN} {r : Q4}, NodeO w base S y r → NodeO (wN.setCell ⟨tb, 0, none⟩ (.slice (some ⟨gN, 0, none⟩) (l.length + 1) cN)) base S y r := fun h => h.upd hUF hT.notF (hT.ints h.2.1)
  refine ⟨⟨?_, hT.lo, hT.s, ⟨qs ++ [q], by simp [hq], ?_, fun i y r hy hr => ?_⟩, fun b hb => Nat.lt_of_lt_of_le (hT.d b hb) hUF.size⟩, hUF, ?_⟩
  · simp only [List.length_append, List.length_singleton]
    exact TN.set_ 0 _
  · rw [flatN_append _ _ _ _ hq]
    simp only [List.length_append, List.length_singleton]
    exact own_upd oN hF (fun b hb e => by subst e; exact own_ne oN TN (by decide) hb)
  · by_cases hil : i < l.length
    · rw [List.getElem?_append_left hil] at hy
      rw [List.getElem?_append_left (by omega)] at hr
      exact ⟨keep (hOn i y r hy hr).1, (hOn i y r hy hr).2⟩
    · have hi1 : i = l.length := by
        have := (List.getElem?_eq_some_iff.1 hy).1
        simp at this
        omega
      subst hi1
      rw [List.getElem?_append_right (by omega)] at hy hr
      simp [hq] at hy hr
      subst hy hr
      exact ⟨keep hN, hND⟩
  · rcases hat with h | h
    · exact .inl (by rw [slice_own.1 h]; rfl)
    · refine .inr (fun b hb => ?_)
      have : gN = b := by simpa using hb
      omega
/-- a node is linked -/
theorem put_linked {w wr : World} {base tb g c s n k : Nat} {S D : Nat → Prop} {li l0 : List PN} {TA : Option Addr} {tc0 : Nat} (h : TNx base tb S D w TA li wr (some ⟨g, 0, none⟩) c) (hT : TabR w base tb S D l0 TA tc0) (hs : s < li.length) {wm : World} (hm : Upd Nob (wr.setCell ⟨g, s * 8 + 6, none⟩ (.int .i64 (n : Int))) wm) :
    TNx base tb S D w TA (setUp li s n k) (wm.setCell ⟨g, s * 8 + 7, none⟩ (.int .i64 (k : Int))) (some ⟨g, 0, none⟩) c := by
  obtain ⟨qs, hq, hO, hOn⟩ := h.tab.row
  obtain ⟨w', hw'⟩ : ∃ w', wm.setCell ⟨g, s * 8 + 7, none⟩ (.int .i64 (k : Int)) = w' := ⟨_, rfl⟩
  have hU : Upd (fun b => b = g) wr w' := by
    rw [← hw']
    exact (((Upd.refl (fun b => b = g) wr).setCell ⟨g, s * 8 + 6, none⟩ (.int .i64 (n : Int)) (fun _ => rfl)).trans hm (fun _ _ h => absurd h not_nob)).setCell _ _ (fun _ => rfl)
  have hO2 := own_set (own_upd (own_set hO (s * 8 + 6) (.int .i64 (n : Int)) (by omega)) hm (fun _ _ => not_nob)) (s * 8 + 7) (.int .i64 (k : Int)) (by omega)
  rw [hw'] at hO2 ⊢
  have hgt : tb ≠ g := fun e => own_ne hO h.tab.tab (by decide) (by rw [e]; rfl)
  have hlen : (setUp li s n k).length = li.length := by simp [setUp]
  obtain ⟨cur, hcg, -⟩ := own_cells hO (g := g) rfl
  have hbg : base ≤ g := wk_lo hO rfl
  refine ⟨⟨?_, h.tab.lo, h.tab.s, ⟨qs, by rw [hlen]; exact hq, ?_, fun i y r hy hr => ?_⟩, fun b hb => Nat.lt_of_lt_of_le (h.tab.d b hb) hU.size⟩, ?_, h.new⟩
  · rw [hlen]
    exact h.tab.tab.upd hU hgt
  · rw [hlen, flatN_link li qs s n k hq hs]
    exact hO2
  · rw [setUp_at] at hy
    have keep : ∀ {z : PN}, NodeO wr base S z r → NodeO w' base S z r := fun hz => hz.upd hU (fun b hb e => by have := h.tab.s b hb; omega) (fun b hb e => own_ne hz.2.1 hcg (by decide) (by rw [← e]; exact hb))
    split at hy
    · cases hz : li[i]? with
      | none => rw [hz] at hy; cases hy
      | some z =>
        rw [hz] at hy
        injection hy with hy
        subst hy
        exact ⟨keep ((hOn i z r hz hr).1.put rfl rfl rfl rfl), (hOn i z r hz hr).2⟩
    · exact ⟨keep (hOn i y r hy hr).1, (hOn i y r hy hr).2⟩
  · refine h.upd.trans hU (fun b hlt e => ?_)
    subst e
    rcases h.new with h3 | h3
    · exact .inr (by rw [← h3]; rfl)
    · have := h3 b rfl; omega
set_option maxRecDepth 100000 in
set_option maxHeartbeats 4000000 in
theorem put_any {w : World} {base tb tc : Nat} {S D : Nat → Prop} {l : List PN} {TA : Option Addr} {x : PN} {q : Q4} (hT : TabR w base tb S D l TA tc) (hN : NodeO w base S x q) (hND : ∀ b, (Value.slice q.2.1 x.subs.length q.2.2).ownBlock = some b → ¬ D b) (hs : ∀ s ∈ x.subs, s < l.length) (hl : l.length ≤ 90000) (hsl : x.subs.length ≤ 1000000) :
    Calls Try.prog 36 #[.pointer (some ⟨tb, 0, none⟩), .agg #[.int .i64 x.kind, .int .i64 x.asr, .int .i64 x.ix, .slice q.1.1 x.rs.length q.1.2, .slice q.2.1 x.subs.length q.2.2, .bool x.lz, .int .i64 x.up, .int .i64 x.nth]] w (TAns base tb S D w TA (putT x l)) := by
  obtain ⟨qs, hq, hO, hOn⟩ := hT.row
  have t0 := hT.tab.cellv (i := 0) rfl
  have htb := hT.size
  have hlo := hT.lo
  have hU2 := (Upd.refl Nob w).alloc (.cells #[.int .i64 x.kind, .int .i64 x.asr, .int .i64 x.ix, .slice q.1.1 x.rs.length q.1.2, .slice q.2.1 x.subs.length q.2.2, .bool x.lz, .int .i64 (-1), .int .i64 x.nth] 77)
  have hX3 := Cells.new w 77 #[.int .i64 x.kind, .int .i64 x.asr, .int .i64 x.ix, .slice q.1.1 x.rs.length q.1.2, .slice q.2.1 x.subs.length q.2.2, .bool x.lz, .int .i64 (-1), .int .i64 x.nth]
  have hno : ∀ b, TA.map (·.block) = some b → b < w.heap.size := fun b hb => (hT.lo_own b hb).2
  have HT := hideP hT
  have HN := hideP hN
  have HND := hideP hND
  have HO := hideP hO
  have HON := hideP hOn
  have HQ := hideP hq
  have HU2 := hideP hU2
  have HX := hideP hX3
  have HS := hideP hs
  have HNO := hideP hno
  clear hT hN hND hO hOn hq hU2 hX3 hs hno
  go_enter Try.func36, Try.ntmps36
  go_upto_region 3 with fail
  generalize w.alloc (.cells #[.int .i64 x.kind, .int .i64 x.asr, .int .i64 x.ix, .slice q.1.1 x.rs.length q.1.2, .slice q.2.1 x.subs.length q.2.2, .bool x.lz, .int .i64 (-1), .int .i64 x.nth] 77) = w2 at *
  clear t0
  generalize hxb : w.heap.size = xb at *
  have HXB := hideP hxb
  clear hxb
  have hs2 := HU2.out.size
  rw [HXB.out] at hs2
  refine put_reg3 _ w2 tb xb l.length tc base TA _ _ _ _ _ _ _ _ (flatN l qs) _ _ _ _ _ _ _ _ _ _ _ _ _ _ _ _ _ _ _ _ _ _ _ _ _ _ _ _ _ _ _ _ _ _ _ _ _ _ _ _ _ _ _ _ _ _ _ _ _ _ _ _ _ (HT.out.tab.upd HU2.out not_nob) HX.out (own_upd HO.out HU2.out (fun _ _ => not_nob)) (by omega) (by omega) (fun e => by have := HNO.out _ (slice_own.1 e); omega) rfl rfl rfl rfl rfl rfl rfl rfl ?_
  intro _ _ _ _ _ _ _ _ _ _ wN gN cN hUB hat hltN TN XN oN
  have hA := put_added (x := { x with up := -1 }) HT.out (HN.out.put rfl rfl rfl rfl) HND.out HU2.out hUB hat TN HQ.out HO.out HON.out oN
  have hgx : gN ≠ xb := fun e => by
    rcases hat with h | h
    · have := HNO.out _ (slice_own.1 h); omega
    · have := HX.out.lt; omega
  have hX3 : Cells (wN.setCell ⟨tb, 0, none⟩ (.slice (some ⟨gN, 0, none⟩) (l.length + 1) cN)) xb 77 #[.int .i64 x.kind, .int .i64 x.asr, .int .i64 x.ix, .slice q.1.1 x.rs.length q.1.2, .slice q.2.1 x.subs.length q.2.2, .bool x.lz, .int .i64 (-1), .int .i64 x.nth] := XN.upd ((Upd.refl (fun b => b = tb) wN).setCell ⟨tb, 0, none⟩ _ (fun _ => rfl)) (fun e => Cells.ne_ XN TN (by decide) e)
  generalize wN.setCell ⟨tb, 0, none⟩ (.slice (some ⟨gN, 0, none⟩) (l.length + 1) cN) = w3 at *
  have HA := hideP hA
  have HX3 := hideP hX3
  have HP := hideP (show setUps (l ++ [{ x with up := -1 }]) l.length 0 x.subs = (putT x l).1 from rfl)
  have HGX := hideP hgx
  clear hUB hat hltN TN XN oN hA hX3 hgx HX
  go_wp2_with fail
  go_loopg [6] x.subs.length (fun gk v6 wr => ∃ (i : Nat) (li : List PN) (g c : Nat), i + gk = x.subs.length ∧ v6 = .int .i64 (i : Int) ∧ li.length = l.length + 1 ∧ setUps li l.length i (x.subs.drop i) = (putT x l).1 ∧ TNx base tb S D w TA li wr (some ⟨g, 0, none⟩) c ∧ Cells wr xb 77 #[.int .i64 x.kind, .int .i64 x.asr, .int .i64 x.ix, .slice q.1.1 x.rs.length q.1.2, .slice q.2.1 x.subs.length q.2.2, .bool x.lz, .int .i64 (-1), .int .i64 x.nth] ∧ g ≠ xb)
  case atStart => exact ⟨0, _, gN, cN, by omega, rfl, by simp, HP.out, HA.out, HX3.out, HGX.out⟩
  case round =>
    clear HA HX3 HP HGX
    obtain ⟨i, li, g, c, hk2, rfl, hli, hset, hA, hX, hgx⟩ := hrel
    have HA := hideP hA
    have HX := hideP hX
    have HK := hideP hk2
    have HLI := hideP hli
    have HSET := hideP hset
    have HGX := hideP hgx
    have y4 := hX.cellv (i := 0 + 4) (v := .slice q.2.1 x.subs.length q.2.2) rfl
    have t0 := hA.tab.tab.cellv (i := 0) rfl
    clear hA hX hk2 hli hset hgx
    by_cases hlt : i < x.subs.length
    · obtain ⟨ad, hSA, hadb, hadS, hcell⟩ := (Reads.of_own (HA.out.own HT.out HN.out.2.1)).2 (by omega)
      have z0 := hcell i (.int .i64 ((x.subs[i]'hlt : Nat) : Int)) (by simp [intv, hlt])
      have hsub := HS.out _ (List.getElem_mem hlt)
      have hd : x.subs.drop i = (x.subs[i]'hlt) :: x.subs.drop (i + 1) := List.drop_eq_getElem_cons hlt
      have hA2 := HSET.out
      rw [hd] at hA2
      have HSET := hideP hA2
      have q1 : (i : Int) < (x.subs.length : Int) := by omega
      generalize (x.subs[i]'hlt) = s at *
      have q2 : (s : Int) < (li.length : Int) := by have := HLI.out; omega
      have HSB := hideP (show s < li.length by have := HLI.out; omega)
      rw [hSA] at y4
      have hadg : ad.block ≠ g := fun e => by
        have h1 := HA.out.own HT.out HN.out.2.1
        obtain ⟨qs2, -, ho2, -⟩ := HA.out.tab.row
        obtain ⟨cur, hcg, -⟩ := own_cells ho2 (g := g) rfl
        exact own_ne h1 hcg (by decide) (by rw [hSA, ← e]; rfl)
      have hgt : tb ≠ g := fun e => by
        obtain ⟨qs2, -, ho2, -⟩ := HA.out.tab.row
        exact own_ne ho2 HA.out.tab.tab (by decide) (by rw [e]; rfl)
      have HSA := hideP hSA
      clear hcell hd hA2 hadS hSA
      obtain ⟨qs2, hq2, ho2, -⟩ := HA.out.tab.row
      obtain ⟨cur, hcg, htk⟩ := own_cells ho2 (g := g) rfl
      have hsz : s * 8 + 8 ≤ cur.size := by
        have h6 : s * 8 + 8 ≤ (flatN li qs2).length := by rw [flatN_len _ _ hq2]; omega
        rw [← htk] at h6
        simp at h6
        omega
      have HCG := hideP hcg
      clear hcg htk ho2 hq2
      go_wp2_with fail
      go_still_tail 12, (by kernel_rfl)
      change wpList _ _ _ _ _ wr.drew
      have hUd := (Upd.refl Nob wr).drew
      have HA3 := hideP (HA.out.trans (TNx.of_upd HA.out.tab hUd) HT.out.size)
      have HX3 := hideP (HX.out.upd hUd not_nob)
      have HCG3 := hideP (HCG.out.upd hUd not_nob)
      have HZ3 := hideP ((hUd.cell (p := ad.add i) (by rw [add_block]; exact hadb) not_nob).trans z0)
      have hadb3 : ad.block < wr.drew.heap.size := hadb
      generalize wr.drew = w5 at *
      clear y4 t0 z0 HA HX HCG hUd hadb
      have f6 := HCG3.out.frozen (s * 8 + 6)
      have x6 := HCG3.out.cellv (i := s * 8 + 6) (Array.getElem?_eq_getElem (by omega))
      go_wp2_with fail
      clear f6 x6
      have hV : Upd (fun b => b = g) w5 (w5.setCell ⟨g, s * 8 + 6, none⟩ (.int .i64 (l.length : Int))) := (Upd.refl (fun b => b = g) w5).setCell _ _ (fun _ => rfl)
      have HCG6 := hideP (HCG3.out.set_ (s * 8 + 6) (.int .i64 (l.length : Int)))
      have HX6 := hideP (HX3.out.upd hV (fun e => HGX.out e.symm))
      have HT6 := hideP (HA3.out.tab.tab.upd hV hgt)
      have HZ6 := hideP ((hV.cell (p := ad.add i) (by rw [add_block]; exact hadb3) (by rw [add_block]; exact hadg)).trans HZ3.out)
      have hadb6 := Nat.lt_of_lt_of_le hadb3 hV.size
      generalize hw6 : w5.setCell ⟨g, s * 8 + 6, none⟩ (.int .i64 (l.length : Int)) = w6 at *
      have HW6 := hideP hw6
      clear hw6 HX3 HCG3 HZ3 hadb3 hV
      have y4 := HX6.out.cellv (i := 0 + 4) (v := .slice q.2.1 x.subs.length q.2.2) rfl
      rw [HSA.out] at y4
      have t0 := HT6.out.cellv (i := 0) rfl
      have z0 := HZ6.out
      go_still_tail 12, (by kernel_rfl)
      change wpList _ _ _ _ _ w6.drew
      have hUd := (Upd.refl Nob w6).drew
      have HUD := hideP hUd
      have HX7 := hideP (HX6.out.upd hUd not_nob)
      have HCG7 := hideP (HCG6.out.upd hUd not_nob)
      generalize w6.drew = w7 at *
      clear y4 t0 z0 HX6 HCG6 HZ6 HT6 hUd
      have f7 := HCG7.out.frozen (s * 8 + 7)
      have x7 := HCG7.out.cellv (i := s * 8 + 7) (Array.getElem?_eq_getElem (by rw [Array.size_setIfInBounds]; omega))
      go_wp2_with fail
      clear f7 x7
      have hL := put_linked (n := l.length) (k := i) HA3.out HT.out HSB.out (by rw [HW6.out]; exact HUD.out)
      have hX8 := HX7.out.upd ((Upd.refl (fun b => b = g) w7).setCell ⟨g, s * 8 + 7, none⟩ (.int .i64 (i : Int)) (fun _ => rfl)) (fun e => HGX.out e.symm)
      go_roundg (x.subs.length - (i + 1))
      case measure => have := HK.out; omega
      case rel => exact ⟨i + 1, setUp li s l.length i, g, c, by have := HK.out; omega, by go_num, by simp [setUp]; exact HLI.out, HSET.out, hL, hX8, HGX.out⟩
    · have q1 : ¬ (i : Int) < (x.subs.length : Int) := by omega
      have hA2 := HSET.out
      rw [List.drop_eq_nil_of_le (by omega)] at hA2
      have hA3 : li = (putT x l).1 := hA2
      clear hA2 hlt
      go_wp2_with fail
      go_ret
      exact ⟨rfl, some ⟨g, 0, none⟩, c, by rw [← hA3]; exact HA.out⟩
end Go.Proofs.Ytlaofcgllchedaa

/-
  The walk of heronref06's Tree.row.
-/
namespace Go.Proofs.Ytlaofcgllchedaa
open Go.RowKit
set_option linter.unusedVariables false

/-- a row laid down by a literal -/
theorem lit_own {w : World} (cs : Array Value) (t : TypeId) (h : cs.size ≤ maxLen) : (w.alloc (.cells cs t)).ownsRow w.heap.size t 1 (.slice (some ⟨w.heap.size, 0, none⟩) cs.size cs.size) cs.size cs.toList :=
  ⟨by simp, .inr ⟨w.heap.size, cs.size, cs, rfl, Nat.le_refl _, heap_alloc_new w _, Nat.le_refl _, h, by simp, by simp [List.take_of_length_le]⟩⟩
theorem no_ranges {w : World} {S : Nat → Prop} : RangesR w S none 0 [] := ⟨Reads.nil_, fun x hx => (by cases hx), by omega⟩
theorem in64_zero : In64 0 := ⟨by omega, by omega⟩
/-- a bare node -/
theorem bare_node {w : World} {base : Nat} {S : Nat → Prop} {k : Int} {ss : List Nat} {lz : Bool} {A : Option Addr} {c : Nat} (h : w.ownsRow base 3 1 (.slice A ss.length c) ss.length (intv (ss.map fun (s : Nat) => (s : Int)))) : NodeO w base S (bareN k ss lz) ((none, 0), (A, c)) := ⟨no_ranges, h, in64_zero, in64_zero⟩
theorem rowT_two {ss : List Nat} (h : 2 ≤ ss.length) (l : List PN) : rowT ss l = putT (bareN 4 ss false) l := by
  match ss, h with
  | a :: b :: r, _ => rfl
set_option maxHeartbeats 1000000 in
theorem row_any {w : World} {base tb tc : Nat} {S D : Nat → Prop} {l : List PN} {TA : Option Addr} {ss : List Nat} {A : Option Addr} {c : Nat} (hT : TabR w base tb S D l TA tc) (hO : w.ownsRow base 3 1 (.slice A ss.length c) ss.length (intv (ss.map fun (s : Nat) => (s : Int)))) (hD : ∀ b, (Value.slice A ss.length c).ownBlock = some b → ¬ D b) (hs : ∀ s ∈ ss, s < l.length) (hl : l.length ≤ 90000) (hsl : ss.length ≤ 1000000) :
    Calls Try.prog 55 #[.pointer (some ⟨tb, 0, none⟩), .slice A ss.length c] w (TAns base tb S D w TA (rowT ss l)) := by
  by_cases h0 : ss.length = 0
  · obtain rfl := List.eq_nil_of_length_eq_zero h0
    have HP := hideP (put_any hT (bare_node (k := 1) (ss := []) (lz := false) (S := S) (A := none) (c := 0) (World.ownsRow_nil _ _ _ _)) (fun b hb => by cases hb) (by simp [bareN]) hl (by simp [bareN]))
    clear hT hO hD hs
    go_enter Try.func55, Try.ntmps55
    go_wp2_with (go_at_call 36; refine HP.out.mono ?_; rintro e w1 ⟨rfl, hX⟩)
    go_ret
    exact ⟨rfl, hX⟩
  by_cases h1 : ss.length = 1
  · obtain ⟨a, rfl⟩ := List.length_eq_one_iff.1 h1
    obtain ⟨ad, hSA, hadb, hadS, hcell⟩ := (Reads.of_own hO).2 (by simp)
    have z0 := hcell 0 (.int .i64 (a : Int)) rfl
    have HT := hideP hT
    subst hSA
    rw [show ad.add 0 = ad by simp [Addr.add]] at z0
    clear hT hO hD hs hcell
    go_enter Try.func55, Try.ntmps55
    go_wp2_with fail
    go_ret
    exact ⟨rfl, TA, tc, TNx.of_upd HT.out (Upd.refl _ _)⟩
  have hr := rowT_two (ss := ss) (by omega) l
  have HP := hideP (put_any hT (bare_node (k := 4) (ss := ss) (lz := false) (S := S) hO) hD hs hl hsl)
  have HR := hideP hr
  have g0 : ¬ (ss.length : Int) = 0 := by omega
  have g1 : ¬ (ss.length : Int) = 1 := by omega
  clear hT hO hD hs hr h0 h1
  go_enter Try.func55, Try.ntmps55
  go_wp2_with (go_at_call 36; refine HP.out.mono ?_; rintro e w1 ⟨rfl, hX⟩)
  go_ret
  rw [HR.out]
  exact ⟨rfl, hX⟩
end Go.Proofs.Ytlaofcgllchedaa
