/-
  Behind, Behind2, put together.
-/
import Derived.Test.YtlaofcgllchedaaZ29TabN
import Derived.Test.YtlaofcgllchedaaZ20Held
import Derived.Deep.RegionHeld3
import Derived.Deep.AppendLies
import Derived.Deep.QuietTactic

/-
  The walk of heronref06's behind. Printed by tools/mkBehind.py.
-/
namespace Go.Proofs.Ytlaofcgllchedaa
open Go.RowKit
set_option linter.unusedVariables false

theorem own_apart {w : World} {b1 b2 e1 e2 s1 s2 n1 n2 : Nat} {v1 v2 : Value} {x1 x2 : List Value} (h1 : w.ownsRow b1 e1 s1 v1 n1 x1) (h2 : w.ownsRow b2 e2 s2 v2 n2 x2) (hne : e2 ≠ e1) {b : Nat} (hb1 : v1.ownBlock = some b) (hb2 : v2.ownBlock = some b) : False := by
  obtain ⟨cur, hc, -⟩ := own_cells h1 hb1
  exact own_ne h2 hc hne hb2
theorem pinfo_parse : (Try.prog.info? 53).map (fun i => (i.zero, i.size, i.bytes)) = some (some (.agg #[.int .i64 0, .slice none 0 0]), 2, 32) := by kernel_rfl
set_option maxRecDepth 100000 in
set_option maxHeartbeats 4000000 in
theorem behind_reg5 (Q : Exit → Act → World → Prop) (wr : World) (SC : Nat → Prop) (wb p n oc cc cl base : Nat) (OA CA : Option Addr) (c : List Int) (cs : Array Value) (fl : List Value) (x1 x4 x5 x6 x7 x8 x9 x10 x11 x12 x13 x14 x15 x16 x17 x18 x19 x20 x21 x22 x23 x24 x25 x26 x27 x28 x29 x30 x31 x32 x33 x34 x35 x36 x37 x38 x39 x40 x41 x42 x43 x44 x45 x46 x47 x48 x49 x50 x51 x52 x53 x54 x55 x56 x57 x58 x59 x60 x61 x62 x63 x64 x65 x66 x67 x68 x69 x70 x71 x72 x73 x74 x75 x76 x77 x78 x79 x80 x81 x82 x83 x84 x85 x86 x87 x88 x89 x90 x91 x92 x93 x94 x95 x96 x97 x98 x99 x100 x101 x102 x103 x104 x105 x106 x107 x108 x109 x110 x111 x112 x113 x114 x115 x116 x117 x118 x119 x120 x121 x122 x123 x124 x125 x126 x127 x128 : Value)
    (hcl : c.length = cl) (hcs : cs[6]? = some (.slice OA n oc)) (hW : Cells wr wb 65 cs) (hO : wr.ownsRow base 53 2 (.slice OA n oc) n fl) (hC : Reads wr SC 1 CA c.length (intv c)) (hc1 : 1 < c.length) (hc4 : c.length ≤ 4000) (hn : n ≤ 1000) (hbase : base ≤ wr.heap.size)
    (hnext : ∀ (v44 v45 v46 v47 v48 v49 v50 v51 v52 v53 v54 v55 v56 v57 : Value) (wq wN : World) (gN cN g cap : Nat), Upd Nob wr wq → wr.heap.size ≤ g → Upd Nob wr (wq.alloc (.cells #[.int .i64 (p : Int), .slice (some ⟨g, 0, none⟩) c.length cap] 53)) →
      (wq.alloc (.cells #[.int .i64 (p : Int), .slice (some ⟨g, 0, none⟩) c.length cap] 53)).ownsRow base 53 2 (.slice OA n oc) n fl → (wq.alloc (.cells #[.int .i64 (p : Int), .slice (some ⟨g, 0, none⟩) c.length cap] 53)).ownsRow wr.heap.size 3 1 (.slice (some ⟨g, 0, none⟩) c.length cap) c.length (intv (c.set 1 (p : Int))) →
      (wq.alloc (.cells #[.int .i64 (p : Int), .slice (some ⟨g, 0, none⟩) c.length cap] 53)).grownBy wN (Value.slice OA n oc).ownBlock → ((Value.slice OA n oc).ownBlock = some gN ∨ gN = wq.heap.size + 1) → gN < wN.heap.size →
      Cells wN wb 65 cs → wN.ownsRow wr.heap.size 3 1 (.slice (some ⟨g, 0, none⟩) c.length cap) c.length (intv (c.set 1 (p : Int))) → wN.ownsRow base 53 2 (.slice (some ⟨gN, 0, none⟩) (n + 1) cN) (n + 1) (fl ++ [.int .i64 (p : Int), .slice (some ⟨g, 0, none⟩) c.length cap]) →
      Q .normal ⟨#[.pointer (some ⟨wb, 0, none⟩), x1, .int .i64 (p : Int), .slice CA cl cc, x4, x5, x6, x7, x8, x9, x10, x11, x12, x13, x14, x15, x16, x17, x18, x19, x20, x21, x22, x23, x24, x25, x26, x27, x28, x29, x30, x31, x32, x33, x34, x35, x36, x37, x38, x39, x40, x41, x42, x43, v44, v45, v46, v47, v48, v49, v50, v51, v52, v53, v54, v55, v56, v57, x58, x59, x60, x61, x62, x63, x64, x65, x66, x67, x68, x69, x70, x71, x72, x73, x74, x75, x76, x77, x78, x79, x80, x81, x82, x83, x84, x85, x86, x87, x88, x89, x90, x91, x92, x93, x94, x95, x96, x97, x98, x99, x100, x101, x102, x103, x104, x105, x106, x107, x108, x109, x110, x111, x112, x113, x114, x115, x116, x117, x118, x119, x120, x121, x122, x123, x124, x125, x126, x127, x128], []⟩ (wN.setCell ⟨wb, 0 + 6, none⟩ (.slice (some ⟨gN, 0, none⟩) (n + 1) cN))) :
    (Code.region 5 #[{ dst := some 44, op := Op.move (Operand.tmp 0), type := 62, pos := "ref.go:222", after := #[], guard := none },
    { dst := some 45, op := Op.move (Operand.tmp 0), type := 62, pos := "ref.go:222", after := #[], guard := none },
    { dst := some 46, op := Op.nilCheck (Operand.tmp 45), type := 0, pos := "ref.go:222", after := #[{ on := 1, ground := .data }], guard := none },
    { dst := some 47, op := Op.fieldAddr 65 (Operand.tmp 46) 6, type := 0, pos := "ref.go:222", after := #[{ on := 2, ground := .data }], guard := none },
    { dst := some 48, op := Op.load 49 (Operand.tmp 47), type := 49, pos := "ref.go:222", after := #[{ on := 3, ground := .data }], guard := none },
    { dst := some 49, op := Op.move (Operand.tmp 2), type := 3, pos := "ref.go:222", after := #[], guard := none },
    { dst := some 50, op := Op.move (Operand.tmp 3), type := 22, pos := "ref.go:222", after := #[], guard := none },
    { dst := some 51, op := Op.move (Operand.tmp 2), type := 3, pos := "ref.go:222", after := #[], guard := none },
    { dst := some 52, op := Op.call { callee := Callee.value (Operand.func 41), args := #[Operand.tmp 50, Operand.const (Value.int IntKind.i64 1), Operand.tmp 51], argTypes := #[22, 3, 3] }, type := 22, pos := "ref.go:222", after := #[{ on := 6, ground := .data }, { on := 7, ground := .data }], guard := none },
    { dst := some 53, op := Op.build 53 #[(0, Operand.tmp 49), (1, Operand.tmp 52)], type := 53, pos := "ref.go:222", after := #[{ on := 5, ground := .data }, { on := 8, ground := .data }], guard := none },
    { dst := some 54, op := Op.buildSlice 49 1 #[(0, Operand.tmp 53)], type := 49, pos := "ref.go:222", after := #[{ on := 9, ground := .data }], guard := none },
    { dst := some 55, op := Op.call { callee := Callee.builtin Builtin.append, args := #[Operand.tmp 48, Operand.tmp 54], argTypes := #[49, 49] }, type := 49, pos := "ref.go:222", after := #[{ on := 4, ground := .data }, { on := 10, ground := .data }, { on := 8, ground := .chain }], guard := none },
    { dst := some 56, op := Op.nilCheck (Operand.tmp 44), type := 0, pos := "ref.go:222", after := #[{ on := 0, ground := .data }, { on := 0, ground := .phase }, { on := 1, ground := .phase }, { on := 2, ground := .phase }, { on := 3, ground := .phase }, { on := 4, ground := .phase }, { on := 5, ground := .phase }, { on := 6, ground := .phase }, { on := 7, ground := .phase }, { on := 8, ground := .phase }, { on := 9, ground := .phase }, { on := 10, ground := .phase }, { on := 11, ground := .phase }], guard := none },
    { dst := some 57, op := Op.fieldAddr 65 (Operand.tmp 56) 6, type := 0, pos := "ref.go:222", after := #[{ on := 12, ground := .data }, { on := 0, ground := .phase }, { on := 1, ground := .phase }, { on := 2, ground := .phase }, { on := 3, ground := .phase }, { on := 4, ground := .phase }, { on := 5, ground := .phase }, { on := 6, ground := .phase }, { on := 7, ground := .phase }, { on := 8, ground := .phase }, { on := 9, ground := .phase }, { on := 10, ground := .phase }, { on := 11, ground := .phase }], guard := none },
    { dst := none, op := Op.store 49 (Operand.tmp 57) (Operand.tmp 55), type := 0, pos := "ref.go:222", after := #[{ on := 13, ground := .data }, { on := 11, ground := .data }, { on := 11, ground := .chain }, { on := 0, ground := .phase }, { on := 1, ground := .phase }, { on := 2, ground := .phase }, { on := 3, ground := .phase }, { on := 4, ground := .phase }, { on := 5, ground := .phase }, { on := 6, ground := .phase }, { on := 7, ground := .phase }, { on := 8, ground := .phase }, { on := 9, ground := .phase }, { on := 10, ground := .phase }, { on := 11, ground := .phase }], guard := none }] true).wp Try.prog Q ⟨#[.pointer (some ⟨wb, 0, none⟩), x1, .int .i64 (p : Int), .slice CA cl cc, x4, x5, x6, x7, x8, x9, x10, x11, x12, x13, x14, x15, x16, x17, x18, x19, x20, x21, x22, x23, x24, x25, x26, x27, x28, x29, x30, x31, x32, x33, x34, x35, x36, x37, x38, x39, x40, x41, x42, x43, x44, x45, x46, x47, x48, x49, x50, x51, x52, x53, x54, x55, x56, x57, x58, x59, x60, x61, x62, x63, x64, x65, x66, x67, x68, x69, x70, x71, x72, x73, x74, x75, x76, x77, x78, x79, x80, x81, x82, x83, x84, x85, x86, x87, x88, x89, x90, x91, x92, x93, x94, x95, x96, x97, x98, x99, x100, x101, x102, x103, x104, x105, x106, x107, x108, x109, x110, x111, x112, x113, x114, x115, x116, x117, x118, x119, x120, x121, x122, x123, x124, x125, x126, x127, x128], []⟩ wr := by
  subst hcl
  obtain ⟨i0, hi0, hz0, hz1, hz2⟩ := info_parts pinfo_parse
  have HW := hideP hW
  have HY := hideP hnext
  have HO := hideP hO
  have HC := hideP (show Reads wr.drew SC 1 CA c.length (intv c) from hC)
  clear hW hnext hO hC
  refine Code.wp_mono (QuietQ.imp (G := fun _ _ _ => False) (fun _ _ _ h => h.elim)) ?_
  refine AnyJ.begin 14 (fun w' => w'.cell? ⟨wb, 0 + 6, none⟩ = some (.slice OA n oc)) (by kernel_rfl) (HW.out.cellv hcs) (fun hSS => ?_)
  refine AnyJ.take (i := 0) (oi := { dst := some 44, op := Op.move (Operand.tmp 0), type := 62, pos := "ref.go:222", after := #[], guard := none }) (v := ?v0nh1) ?a0nh1 ?b0nh1 ?c0nh1 ?d0nh1 ?e0nh1 (fun _ _ _ h => h) (Or.inl ⟨?f0nh1, ?y0nh1⟩) (by assumption) ?r0nh1
  case a0nh1 => rfl
  case b0nh1 => kernel_rfl
  case c0nh1 => kernel_rfl
  case d0nh1 => kernel_rfl
  case e0nh1 => kernel_rfl
  case f0nh1 => rfl
  case y0nh1 => (intro w' hSw; (try dsimp only at hSw); go_simp; try with_reducible rfl)
  try simp only [Act.put, List.setIfInBounds_toArray, List.set_cons_zero, List.set_cons_succ]
  refine AnyJ.take (i := 1) (oi := { dst := some 45, op := Op.move (Operand.tmp 0), type := 62, pos := "ref.go:222", after := #[], guard := none }) (v := ?v1nh2) ?a1nh2 ?b1nh2 ?c1nh2 ?d1nh2 ?e1nh2 (fun _ _ _ h => h) (Or.inl ⟨?f1nh2, ?y1nh2⟩) (by assumption) ?r1nh2
  case a1nh2 => rfl
  case b1nh2 => kernel_rfl
  case c1nh2 => kernel_rfl
  case d1nh2 => kernel_rfl
  case e1nh2 => kernel_rfl
  case f1nh2 => rfl
  case y1nh2 => (intro w' hSw; (try dsimp only at hSw); go_simp; try with_reducible rfl)
  try simp only [Act.put, List.setIfInBounds_toArray, List.set_cons_zero, List.set_cons_succ]
  refine AnyJ.take (i := 2) (oi := { dst := some 46, op := Op.nilCheck (Operand.tmp 45), type := 0, pos := "ref.go:222", after := #[{ on := 1, ground := .data }], guard := none }) (v := ?v2nh3) ?a2nh3 ?b2nh3 ?c2nh3 ?d2nh3 ?e2nh3 (fun _ _ _ h => h) (Or.inl ⟨?f2nh3, ?y2nh3⟩) (by assumption) ?r2nh3
  case a2nh3 => rfl
  case b2nh3 => kernel_rfl
  case c2nh3 => kernel_rfl
  case d2nh3 => kernel_rfl
  case e2nh3 => kernel_rfl
  case f2nh3 => rfl
  case y2nh3 => (intro w' hSw; (try dsimp only at hSw); go_simp; try with_reducible rfl)
  try simp only [Act.put, List.setIfInBounds_toArray, List.set_cons_zero, List.set_cons_succ]
  refine AnyJ.take (i := 3) (oi := { dst := some 47, op := Op.fieldAddr 65 (Operand.tmp 46) 6, type := 0, pos := "ref.go:222", after := #[{ on := 2, ground := .data }], guard := none }) (v := ?v3nh4) ?a3nh4 ?b3nh4 ?c3nh4 ?d3nh4 ?e3nh4 (fun _ _ _ h => h) (Or.inl ⟨?f3nh4, ?y3nh4⟩) (by assumption) ?r3nh4
  case a3nh4 => rfl
  case b3nh4 => kernel_rfl
  case c3nh4 => kernel_rfl
  case d3nh4 => kernel_rfl
  case e3nh4 => kernel_rfl
  case f3nh4 => rfl
  case y3nh4 => (intro w' hSw; (try dsimp only at hSw); go_simp; try with_reducible rfl)
  try simp only [Act.put, List.setIfInBounds_toArray, List.set_cons_zero, List.set_cons_succ]
  refine AnyJ.take (i := 4) (oi := { dst := some 48, op := Op.load 49 (Operand.tmp 47), type := 49, pos := "ref.go:222", after := #[{ on := 3, ground := .data }], guard := none }) (v := ?v4nh5) ?a4nh5 ?b4nh5 ?c4nh5 ?d4nh5 ?e4nh5 (fun _ _ _ h => h) (Or.inl ⟨?f4nh5, ?y4nh5⟩) (by assumption) ?r4nh5
  case a4nh5 => rfl
  case b4nh5 => kernel_rfl
  case c4nh5 => kernel_rfl
  case d4nh5 => kernel_rfl
  case e4nh5 => kernel_rfl
  case f4nh5 => rfl
  case y4nh5 => (intro w' hSw; (try dsimp only at hSw); go_simp; try with_reducible rfl)
  try simp only [Act.put, List.setIfInBounds_toArray, List.set_cons_zero, List.set_cons_succ]
  refine AnyJ.take (i := 5) (oi := { dst := some 49, op := Op.move (Operand.tmp 2), type := 3, pos := "ref.go:222", after := #[], guard := none }) (v := ?v5nh6) ?a5nh6 ?b5nh6 ?c5nh6 ?d5nh6 ?e5nh6 (fun _ _ _ h => h) (Or.inl ⟨?f5nh6, ?y5nh6⟩) (by assumption) ?r5nh6
  case a5nh6 => rfl
  case b5nh6 => kernel_rfl
  case c5nh6 => kernel_rfl
  case d5nh6 => kernel_rfl
  case e5nh6 => kernel_rfl
  case f5nh6 => rfl
  case y5nh6 => (intro w' hSw; (try dsimp only at hSw); go_simp; try with_reducible rfl)
  try simp only [Act.put, List.setIfInBounds_toArray, List.set_cons_zero, List.set_cons_succ]
  refine AnyJ.take (i := 6) (oi := { dst := some 50, op := Op.move (Operand.tmp 3), type := 22, pos := "ref.go:222", after := #[], guard := none }) (v := ?v6nh7) ?a6nh7 ?b6nh7 ?c6nh7 ?d6nh7 ?e6nh7 (fun _ _ _ h => h) (Or.inl ⟨?f6nh7, ?y6nh7⟩) (by assumption) ?r6nh7
  case a6nh7 => rfl
  case b6nh7 => kernel_rfl
  case c6nh7 => kernel_rfl
  case d6nh7 => kernel_rfl
  case e6nh7 => kernel_rfl
  case f6nh7 => rfl
  case y6nh7 => (intro w' hSw; (try dsimp only at hSw); go_simp; try with_reducible rfl)
  try simp only [Act.put, List.setIfInBounds_toArray, List.set_cons_zero, List.set_cons_succ]
  refine AnyJ.take (i := 7) (oi := { dst := some 51, op := Op.move (Operand.tmp 2), type := 3, pos := "ref.go:222", after := #[], guard := none }) (v := ?v7nh8) ?a7nh8 ?b7nh8 ?c7nh8 ?d7nh8 ?e7nh8 (fun _ _ _ h => h) (Or.inl ⟨?f7nh8, ?y7nh8⟩) (by assumption) ?r7nh8
  case a7nh8 => rfl
  case b7nh8 => kernel_rfl
  case c7nh8 => kernel_rfl
  case d7nh8 => kernel_rfl
  case e7nh8 => kernel_rfl
  case f7nh8 => rfl
  case y7nh8 => (intro w' hSw; (try dsimp only at hSw); go_simp; try with_reducible rfl)
  try simp only [Act.put, List.setIfInBounds_toArray, List.set_cons_zero, List.set_cons_succ]
  refine AnyJ.one (i := 8) (o := { dst := some 52, op := Op.call { callee := Callee.value (Operand.func 41), args := #[Operand.tmp 50, Operand.const (Value.int IntKind.i64 1), Operand.tmp 51], argTypes := #[22, 3, 3] }, type := 22, pos := "ref.go:222", after := #[{ on := 6, ground := .data }, { on := 7, ground := .data }], guard := none }) ?ph9 ?qh9 ?_
  case ph9 => kernel_rfl
  case qh9 => rfl
  intro K' hK
  go_simp
  refine (noted_any wr.drew SC CA cc c 1 (p : Int) HC.out hc1 (by omega)).mono ?_
  rintro e wq ⟨g, cap, rfl, hg, hO, hU⟩
  have hUq := ((Upd.refl Nob wr).drew).trans hU (fun _ _ h => h)
  have X8 := HW.out.upd hUq not_nob
  refine hK.out _ _ (.inr (X8.cellv hcs)) ?_; clear hK K'
  try simp only [Act.put, List.setIfInBounds_toArray, List.set_cons_zero, List.set_cons_succ]
  have hs9 : wq.cell? ⟨wb, 0 + 6, none⟩ = some (.slice OA n oc) := X8.cellv hcs
  refine AnyJ.take (i := 9) (oi := { dst := some 53, op := Op.build 53 #[(0, Operand.tmp 49), (1, Operand.tmp 52)], type := 53, pos := "ref.go:222", after := #[{ on := 5, ground := .data }, { on := 8, ground := .data }], guard := none }) (v := ?v9nh10) ?a9nh10 ?b9nh10 ?c9nh10 ?d9nh10 ?e9nh10 (fun _ _ _ h => h) (Or.inl ⟨?f9nh10, ?y9nh10⟩) (by assumption) ?r9nh10
  case a9nh10 => rfl
  case b9nh10 => kernel_rfl
  case c9nh10 => kernel_rfl
  case d9nh10 => kernel_rfl
  case e9nh10 => kernel_rfl
  case f9nh10 => rfl
  case y9nh10 => (intro w' hSw; (try dsimp only at hSw); go_simp; try with_reducible rfl)
  try simp only [Act.put, List.setIfInBounds_toArray, List.set_cons_zero, List.set_cons_succ]
  refine AnyJ.one (i := 10) (o := { dst := some 54, op := Op.buildSlice 49 1 #[(0, Operand.tmp 53)], type := 49, pos := "ref.go:222", after := #[{ on := 9, ground := .data }], guard := none }) ?ph11 ?qh11 ?_
  case ph11 => kernel_rfl
  case qh11 => rfl
  intro K' hK
  go_simp
  have U9 := hUq.alloc (.cells #[.int .i64 (p : Int), .slice (some ⟨g, 0, none⟩) c.length cap] 53)
  have X9 := HW.out.upd U9 not_nob
  have hs8 := hUq.size
  refine hK.out _ _ (.inr (X9.cellv hcs)) ?_; clear hK K'
  try simp only [Act.put, List.setIfInBounds_toArray, List.set_cons_zero, List.set_cons_succ]
  refine AnyJ.one (i := 11) (o := { dst := some 55, op := Op.call { callee := Callee.builtin Builtin.append, args := #[Operand.tmp 48, Operand.tmp 54], argTypes := #[49, 49] }, type := 49, pos := "ref.go:222", after := #[{ on := 4, ground := .data }, { on := 10, ground := .data }, { on := 8, ground := .chain }], guard := none }) ?ph12 ?qh12 ?_
  case ph12 => kernel_rfl
  case qh12 => rfl
  intro K' hK
  have P9 := own_upd HO.out U9 (fun _ _ => not_nob)
  have O9 := own_upd hO ((Upd.refl Nob wq).alloc (.cells #[.int .i64 (p : Int), .slice (some ⟨g, 0, none⟩) c.length cap] 53)) (fun _ _ => not_nob)
  refine step_append_lies _ rfl (.tmp 48) (.tmp 54) 49 rfl base 53 i0 _ 2 32 Try.underlying49 hi0 hz0 hz1 hz2 rfl (by decide) (.slice OA n oc) n fl (by rfl) P9 ⟨wq.heap.size, 0, none⟩ 1 1 [.int .i64 (p : Int), .slice (some ⟨g, 0, none⟩) c.length cap] (by rfl) (by rfl) (World.news_of_block (cs := #[.int .i64 (p : Int), .slice (some ⟨g, 0, none⟩) c.length cap]) (t := 53) (fr := (0, 0)) (heap_alloc_new wq _)) (by intro u hu; simp at hu; rcases hu with rfl | rfl <;> rfl) (by decide) (by unfold maxLen; omega) (by omega) (by simp; omega) (wq.heap.size + 1) (by simp) ?_
  intro gN cN wN oN gr hat hltN
  have UB := (Upd.refl (fun b => (Value.slice OA n oc).ownBlock = some b) (wq.alloc (.cells #[.int .i64 (p : Int), .slice (some ⟨g, 0, none⟩) c.length cap] 53))).grown gr (fun b hb _ => hb)
  have XN := X9.upd UB (own_ne P9 X9 (by decide))
  have ON := own_upd O9 UB (fun b hb hb2 => own_apart O9 P9 (by decide) hb hb2)
  refine hK.out _ _ (.inr (XN.cellv hcs)) ?_; clear hK K'
  try simp only [Act.put, List.setIfInBounds_toArray, List.set_cons_zero, List.set_cons_succ]
  have x4 : wN.cell? ⟨wb, 0 + 6, none⟩ = some (.slice OA n oc) := XN.cellv hcs
  have z4 : wN.frozen? ⟨wb, 0 + 6, none⟩ = false := XN.frozen _
  refine AnyJ.one (i := 12) (o := { dst := some 56, op := Op.nilCheck (Operand.tmp 44), type := 0, pos := "ref.go:222", after := #[{ on := 0, ground := .data }, { on := 0, ground := .phase }, { on := 1, ground := .phase }, { on := 2, ground := .phase }, { on := 3, ground := .phase }, { on := 4, ground := .phase }, { on := 5, ground := .phase }, { on := 6, ground := .phase }, { on := 7, ground := .phase }, { on := 8, ground := .phase }, { on := 9, ground := .phase }, { on := 10, ground := .phase }, { on := 11, ground := .phase }], guard := none }) ?ph13 ?qh13 ?_
  case ph13 => kernel_rfl
  case qh13 => rfl
  intro K' hK
  go_simp
  refine hK.out _ _ (.inr x4) ?_; clear hK K'
  try simp only [Act.put, List.setIfInBounds_toArray, List.set_cons_zero, List.set_cons_succ]
  refine AnyJ.take (i := 13) (oi := { dst := some 57, op := Op.fieldAddr 65 (Operand.tmp 56) 6, type := 0, pos := "ref.go:222", after := #[{ on := 12, ground := .data }, { on := 0, ground := .phase }, { on := 1, ground := .phase }, { on := 2, ground := .phase }, { on := 3, ground := .phase }, { on := 4, ground := .phase }, { on := 5, ground := .phase }, { on := 6, ground := .phase }, { on := 7, ground := .phase }, { on := 8, ground := .phase }, { on := 9, ground := .phase }, { on := 10, ground := .phase }, { on := 11, ground := .phase }], guard := none }) (v := ?v13nh14) ?a13nh14 ?b13nh14 ?c13nh14 ?d13nh14 ?e13nh14 (fun _ _ _ h => h) (Or.inl ⟨?f13nh14, ?y13nh14⟩) (by assumption) ?r13nh14
  case a13nh14 => rfl
  case b13nh14 => kernel_rfl
  case c13nh14 => kernel_rfl
  case d13nh14 => kernel_rfl
  case e13nh14 => kernel_rfl
  case f13nh14 => rfl
  case y13nh14 => (intro w' hSw; (try dsimp only at hSw); go_simp; try with_reducible rfl)
  try simp only [Act.put, List.setIfInBounds_toArray, List.set_cons_zero, List.set_cons_succ]
  refine AnyJ.one (i := 14) (o := { dst := none, op := Op.store 49 (Operand.tmp 57) (Operand.tmp 55), type := 0, pos := "ref.go:222", after := #[{ on := 13, ground := .data }, { on := 11, ground := .data }, { on := 11, ground := .chain }, { on := 0, ground := .phase }, { on := 1, ground := .phase }, { on := 2, ground := .phase }, { on := 3, ground := .phase }, { on := 4, ground := .phase }, { on := 5, ground := .phase }, { on := 6, ground := .phase }, { on := 7, ground := .phase }, { on := 8, ground := .phase }, { on := 9, ground := .phase }, { on := 10, ground := .phase }, { on := 11, ground := .phase }], guard := none }) ?ph15 ?qh15 ?_
  case ph15 => kernel_rfl
  case qh15 => rfl
  intro K' hK
  go_simp
  refine hK.out _ _ (.inl rfl) ?_; clear hK K'
  refine AnyJ.done ?_ ?_ _
  · kernel_rfl
  exact HY.out _ _ _ _ _ _ _ _ _ _ _ _ _ _ wq wN gN cN g cap hUq hg U9 P9 O9 gr hat hltN XN ON oN
end Go.Proofs.Ytlaofcgllchedaa

/-
  The walk of heronref06's behind, by what stands above. Printed by tools/mkBehind2.py.
-/
namespace Go.Proofs.Ytlaofcgllchedaa
open Go.RowKit
set_option linter.unusedVariables false

theorem noted_hcon {F : Fx} {S : Nat → Prop} {p kk : Nat} {c : List Int} {s s' : WSt} {wa wq : World} {OA : Option Addr} {oc g cap m : Nat} (hk : Tk F S c.length) (hR : Rd F S wa) (hW : WkR F wa s OA oc) (hU : Upd Nob wa wq) (hg : wa.heap.size ≤ g)
    (hO : wq.ownsRow wa.heap.size 3 1 (.slice (some ⟨g, 0, none⟩) c.length cap) c.length (intv (c.set kk (p : Int)))) (hm : m < F.l.length) (hp : p ≤ F.xs.length) (hcon : Con F S c.length 37 m p (c.set kk (p : Int)) s s') :
    Calls Try.prog 37 #[.pointer (some ⟨F.wb, 0, none⟩), .int .i64 (m : Int), .int .i64 (p : Int), .slice (some ⟨g, 0, none⟩) c.length cap] wq (Ans F wq s' OA) := by
  have hb2 := hR.base
  have hno : ¬ OA.map (·.block) = some g := fun hm => by
    have := (hW.out.lo hm).2
    omega
  refine hcon hm hp (by rw [List.length_set]) wq OA oc (some ⟨g, 0, none⟩) cap (hR.upd hU (fun _ _ => not_nob)) (hW.upd hU) ?_
  have := Reads.of_own hO
  refine Reads.weaken (by rw [List.length_set]; exact this) (fun b hb => ?_)
  have e : b = g := by simp [Value.ownBlock] at hb; exact hb.symm
  subst e
  exact ⟨fun hm => by have := hk.dis.lt _ hm; omega, hno⟩
theorem behind_done {F : Fx} {S : Nat → Prop} {n p cl L : Nat} {c : List Int} {s : WSt} {w w1 w2 wq wN : World} {OA : Option Addr} {oc gN cN g2 cap2 : Nat} {gs : List (Nat × Nat)} {C : Obj} (hL : c.length = L) (hk : Tk F S cl) (hn : n < F.l.length) (hp : p ≤ F.xs.length) (hW : WkR F w s OA oc) (hU1 : Upd (fun b => b = F.eb) w w1)
    (hE1 : Cells w1 F.eb 4 (rowC (mark1 s.en p) (F.xs.length + 1))) (hU2 : Upd Nob w1 w2) (hUq : Upd Nob w2 wq) (U9 : Upd Nob w2 (wq.alloc C)) (gr : (wq.alloc C).grownBy wN (Value.slice OA s.out.length oc).ownBlock)
    (hat : (Value.slice OA s.out.length oc).ownBlock = some gN ∨ gN = wq.heap.size + 1)
    (XN : Cells wN F.wb 65 #[.pointer (some ⟨F.tb, 0, none⟩), .slice F.TA F.xs.length F.tc, .int .i64 (F.at_ : Nat), .slice (some ⟨F.bo, 0, none⟩) F.l.length F.bc, .slice (some ⟨F.dk, 0, none⟩) F.l.length F.dkc, .slice (some ⟨F.eb, 0, none⟩) (F.xs.length + 1) F.ec, .slice OA s.out.length oc])
    (ON : wN.ownsRow w2.heap.size 3 1 (.slice (some ⟨g2, 0, none⟩) L cap2) L (intv c)) (oN : wN.ownsRow F.base 53 2 (.slice (some ⟨gN, 0, none⟩) (s.out.length + 1) cN) (s.out.length + 1) (flatO s.out gs ++ [.int .i64 (p : Int), .slice (some ⟨g2, 0, none⟩) L cap2]))
    (hgl : gs.length = s.out.length) (hOc : ∀ (i p : Nat) (c : List Int) (g k : Nat), s.out[i]? = some (p, c) → gs[i]? = some (g, k) → w.ownsRow F.base 3 1 (.slice (some ⟨g, 0, none⟩) c.length k) c.length (intv c)) (hO : w.ownsRow F.base 53 2 (.slice OA s.out.length oc) s.out.length (flatO s.out gs)) (hb : F.base ≤ w.heap.size)
    (hcn : s.out.length + 1 = cntE (F.xs.length + 1) (mark1 s.en p)) :
    Ans F w { s with en := mark1 s.en p, out := s.out ++ [(p, c)] } OA (.returned (.tuple #[])) (wN.setCell ⟨F.wb, 0 + 6, none⟩ (.slice (some ⟨gN, 0, none⟩) (s.out.length + 1) cN)) := by
  subst hL
  have hebl := hk.dis.lt F.eb (.inr (.inl rfl))
  have hwbl := hk.dis.lt F.wb (.inl rfl)
  have hs := hU1.size
  have hs2 := hU2.size
  have hsq := hUq.size
  have hV : Upd (fun b => (Value.slice OA s.out.length oc).ownBlock = some b) w1 wN := ((hU2.trans U9 (fun _ _ h => h)).mono (fun _ _ h => absurd h not_nob)).grown gr (fun b hb _ => hb)
  have hoa : ∀ b, (Value.slice OA s.out.length oc).ownBlock = some b ↔ OA.map (·.block) = some b := fun b => by cases OA <;> simp [Value.ownBlock]
  have hA : Upd (fun b => b = F.eb ∨ OA.map (·.block) = some b) w wN := (hU1.mono (fun _ _ h => .inl h)).trans (hV.mono (fun b _ h => .inr ((hoa b).1 h))) (fun _ _ h => h)
  have hlo := hW.lo
  have hne : ∀ {b : Nat} {t : TypeId} {cs : Array Value}, Cells w b t cs → 53 ≠ t → b ≠ F.eb → ¬ (b = F.eb ∨ OA.map (·.block) = some b) := fun hc ht he h => by
    rcases h with h | h
    · exact he h
    · exact hW.out.ne_ hc ht h
  have hwm : ∀ {b : Nat}, b ≠ F.wb → ¬ (b = F.wb) := fun h => h
  obtain ⟨wF, hwF⟩ : ∃ wF, wN.setCell ⟨F.wb, 0 + 6, none⟩ (.slice (some ⟨gN, 0, none⟩) (s.out.length + 1) cN) = wF := ⟨_, rfl⟩
  have hF : Upd (fun b => b = F.wb) wN wF := by rw [← hwF]; exact (Upd.refl (fun b => b = F.wb) wN).setCell _ _ (fun _ => rfl)
  have hwk : Cells wF F.wb 65 #[.pointer (some ⟨F.tb, 0, none⟩), .slice F.TA F.xs.length F.tc, .int .i64 (F.at_ : Nat), .slice (some ⟨F.bo, 0, none⟩) F.l.length F.bc, .slice (some ⟨F.dk, 0, none⟩) F.l.length F.dkc, .slice (some ⟨F.eb, 0, none⟩) (F.xs.length + 1) F.ec, .slice (some ⟨gN, 0, none⟩) (s.out.length + 1) cN] := by
    rw [← hwF]
    exact XN.set_ 6 _
  rw [hwF]
  refine ⟨rfl, some ⟨gN, 0, none⟩, cN, ⟨⟨?_, fun i hi => ?_, fun i hi => ?_, ?_, ?_, ?_⟩, ?_, ?_⟩⟩
  · simp only [List.length_append, List.length_singleton]
    exact hwk
  · exact ((hW.bg i hi).upd hA (hne (hW.bg i hi) (by decide) (hk.dis.be i hi))).upd hF (Cells.ne_ (hW.bg i hi) hW.wk (by decide))
  · exact ((hW.dc i hi).upd hA (hne (hW.dc i hi) (by decide) (hk.dis.de i hi))).upd hF (Cells.ne_ (hW.dc i hi) hW.wk (by decide))
  · refine (hE1.upd hV (fun h => ?_)).upd hF (Cells.ne_ hW.en hW.wk (by decide))
    have := hlo _ ((hoa _).1 h)
    omega
  · refine ⟨gs ++ [(g2, cap2)], by simp [hgl], ?_, fun i q d g k hi hg => ?_⟩
    · rw [flatO_append _ _ _ _ _ _ hgl]
      simp only [List.length_append, List.length_singleton]
      exact own_upd oN hF (fun b hb e => by have := wk_lo oN hb; omega)
    · by_cases hil : i < s.out.length
      · rw [List.getElem?_append_left hil] at hi
        rw [List.getElem?_append_left (by omega)] at hg
        have h1 := hOc i q d g k hi hg
        have h2 := own_upd h1 hA (fun b hb e => by
          rcases e with e | e
          · have := wk_lo h1 hb; omega
          · exact own_apart hO h1 (by decide) ((hoa _).2 e) hb)
        exact own_upd h2 hF (fun b hb e => by have := wk_lo h2 hb; omega)
      · have hi1 : i = s.out.length := by
          have := (List.getElem?_eq_some_iff.1 hi).1
          simp at this
          omega
        subst hi1
        rw [List.getElem?_append_right (by omega)] at hi hg
        simp [hgl] at hi hg
        obtain ⟨rfl, rfl⟩ := hi
        obtain ⟨rfl, rfl⟩ := hg
        have h2 := own_base (base' := F.base) ON (fun g hg => by have := wk_lo ON hg; omega)
        exact own_upd h2 hF (fun b hb e => by have := wk_lo h2 hb; omega)
  · simp only [List.length_append, List.length_singleton]
    exact hcn
  · refine (hA.mono (fun b _ h => ?_)).trans (hF.mono (fun b _ h => .inl (.inl h))) (fun _ _ h => h)
    rcases h with h | h
    · exact .inl (.inr (.inl h))
    · exact .inr h
  · rcases hat with h | h
    · exact .inl (by rw [(hoa _).1 h]; rfl)
    · refine .inr (fun b hb => ?_)
      have : gN = b := by simpa using hb
      omega
set_option maxRecDepth 100000 in
set_option maxHeartbeats 4000000 in
theorem behind_4 {F : Fx} {S : Nat → Prop} {cl n p m : Nat} {c : List Int} {s s' : WSt} {x y : PN} (hk : Tk F S cl) (hx : F.l[n]? = some x) (hu : x.up = (m : Int)) (hy : F.l[m]? = some y) (hkd : y.kind = 4) (hlt : x.nth.toNat + 1 < y.subs.length) (hcon : Con F S cl 28 (y.subs.getD (x.nth.toNat + 1) 0) p c s s') : Con F S cl 37 n p c s s' := by
  intro hn hp hc w OA oc CA cc hR hW hC
  obtain ⟨RB, rb, SB, sb, -, -, -, -, -, -, u6, u7, -, -, -, -⟩ := node_cells (hR.node n x hx)
  rw [hu] at u6
  obtain ⟨k, hk7⟩ : ∃ k : Nat, x.nth = (k : Int) := ⟨x.nth.toNat, by have := (hk.nth n x hx).1; omega⟩
  have hk8 : k ≤ 1000000 := by have := (hk.nth n x hx).2.1; omega
  have hk9 : x.nth.toNat = k := by omega
  rw [hk7] at u7
  have hmn : m < F.l.length := (List.getElem?_eq_some_iff.1 hy).1
  obtain ⟨RA, rc, SA, sc, q0, q1, q2, q3, q4, q5, q6, q7, hrs, hsub, hin, hin2⟩ := node_cells (hR.node m y hy)
  have m0 := hW.wk.cellv (i := 0) rfl
  have t0 := hR.tab.cellv (i := 0) rfl
  have g0 : ¬ (m : Int) < 0 := by omega
  have g1 : (n : Int) < (F.l.length : Int) := by omega
  have g2 : (m : Int) < (F.l.length : Int) := by omega
  have hAl : Upd Nob w (w.alloc (.cells (pnCells y RA rc SA sc) 77)) := (Upd.refl Nob w).alloc _
  have HX := hideP (Cells.new w 77 (pnCells y RA rc SA sc))
  have HR := hideP (hR.upd hAl (fun _ _ => not_nob))
  have HN := hideP (Nx.of_upd hW hAl)
  have HC := hideP (hC.nx (Nx.of_upd hW hAl))
  have HSUB := hideP (hsub.upd hAl (fun _ _ => not_nob))
  have HU7 := hideP ((hAl.cell (p := ⟨F.tg, n * 8 + 7, none⟩) (hR.lt _ hR.stg) not_nob).trans u7)
  have HKD := hideP hkd
  obtain ⟨k1, hk1⟩ : ∃ k1, k + 1 = k1 := ⟨_, rfl⟩
  have hwn : IntKind.i64.wrap ((k : Int) + 1) = (k1 : Int) := by rw [IntKind.wrap_i64]; omega
  rw [hk9, hk1] at hlt hcon
  clear hR hW hC hsub hrs hkd hu hk7
  go_enter Try.func37, Try.ntmps37
  go_upto_region 7 with fail
  change Code.wp _ _ _ _ (w.alloc (.cells (pnCells y RA rc SA sc) 77))
  generalize w.alloc (.cells (pnCells y RA rc SA sc) 77) = wa at *
  clear m0 t0 q0 q1 q2 q3 q4 q5 q6 q7 u6 u7
  generalize w.heap.size = xb at *
  have m0 := HN.out.wk.wk.cellv (i := 0) rfl
  have t0 := HR.out.tab.cellv (i := 0) rfl
  have u7 := HU7.out
  have y0 := HX.out.cellv (i := 0) (v := .int .i64 4) (by rw [← HKD.out]; rfl)
  have y4 := HX.out.cellv (i := 0 + 4) (v := .slice SA y.subs.length sc) rfl
  obtain ⟨ad, hSA, hadb, hadS, hcell⟩ := HSUB.out.2 (by omega)
  have z0 := hcell k1 (.int .i64 ((y.subs.getD k1 0 : Nat) : Int)) (by simp [intv, hlt])
  rw [hSA] at y4
  have hsl : y.subs.getD k1 0 < F.l.length := hk.sub m y hy _ (by rw [List.getD_eq_getElem?_getD, List.getElem?_eq_getElem hlt]; exact List.getElem_mem hlt)
  have g3 : (k1 : Int) < (y.subs.length : Int) := by omega
  generalize y.subs.getD k1 0 = mm at *
  clear hcell hSA
  go_wp2_with (go_at_call 28; refine (hcon hsl hp hc wa OA oc CA cc HR.out HN.out.wk HC.out).mono ?_; rintro e wb ⟨rfl, OA1, oc1, hX1⟩)
  first | (go_end0; exact ⟨rfl, OA1, oc1, HN.out.trans hX1⟩) | (try simp only [Exit.inBlock, Exit.then]; refine bodyPost_ret (results_none rfl _ _ _) rfl ?_; exact ⟨rfl, OA1, oc1, HN.out.trans hX1⟩)
set_option maxRecDepth 100000 in
set_option maxHeartbeats 4000000 in
theorem behind_4e {F : Fx} {S : Nat → Prop} {cl n p m : Nat} {c : List Int} {s s' : WSt} {x y : PN} (hk : Tk F S cl) (hx : F.l[n]? = some x) (hu : x.up = (m : Int)) (hy : F.l[m]? = some y) (hkd : y.kind = 4) (hlt : ¬ x.nth.toNat + 1 < y.subs.length) (hcon : Con F S cl 37 m p c s s') : Con F S cl 37 n p c s s' := by
  intro hn hp hc w OA oc CA cc hR hW hC
  obtain ⟨RB, rb, SB, sb, -, -, -, -, -, -, u6, u7, -, -, -, -⟩ := node_cells (hR.node n x hx)
  rw [hu] at u6
  obtain ⟨k, hk7⟩ : ∃ k : Nat, x.nth = (k : Int) := ⟨x.nth.toNat, by have := (hk.nth n x hx).1; omega⟩
  have hk8 : k ≤ 1000000 := by have := (hk.nth n x hx).2.1; omega
  have hk9 : x.nth.toNat = k := by omega
  rw [hk7] at u7
  have hmn : m < F.l.length := (List.getElem?_eq_some_iff.1 hy).1
  obtain ⟨RA, rc, SA, sc, q0, q1, q2, q3, q4, q5, q6, q7, hrs, hsub, hin, hin2⟩ := node_cells (hR.node m y hy)
  have m0 := hW.wk.cellv (i := 0) rfl
  have t0 := hR.tab.cellv (i := 0) rfl
  have g0 : ¬ (m : Int) < 0 := by omega
  have g1 : (n : Int) < (F.l.length : Int) := by omega
  have g2 : (m : Int) < (F.l.length : Int) := by omega
  have hAl : Upd Nob w (w.alloc (.cells (pnCells y RA rc SA sc) 77)) := (Upd.refl Nob w).alloc _
  have HX := hideP (Cells.new w 77 (pnCells y RA rc SA sc))
  have HR := hideP (hR.upd hAl (fun _ _ => not_nob))
  have HN := hideP (Nx.of_upd hW hAl)
  have HC := hideP (hC.nx (Nx.of_upd hW hAl))
  have HSUB := hideP (hsub.upd hAl (fun _ _ => not_nob))
  have HU7 := hideP ((hAl.cell (p := ⟨F.tg, n * 8 + 7, none⟩) (hR.lt _ hR.stg) not_nob).trans u7)
  have HKD := hideP hkd
  obtain ⟨k1, hk1⟩ : ∃ k1, k + 1 = k1 := ⟨_, rfl⟩
  have hwn : IntKind.i64.wrap ((k : Int) + 1) = (k1 : Int) := by rw [IntKind.wrap_i64]; omega
  rw [hk9, hk1] at hlt
  clear hR hW hC hsub hrs hkd hu hk7
  go_enter Try.func37, Try.ntmps37
  go_upto_region 7 with fail
  change Code.wp _ _ _ _ (w.alloc (.cells (pnCells y RA rc SA sc) 77))
  generalize w.alloc (.cells (pnCells y RA rc SA sc) 77) = wa at *
  clear m0 t0 q0 q1 q2 q3 q4 q5 q6 q7 u6 u7
  generalize w.heap.size = xb at *
  have m0 := HN.out.wk.wk.cellv (i := 0) rfl
  have t0 := HR.out.tab.cellv (i := 0) rfl
  have u7 := HU7.out
  have y0 := HX.out.cellv (i := 0) (v := .int .i64 4) (by rw [← HKD.out]; rfl)
  have y4 := HX.out.cellv (i := 0 + 4) (v := .slice SA y.subs.length sc) rfl
  have g3 : ¬ (k1 : Int) < (y.subs.length : Int) := by omega
  go_wp2_with (go_at_call 37; refine (hcon hmn hp hc wa OA oc CA cc HR.out HN.out.wk HC.out).mono ?_; rintro e wb ⟨rfl, OA1, oc1, hX1⟩)
  first | (go_end0; exact ⟨rfl, OA1, oc1, HN.out.trans hX1⟩) | (try simp only [Exit.inBlock, Exit.then]; refine bodyPost_ret (results_none rfl _ _ _) rfl ?_; exact ⟨rfl, OA1, oc1, HN.out.trans hX1⟩)
set_option maxRecDepth 100000 in
set_option maxHeartbeats 4000000 in
theorem behind_101 {F : Fx} {S : Nat → Prop} {cl n p m : Nat} {c : List Int} {s s' : WSt} {x y : PN} (hk : Tk F S cl) (hx : F.l[n]? = some x) (hu : x.up = (m : Int)) (hy : F.l[m]? = some y) (hkd : y.kind = 101) (hcon : Con F S cl 43 m p c s s') : Con F S cl 37 n p c s s' := by
  intro hn hp hc w OA oc CA cc hR hW hC
  obtain ⟨RB, rb, SB, sb, -, -, -, -, -, -, u6, u7, -, -, -, -⟩ := node_cells (hR.node n x hx)
  rw [hu] at u6
  obtain ⟨k, hk7⟩ : ∃ k : Nat, x.nth = (k : Int) := ⟨x.nth.toNat, by have := (hk.nth n x hx).1; omega⟩
  have hk8 : k ≤ 1000000 := by have := (hk.nth n x hx).2.1; omega
  have hk9 : x.nth.toNat = k := by omega
  rw [hk7] at u7
  have hmn : m < F.l.length := (List.getElem?_eq_some_iff.1 hy).1
  obtain ⟨RA, rc, SA, sc, q0, q1, q2, q3, q4, q5, q6, q7, hrs, hsub, hin, hin2⟩ := node_cells (hR.node m y hy)
  have m0 := hW.wk.cellv (i := 0) rfl
  have t0 := hR.tab.cellv (i := 0) rfl
  have g0 : ¬ (m : Int) < 0 := by omega
  have g1 : (n : Int) < (F.l.length : Int) := by omega
  have g2 : (m : Int) < (F.l.length : Int) := by omega
  have hAl : Upd Nob w (w.alloc (.cells (pnCells y RA rc SA sc) 77)) := (Upd.refl Nob w).alloc _
  have HX := hideP (Cells.new w 77 (pnCells y RA rc SA sc))
  have HR := hideP (hR.upd hAl (fun _ _ => not_nob))
  have HN := hideP (Nx.of_upd hW hAl)
  have HC := hideP (hC.nx (Nx.of_upd hW hAl))
  have HSUB := hideP (hsub.upd hAl (fun _ _ => not_nob))
  have HU7 := hideP ((hAl.cell (p := ⟨F.tg, n * 8 + 7, none⟩) (hR.lt _ hR.stg) not_nob).trans u7)
  have HKD := hideP hkd
  obtain ⟨k1, hk1⟩ : ∃ k1, k + 1 = k1 := ⟨_, rfl⟩
  have hwn : IntKind.i64.wrap ((k : Int) + 1) = (k1 : Int) := by rw [IntKind.wrap_i64]; omega
  clear hR hW hC hsub hrs hkd hu hk7
  go_enter Try.func37, Try.ntmps37
  go_upto_region 7 with fail
  change Code.wp _ _ _ _ (w.alloc (.cells (pnCells y RA rc SA sc) 77))
  generalize w.alloc (.cells (pnCells y RA rc SA sc) 77) = wa at *
  clear m0 t0 q0 q1 q2 q3 q4 q5 q6 q7 u6 u7
  generalize w.heap.size = xb at *
  have m0 := HN.out.wk.wk.cellv (i := 0) rfl
  have t0 := HR.out.tab.cellv (i := 0) rfl
  have u7 := HU7.out
  have y0 := HX.out.cellv (i := 0) (v := .int .i64 101) (by rw [← HKD.out]; rfl)
  go_wp2_with (go_at_call 43; refine (hcon hmn hp hc wa OA oc CA cc HR.out HN.out.wk HC.out).mono ?_; rintro e wb ⟨rfl, OA1, oc1, hX1⟩)
  first | (go_end0; exact ⟨rfl, OA1, oc1, HN.out.trans hX1⟩) | (try simp only [Exit.inBlock, Exit.then]; refine bodyPost_ret (results_none rfl _ _ _) rfl ?_; exact ⟨rfl, OA1, oc1, HN.out.trans hX1⟩)
set_option maxRecDepth 100000 in
set_option maxHeartbeats 4000000 in
theorem behind_102 {F : Fx} {S : Nat → Prop} {cl n p m : Nat} {c : List Int} {s s' : WSt} {x y : PN} (hk : Tk F S cl) (hx : F.l[n]? = some x) (hu : x.up = (m : Int)) (hy : F.l[m]? = some y) (hkd : y.kind = 102) (hcon : Con F S cl 43 m p c s s') : Con F S cl 37 n p c s s' := by
  intro hn hp hc w OA oc CA cc hR hW hC
  obtain ⟨RB, rb, SB, sb, -, -, -, -, -, -, u6, u7, -, -, -, -⟩ := node_cells (hR.node n x hx)
  rw [hu] at u6
  obtain ⟨k, hk7⟩ : ∃ k : Nat, x.nth = (k : Int) := ⟨x.nth.toNat, by have := (hk.nth n x hx).1; omega⟩
  have hk8 : k ≤ 1000000 := by have := (hk.nth n x hx).2.1; omega
  have hk9 : x.nth.toNat = k := by omega
  rw [hk7] at u7
  have hmn : m < F.l.length := (List.getElem?_eq_some_iff.1 hy).1
  obtain ⟨RA, rc, SA, sc, q0, q1, q2, q3, q4, q5, q6, q7, hrs, hsub, hin, hin2⟩ := node_cells (hR.node m y hy)
  have m0 := hW.wk.cellv (i := 0) rfl
  have t0 := hR.tab.cellv (i := 0) rfl
  have g0 : ¬ (m : Int) < 0 := by omega
  have g1 : (n : Int) < (F.l.length : Int) := by omega
  have g2 : (m : Int) < (F.l.length : Int) := by omega
  have hAl : Upd Nob w (w.alloc (.cells (pnCells y RA rc SA sc) 77)) := (Upd.refl Nob w).alloc _
  have HX := hideP (Cells.new w 77 (pnCells y RA rc SA sc))
  have HR := hideP (hR.upd hAl (fun _ _ => not_nob))
  have HN := hideP (Nx.of_upd hW hAl)
  have HC := hideP (hC.nx (Nx.of_upd hW hAl))
  have HSUB := hideP (hsub.upd hAl (fun _ _ => not_nob))
  have HU7 := hideP ((hAl.cell (p := ⟨F.tg, n * 8 + 7, none⟩) (hR.lt _ hR.stg) not_nob).trans u7)
  have HKD := hideP hkd
  obtain ⟨k1, hk1⟩ : ∃ k1, k + 1 = k1 := ⟨_, rfl⟩
  have hwn : IntKind.i64.wrap ((k : Int) + 1) = (k1 : Int) := by rw [IntKind.wrap_i64]; omega
  clear hR hW hC hsub hrs hkd hu hk7
  go_enter Try.func37, Try.ntmps37
  go_upto_region 7 with fail
  change Code.wp _ _ _ _ (w.alloc (.cells (pnCells y RA rc SA sc) 77))
  generalize w.alloc (.cells (pnCells y RA rc SA sc) 77) = wa at *
  clear m0 t0 q0 q1 q2 q3 q4 q5 q6 q7 u6 u7
  generalize w.heap.size = xb at *
  have m0 := HN.out.wk.wk.cellv (i := 0) rfl
  have t0 := HR.out.tab.cellv (i := 0) rfl
  have u7 := HU7.out
  have y0 := HX.out.cellv (i := 0) (v := .int .i64 102) (by rw [← HKD.out]; rfl)
  go_wp2_with (go_at_call 43; refine (hcon hmn hp hc wa OA oc CA cc HR.out HN.out.wk HC.out).mono ?_; rintro e wb ⟨rfl, OA1, oc1, hX1⟩)
  first | (go_end0; exact ⟨rfl, OA1, oc1, HN.out.trans hX1⟩) | (try simp only [Exit.inBlock, Exit.then]; refine bodyPost_ret (results_none rfl _ _ _) rfl ?_; exact ⟨rfl, OA1, oc1, HN.out.trans hX1⟩)
set_option maxRecDepth 100000 in
set_option maxHeartbeats 4000000 in
theorem behind_5 {F : Fx} {S : Nat → Prop} {cl n p m : Nat} {c : List Int} {s s' : WSt} {x y : PN} (hk : Tk F S cl) (hx : F.l[n]? = some x) (hu : x.up = (m : Int)) (hy : F.l[m]? = some y) (hkd : y.kind = 5) (hcon : Con F S cl 37 m p c s s') : Con F S cl 37 n p c s s' := by
  intro hn hp hc w OA oc CA cc hR hW hC
  obtain ⟨RB, rb, SB, sb, -, -, -, -, -, -, u6, u7, -, -, -, -⟩ := node_cells (hR.node n x hx)
  rw [hu] at u6
  obtain ⟨k, hk7⟩ : ∃ k : Nat, x.nth = (k : Int) := ⟨x.nth.toNat, by have := (hk.nth n x hx).1; omega⟩
  have hk8 : k ≤ 1000000 := by have := (hk.nth n x hx).2.1; omega
  have hk9 : x.nth.toNat = k := by omega
  rw [hk7] at u7
  have hmn : m < F.l.length := (List.getElem?_eq_some_iff.1 hy).1
  obtain ⟨RA, rc, SA, sc, q0, q1, q2, q3, q4, q5, q6, q7, hrs, hsub, hin, hin2⟩ := node_cells (hR.node m y hy)
  have m0 := hW.wk.cellv (i := 0) rfl
  have t0 := hR.tab.cellv (i := 0) rfl
  have g0 : ¬ (m : Int) < 0 := by omega
  have g1 : (n : Int) < (F.l.length : Int) := by omega
  have g2 : (m : Int) < (F.l.length : Int) := by omega
  have hAl : Upd Nob w (w.alloc (.cells (pnCells y RA rc SA sc) 77)) := (Upd.refl Nob w).alloc _
  have HX := hideP (Cells.new w 77 (pnCells y RA rc SA sc))
  have HR := hideP (hR.upd hAl (fun _ _ => not_nob))
  have HN := hideP (Nx.of_upd hW hAl)
  have HC := hideP (hC.nx (Nx.of_upd hW hAl))
  have HSUB := hideP (hsub.upd hAl (fun _ _ => not_nob))
  have HU7 := hideP ((hAl.cell (p := ⟨F.tg, n * 8 + 7, none⟩) (hR.lt _ hR.stg) not_nob).trans u7)
  have HKD := hideP hkd
  obtain ⟨k1, hk1⟩ : ∃ k1, k + 1 = k1 := ⟨_, rfl⟩
  have hwn : IntKind.i64.wrap ((k : Int) + 1) = (k1 : Int) := by rw [IntKind.wrap_i64]; omega
  clear hR hW hC hsub hrs hkd hu hk7
  go_enter Try.func37, Try.ntmps37
  go_upto_region 7 with fail
  change Code.wp _ _ _ _ (w.alloc (.cells (pnCells y RA rc SA sc) 77))
  generalize w.alloc (.cells (pnCells y RA rc SA sc) 77) = wa at *
  clear m0 t0 q0 q1 q2 q3 q4 q5 q6 q7 u6 u7
  generalize w.heap.size = xb at *
  have m0 := HN.out.wk.wk.cellv (i := 0) rfl
  have t0 := HR.out.tab.cellv (i := 0) rfl
  have u7 := HU7.out
  have y0 := HX.out.cellv (i := 0) (v := .int .i64 5) (by rw [← HKD.out]; rfl)
  go_wp2_with (go_at_call 37; refine (hcon hmn hp hc wa OA oc CA cc HR.out HN.out.wk HC.out).mono ?_; rintro e wb ⟨rfl, OA1, oc1, hX1⟩)
  first | (go_end0; exact ⟨rfl, OA1, oc1, HN.out.trans hX1⟩) | (try simp only [Exit.inBlock, Exit.then]; refine bodyPost_ret (results_none rfl _ _ _) rfl ?_; exact ⟨rfl, OA1, oc1, HN.out.trans hX1⟩)
set_option maxRecDepth 100000 in
set_option maxHeartbeats 4000000 in
theorem behind_103 {F : Fx} {S : Nat → Prop} {cl n p m : Nat} {c : List Int} {s s' : WSt} {x y : PN} (hk : Tk F S cl) (hx : F.l[n]? = some x) (hu : x.up = (m : Int)) (hy : F.l[m]? = some y) (hkd : y.kind = 103) (hcon : Con F S cl 37 m p c s s') : Con F S cl 37 n p c s s' := by
  intro hn hp hc w OA oc CA cc hR hW hC
  obtain ⟨RB, rb, SB, sb, -, -, -, -, -, -, u6, u7, -, -, -, -⟩ := node_cells (hR.node n x hx)
  rw [hu] at u6
  obtain ⟨k, hk7⟩ : ∃ k : Nat, x.nth = (k : Int) := ⟨x.nth.toNat, by have := (hk.nth n x hx).1; omega⟩
  have hk8 : k ≤ 1000000 := by have := (hk.nth n x hx).2.1; omega
  have hk9 : x.nth.toNat = k := by omega
  rw [hk7] at u7
  have hmn : m < F.l.length := (List.getElem?_eq_some_iff.1 hy).1
  obtain ⟨RA, rc, SA, sc, q0, q1, q2, q3, q4, q5, q6, q7, hrs, hsub, hin, hin2⟩ := node_cells (hR.node m y hy)
  have m0 := hW.wk.cellv (i := 0) rfl
  have t0 := hR.tab.cellv (i := 0) rfl
  have g0 : ¬ (m : Int) < 0 := by omega
  have g1 : (n : Int) < (F.l.length : Int) := by omega
  have g2 : (m : Int) < (F.l.length : Int) := by omega
  have hAl : Upd Nob w (w.alloc (.cells (pnCells y RA rc SA sc) 77)) := (Upd.refl Nob w).alloc _
  have HX := hideP (Cells.new w 77 (pnCells y RA rc SA sc))
  have HR := hideP (hR.upd hAl (fun _ _ => not_nob))
  have HN := hideP (Nx.of_upd hW hAl)
  have HC := hideP (hC.nx (Nx.of_upd hW hAl))
  have HSUB := hideP (hsub.upd hAl (fun _ _ => not_nob))
  have HU7 := hideP ((hAl.cell (p := ⟨F.tg, n * 8 + 7, none⟩) (hR.lt _ hR.stg) not_nob).trans u7)
  have HKD := hideP hkd
  obtain ⟨k1, hk1⟩ : ∃ k1, k + 1 = k1 := ⟨_, rfl⟩
  have hwn : IntKind.i64.wrap ((k : Int) + 1) = (k1 : Int) := by rw [IntKind.wrap_i64]; omega
  clear hR hW hC hsub hrs hkd hu hk7
  go_enter Try.func37, Try.ntmps37
  go_upto_region 7 with fail
  change Code.wp _ _ _ _ (w.alloc (.cells (pnCells y RA rc SA sc) 77))
  generalize w.alloc (.cells (pnCells y RA rc SA sc) 77) = wa at *
  clear m0 t0 q0 q1 q2 q3 q4 q5 q6 q7 u6 u7
  generalize w.heap.size = xb at *
  have m0 := HN.out.wk.wk.cellv (i := 0) rfl
  have t0 := HR.out.tab.cellv (i := 0) rfl
  have u7 := HU7.out
  have y0 := HX.out.cellv (i := 0) (v := .int .i64 103) (by rw [← HKD.out]; rfl)
  go_wp2_with (go_at_call 37; refine (hcon hmn hp hc wa OA oc CA cc HR.out HN.out.wk HC.out).mono ?_; rintro e wb ⟨rfl, OA1, oc1, hX1⟩)
  first | (go_end0; exact ⟨rfl, OA1, oc1, HN.out.trans hX1⟩) | (try simp only [Exit.inBlock, Exit.then]; refine bodyPost_ret (results_none rfl _ _ _) rfl ?_; exact ⟨rfl, OA1, oc1, HN.out.trans hX1⟩)
set_option maxRecDepth 100000 in
set_option maxHeartbeats 4000000 in
theorem behind_7 {F : Fx} {S : Nat → Prop} {cl n p m : Nat} {c : List Int} {s s' : WSt} {x y : PN} (hk : Tk F S cl) (hx : F.l[n]? = some x) (hu : x.up = (m : Int)) (hy : F.l[m]? = some y) (hkd : y.kind = 7) (hcon : Con F S cl 37 m p (c.set (2 * y.ix + 1).toNat p) s s') : Con F S cl 37 n p c s s' := by
  intro hn hp hc w OA oc CA cc hR hW hC
  obtain ⟨RB, rb, SB, sb, -, -, -, -, -, -, u6, u7, -, -, -, -⟩ := node_cells (hR.node n x hx)
  rw [hu] at u6
  obtain ⟨k, hk7⟩ : ∃ k : Nat, x.nth = (k : Int) := ⟨x.nth.toNat, by have := (hk.nth n x hx).1; omega⟩
  have hk8 : k ≤ 1000000 := by have := (hk.nth n x hx).2.1; omega
  have hk9 : x.nth.toNat = k := by omega
  rw [hk7] at u7
  have hmn : m < F.l.length := (List.getElem?_eq_some_iff.1 hy).1
  obtain ⟨RA, rc, SA, sc, q0, q1, q2, q3, q4, q5, q6, q7, hrs, hsub, hin, hin2⟩ := node_cells (hR.node m y hy)
  have m0 := hW.wk.cellv (i := 0) rfl
  have t0 := hR.tab.cellv (i := 0) rfl
  have g0 : ¬ (m : Int) < 0 := by omega
  have g1 : (n : Int) < (F.l.length : Int) := by omega
  have g2 : (m : Int) < (F.l.length : Int) := by omega
  have hAl : Upd Nob w (w.alloc (.cells (pnCells y RA rc SA sc) 77)) := (Upd.refl Nob w).alloc _
  have HX := hideP (Cells.new w 77 (pnCells y RA rc SA sc))
  have HR := hideP (hR.upd hAl (fun _ _ => not_nob))
  have HN := hideP (Nx.of_upd hW hAl)
  have HC := hideP (hC.nx (Nx.of_upd hW hAl))
  have HSUB := hideP (hsub.upd hAl (fun _ _ => not_nob))
  have HU7 := hideP ((hAl.cell (p := ⟨F.tg, n * 8 + 7, none⟩) (hR.lt _ hR.stg) not_nob).trans u7)
  have HKD := hideP hkd
  obtain ⟨k1, hk1⟩ : ∃ k1, k + 1 = k1 := ⟨_, rfl⟩
  have hwn : IntKind.i64.wrap ((k : Int) + 1) = (k1 : Int) := by rw [IntKind.wrap_i64]; omega
  clear hR hW hC hsub hrs hkd hu hk7
  go_enter Try.func37, Try.ntmps37
  go_upto_region 7 with fail
  change Code.wp _ _ _ _ (w.alloc (.cells (pnCells y RA rc SA sc) 77))
  generalize w.alloc (.cells (pnCells y RA rc SA sc) 77) = wa at *
  clear m0 t0 q0 q1 q2 q3 q4 q5 q6 q7 u6 u7
  generalize w.heap.size = xb at *
  have m0 := HN.out.wk.wk.cellv (i := 0) rfl
  have t0 := HR.out.tab.cellv (i := 0) rfl
  have u7 := HU7.out
  have y0 := HX.out.cellv (i := 0) (v := .int .i64 7) (by rw [← HKD.out]; rfl)
  have y2 := HX.out.cellv (i := 0 + 2) (v := .int .i64 y.ix) rfl
  have hxb := HX.out.lt
  have hixx := hk.ix m y hy HKD.out
  have hclm := hk.clm
  obtain ⟨kk, hkk⟩ : ∃ kk : Nat, 2 * y.ix + 1 = (kk : Int) := Int.eq_ofNat_of_zero_le (by omega)
  have hwr : IntKind.i64.wrap (2 * y.ix) = 2 * y.ix := by rw [IntKind.wrap_i64]; omega
  have hwr2 : IntKind.i64.wrap (2 * y.ix + 1) = (kk : Int) := by rw [IntKind.wrap_i64]; omega
  have hkt : (2 * y.ix + 1).toNat = kk := by omega
  rw [hkt] at hcon
  have HK7 := hideP (show kk < c.length by omega)
  have HCC := hideP hc
  have HC0 := hideP (show Reads wa (fun b => ¬ MutF F b ∧ ¬ OA.map (·.block) = some b) 1 CA c.length (intv c) from HC.out)
  clear hkk hkt hixx
  subst hc
  have HK2 := hideP (fun (wq : World) (g cap : Nat) hU hg hO => noted_hcon (wq := wq) (g := g) (cap := cap) hk HR.out HN.out.wk hU hg hO hmn hp hcon)
  go_wp2_with (first | (go_at_call 41; refine (noted_any wa _ CA cc c kk (p : Int) HC0.out HK7.out hclm).mono ?_; rintro e wq ⟨g, cap, rfl, hg, hO, hU⟩; have HG := hideP hg; have HO := hideP hO; have HUQ := hideP hU; clear hg hO hU) | (go_at_call 37; refine (HK2.out wq g cap HUQ.out HG.out HO.out).mono ?_; rintro e wb ⟨rfl, OA1, oc1, hX1⟩))
  first | (go_end0; exact ⟨rfl, OA1, oc1, (HN.out.trans (Nx.of_upd HN.out.wk HUQ.out)).trans hX1⟩) | (try simp only [Exit.inBlock, Exit.then]; refine bodyPost_ret (results_none rfl _ _ _) rfl ?_; exact ⟨rfl, OA1, oc1, (HN.out.trans (Nx.of_upd HN.out.wk HUQ.out)).trans hX1⟩)
set_option maxRecDepth 100000 in
set_option maxHeartbeats 4000000 in
theorem behind_met {F : Fx} {S : Nat → Prop} {cl n p : Nat} {c : List Int} {s : WSt} {x : PN} (hk : Tk F S cl) (hx : F.l[n]? = some x) (hu : x.up < 0) (he : s.en p = true) : Con F S cl 37 n p c s s := by
  intro hn hp hc w OA oc CA cc hR hW hC
  obtain ⟨RB, rb, SB, sb, -, -, -, -, -, -, u6, -, -, -, -, -⟩ := node_cells (hR.node n x hx)
  have m0 := hW.wk.cellv (i := 0) rfl
  have m5 := hW.wk.cellv (i := 0 + 5) rfl
  have t0 := hR.tab.cellv (i := 0) rfl
  have e5 : w.cell? ⟨F.eb, p, none⟩ = some (.bool true) := by rw [← he]; exact hW.en.cellv (rowC_at _ (by omega))
  have g1 : (n : Int) < (F.l.length : Int) := by omega
  obtain ⟨M, hM⟩ : ∃ M, F.xs.length + 1 = M := ⟨_, rfl⟩
  rw [hM] at m5
  have g2 : (p : Int) < (M : Int) := by omega
  have HW := hideP hW
  clear hW hM hC hR
  go_enter Try.func37, Try.ntmps37
  go_wp2_with fail
  try simp only [Exit.inBlock, Exit.then]
  refine bodyPost_ret (results_none rfl _ _ _) rfl ?_
  exact ⟨rfl, OA, oc, .of_upd HW.out (Upd.refl _ _)⟩
set_option maxRecDepth 100000 in
set_option maxHeartbeats 4000000 in
theorem behind_end {F : Fx} {S : Nat → Prop} {cl n p : Nat} {c : List Int} {s : WSt} {x : PN} (hk : Tk F S cl) (hx : F.l[n]? = some x) (hu : x.up < 0) (he : s.en p = false) : Con F S cl 37 n p c s { s with en := mark1 s.en p, out := s.out ++ [(p, (c.set 0 (F.at_ : Int)).set 1 (p : Int))] } := by
  intro hn hp hc w OA oc CA cc hR hW hC
  obtain ⟨RB, rb, SB, sb, -, -, -, -, -, -, u6, -, -, -, -, -⟩ := node_cells (hR.node n x hx)
  have m0 := hW.wk.cellv (i := 0) rfl
  have m5 := hW.wk.cellv (i := 0 + 5) rfl
  have t0 := hR.tab.cellv (i := 0) rfl
  have e5 : w.cell? ⟨F.eb, p, none⟩ = some (.bool false) := by rw [← he]; exact hW.en.cellv (rowC_at _ (by omega))
  have g1 : (n : Int) < (F.l.length : Int) := by omega
  obtain ⟨M, hM⟩ : ∃ M, F.xs.length + 1 = M := ⟨_, rfl⟩
  rw [hM] at m5
  have g2 : (p : Int) < (M : Int) := by omega
  have f5 := hW.en.frozen p
  have hwe : F.wb ≠ F.eb := Cells.ne_ hW.wk hW.en (by decide)
  have hU1 := (Upd.refl (fun b => b = F.eb) w).setCell ⟨F.eb, p, none⟩ (.bool true) (fun _ => rfl)
  have hE1 := hW.en.set_ p (.bool true)
  rw [rowC_set (b := s.en) (b' := mark1 s.en p) (by simp [mark1]) (fun q hq => by simp [mark1, hq])] at hE1
  have hW1 := hW.wk.upd hU1 hwe
  have hC1 : Reads (w.setCell ⟨F.eb, p, none⟩ (.bool true)) (fun b => ¬ MutF F b ∧ ¬ OA.map (·.block) = some b) 1 CA c.length (intv c) := Reads.upd hC hU1 (fun b hb e => hb.1 (.inr (.inl e)))
  obtain ⟨gs, hgl, hO, hOc⟩ := hW.out
  have hebl := hk.dis.lt F.eb (.inr (.inl rfl))
  have hO1 := own_upd hO hU1 (fun b hb e => by have := wk_lo hO hb; omega)
  have hcnt := cntE_mark (e := s.en) (p := p) he (n := F.xs.length + 1) (by omega)
  have hcle := cntE_le (F.xs.length + 1) (mark1 s.en p)
  have hsh := hR.short
  have hcn := hW.cnt
  have hb0 := hR.base
  have hc2 := hk.cl2
  have hc4 := hk.clm
  have HE1 := hideP hE1
  have HW0 := hideP hW
  have HW1 := hideP hW1
  have HO0 := hideP hO
  have HOC := hideP hOc
  have HGL := hideP hgl
  have HO1 := hideP hO1
  have HC1 := hideP hC1
  have HU1 := hideP hU1
  have HCN := hideP (show s.out.length + 1 = cntE (F.xs.length + 1) (mark1 s.en p) by omega)
  have hlen : s.out.length ≤ 100 := by omega
  clear hW hM hC hR hE1 hW1 hO hOc hgl hO1 hC1 hU1 he
  go_enter Try.func37, Try.ntmps37
  go_upto_region 4 with fail
  clear m0 t0 m5 e5 f5 u6
  generalize hw1 : w.setCell ⟨F.eb, p, none⟩ (.bool true) = w1 at *
  have HH := hideP hw1
  have m2 := HW1.out.cellv (i := 0 + 2) rfl
  clear hw1
  have h01 : w.heap.size ≤ w1.heap.size := HU1.out.size
  subst hc
  go_upto_region 5 with (go_at_call 41; refine (noted_any w1 _ CA cc c 0 (F.at_ : Int) HC1.out (by omega) hc4).mono ?_; rintro e w2 ⟨g, cap, rfl, hg, hO2, hU2⟩)
  have hs2 := hU2.size
  refine behind_reg5 _ w2 (fun b => (Value.slice (some ⟨g, 0, none⟩) c.length cap).ownBlock = some b) F.wb p s.out.length oc cap c.length F.base OA (some ⟨g, 0, none⟩) (c.set 0 (F.at_ : Int)) _ (flatO s.out gs) _ _ _ _ _ _ _ _ _ _ _ _ _ _ _ _ _ _ _ _ _ _ _ _ _ _ _ _ _ _ _ _ _ _ _ _ _ _ _ _ _ _ _ _ _ _ _ _ _ _ _ _ _ _ _ _ _ _ _ _ _ _ _ _ _ _ _ _ _ _ _ _ _ _ _ _ _ _ _ _ _ _ _ _ _ _ _ _ _ _ _ _ _ _ _ _ _ _ _ _ _ _ _ _ _ _ _ _ _ _ _ _ _ _ _ _ _ _ _ _ _ _ _ _ _ _ (by rw [List.length_set]) rfl (HW1.out.upd hU2 not_nob) (own_upd HO1.out hU2 (fun _ _ => not_nob)) (by rw [List.length_set]; exact Reads.of_own hO2) (by rw [List.length_set]; omega) (by rw [List.length_set]; exact hc4) (by omega) (by omega) ?_
  intro _ _ _ _ _ _ _ _ _ _ _ _ _ _ wq wN gN cN g2 cap2 hUq hg2 U9 P9 O9 gr hat hltN XN ON oN
  go_wp2_with fail
  try simp only [Exit.inBlock, Exit.then]
  refine bodyPost_ret (results_none rfl _ _ _) rfl ?_
  exact behind_done (by simp) hk hn hp HW0.out HU1.out HE1.out hU2 hUq U9 gr hat XN ON oN HGL.out HOC.out HO0.out hb0 HCN.out
end Go.Proofs.Ytlaofcgllchedaa
