/-
  Load15, LoadT, OwnR, put together.
-/
import Derived.Test.YtdbdokjlcdogiaaDoorZ08LoadA
import Derived.ArgAppend
import Derived.Laws.OwnMore

/-
  code.Load's region 15 (p.Insts = append(p.Insts, fields(l, l.byte()))), over whatever frame. Printed by tools/mkreg15.py.
-/
namespace Go.Proofs.YtdbdokjlcdogiaaDoor
open Go.RowKit
set_option linter.unusedVariables false

/-- one instruction -/
def opF : List Int → Option (PInst × List Int)
  | [] => none
  | op :: r => fieldsB op r
theorem finfo_inst : (Tryd.prog.info? 48).map (fun i => (i.zero, i.size, i.bytes)) = some (some (.agg #[.int .i64 0, .int .i64 0, .int .i64 0, .int .i64 0, .slice none 0 0]), 5, 56) := by kernel_rfl
theorem own_bl {w : World} {base e size : Nat} {B : Option Addr} {n c : Nat} {xs : List Value} (h : w.ownsRow base e size (.slice B n c) n xs) {b : Nat} (hb : B.map (·.block) = some b) : b < w.heap.size := by
  obtain ⟨cur, hc, _⟩ := own_cells h (ownBlock_map.2 hb)
  exact hc.lt
theorem ProgW.lt {w : World} {base : Nat} {A : Option Addr} {c : Nat} {is : List PInst} {gs : List (Option Addr × Nat)} (h : ProgW w base A c is gs) (i : Nat) (B : Option Addr) (cc b : Nat) (hg : gs[i]? = some (B, cc)) (hb : B.map (·.block) = some b) : b < w.heap.size := by
  have hi := (List.getElem?_eq_some_iff.1 hg).1
  have hi2 : i < is.length := by rw [← h.len]; exact hi
  exact own_bl (h.own i _ B cc (List.getElem?_eq_getElem hi2) hg) hb
set_option maxRecDepth 100000 in
set_option maxHeartbeats 4000000 in
theorem load_reg15 (Q : Exit → Act → World → Prop) (wr : World) (S : Nat → Prop) (pb eb lb base c : Nat) (A : Option Addr) (is : List PInst) (gs : List (Option Addr × Nat)) (bs : List Int) (s0 c0 : Value) (x0 x1 x4 x5 x6 x8 x9 x10 x11 x12 x13 x14 x15 x16 x17 x18 x19 x20 x21 x22 x23 x24 x25 x26 x27 x28 x29 x30 x31 x32 x33 x34 x35 x36 x37 x38 x39 x40 x41 x42 x43 x44 x45 x46 x47 x48 x49 x50 x51 x52 x53 x54 x55 x56 x57 x58 x59 x60 x61 x62 x63 x64 x65 x66 x67 x68 x69 x70 x71 x72 x73 x74 x75 x76 x77 x78 x79 x80 x81 x82 x83 x84 x85 x86 x87 x88 x89 x90 x91 x92 x93 x94 x95 x96 x97 x98 x99 : Value)
    (hL : LoadR wr S lb bs) (hC : Cells wr pb 24 #[.slice A is.length c, s0, c0]) (hP : ProgW wr base A c is gs) (hS : ∀ b, S b → b < pb) (hpl : ¬ pb = lb) (hpb : pb < base) (hlb : lb < base) (hba : base ≤ wr.heap.size) (hk : is.length < 20000)
    (hno : opF bs = none → ∀ a w', Door 29 a pb eb → Upd (fun b => b = lb) wr w' → Q (.panic brokenP) a w')
    (hyes : ∀ x r, opF bs = some (x, r) → ∀ v79 v80 v81 v82 v83 v84 v85 v86 v87 v88 A' c' gs' w', Cells w' pb 24 #[.slice A' (is.length + 1) c', s0, c0] → ProgW w' base A' c' (is ++ [x]) gs' → LoadR w' S lb r → Upd (fun b => b = pb ∨ b = lb ∨ base ≤ b) wr w' → Q .normal ⟨#[x0, x1, .pointer (some ⟨pb, 0, none⟩), .pointer (some ⟨eb, 0, none⟩), x4, x5, x6, .pointer (some ⟨lb, 0, none⟩), x8, x9, x10, x11, x12, x13, x14, x15, x16, x17, x18, x19, x20, x21, x22, x23, x24, x25, x26, x27, x28, x29, x30, x31, x32, x33, x34, x35, x36, x37, x38, x39, x40, x41, x42, x43, x44, x45, x46, x47, x48, x49, x50, x51, x52, x53, x54, x55, x56, x57, x58, x59, x60, x61, x62, x63, x64, x65, x66, x67, x68, x69, x70, x71, x72, x73, x74, x75, x76, x77, x78, v79, v80, v81, v82, v83, v84, v85, v86, v87, v88, x89, x90, x91, x92, x93, x94, x95, x96, x97, x98, x99], [{ target := .fn (.func 29) #[.pointer (some ⟨pb, 0, none⟩), .pointer (some ⟨eb, 0, none⟩)], args := #[] }]⟩ w') :
    (Code.region 15 #[{ dst := some 79, op := Op.fieldAddr 24 (Operand.tmp 2) 0, type := 0, pos := "code.go:268", after := #[], guard := none },
    { dst := some 80, op := Op.load 22 (Operand.tmp 79), type := 22, pos := "code.go:268", after := #[{ on := 0, ground := .data }], guard := none },
    { dst := some 81, op := Op.move (Operand.tmp 7), type := 63, pos := "code.go:268", after := #[], guard := none },
    { dst := some 82, op := Op.makeInterface 63 (Operand.tmp 81), type := 89, pos := "code.go:268", after := #[{ on := 2, ground := .data }], guard := none },
    { dst := some 83, op := Op.move (Operand.tmp 7), type := 63, pos := "code.go:268", after := #[], guard := none },
    { dst := some 84, op := Op.call { callee := Callee.value (Operand.func 35), args := #[Operand.tmp 83], argTypes := #[63] }, type := 3, pos := "code.go:268", after := #[{ on := 4, ground := .data }], guard := none },
    { dst := some 85, op := Op.call { callee := Callee.value (Operand.func 34), args := #[Operand.tmp 82, Operand.tmp 84], argTypes := #[89, 3] }, type := 48, pos := "code.go:268", after := #[{ on := 3, ground := .data }, { on := 5, ground := .data }, { on := 5, ground := .chain }], guard := none },
    { dst := some 86, op := Op.buildSlice 22 1 #[(0, Operand.tmp 85)], type := 22, pos := "code.go:268", after := #[{ on := 6, ground := .data }], guard := none },
    { dst := some 87, op := Op.call { callee := Callee.builtin Builtin.append, args := #[Operand.tmp 80, Operand.tmp 86], argTypes := #[22, 22] }, type := 22, pos := "code.go:268", after := #[{ on := 1, ground := .data }, { on := 7, ground := .data }, { on := 6, ground := .chain }], guard := none },
    { dst := some 88, op := Op.fieldAddr 24 (Operand.tmp 2) 0, type := 0, pos := "code.go:268", after := #[{ on := 0, ground := .phase }, { on := 1, ground := .phase }, { on := 2, ground := .phase }, { on := 3, ground := .phase }, { on := 4, ground := .phase }, { on := 5, ground := .phase }, { on := 6, ground := .phase }, { on := 7, ground := .phase }, { on := 8, ground := .phase }], guard := none },
    { dst := none, op := Op.store 22 (Operand.tmp 88) (Operand.tmp 87), type := 0, pos := "code.go:268", after := #[{ on := 9, ground := .data }, { on := 8, ground := .data }, { on := 8, ground := .chain }, { on := 0, ground := .phase }, { on := 1, ground := .phase }, { on := 2, ground := .phase }, { on := 3, ground := .phase }, { on := 4, ground := .phase }, { on := 5, ground := .phase }, { on := 6, ground := .phase }, { on := 7, ground := .phase }, { on := 8, ground := .phase }], guard := none }] true).wp Tryd.prog Q ⟨#[x0, x1, .pointer (some ⟨pb, 0, none⟩), .pointer (some ⟨eb, 0, none⟩), x4, x5, x6, .pointer (some ⟨lb, 0, none⟩), x8, x9, x10, x11, x12, x13, x14, x15, x16, x17, x18, x19, x20, x21, x22, x23, x24, x25, x26, x27, x28, x29, x30, x31, x32, x33, x34, x35, x36, x37, x38, x39, x40, x41, x42, x43, x44, x45, x46, x47, x48, x49, x50, x51, x52, x53, x54, x55, x56, x57, x58, x59, x60, x61, x62, x63, x64, x65, x66, x67, x68, x69, x70, x71, x72, x73, x74, x75, x76, x77, x78, x79, x80, x81, x82, x83, x84, x85, x86, x87, x88, x89, x90, x91, x92, x93, x94, x95, x96, x97, x98, x99], [{ target := .fn (.func 29) #[.pointer (some ⟨pb, 0, none⟩), .pointer (some ⟨eb, 0, none⟩)], args := #[] }]⟩ wr := by
  obtain ⟨i0, hi0, hz0, hz1, hz2⟩ := info_parts finfo_inst
  have HC := hideP hC
  have HLD := hideP (hL.upd ((Upd.refl Nob wr).drew) not_nob (fun _ _ => not_nob))
  have HU0 := hideP ((Upd.refl (fun b => b = lb) wr).drew)
  have HPA := hideP hP.lt
  have HP := hideP hP
  have HY := hideP hyes
  refine Code.wp_mono (QuietQ.imp (G := fun c a w' => c = brokenP ∧ Door 29 a pb eb ∧ Upd (fun b => b = lb) wr w' ∧ opF bs = none) (fun c a w' h => ?_)) ?_
  · obtain ⟨rfl, hd, hU, hn⟩ := h
    exact hno hn a w' hd hU
  clear hno hyes hP hL hC
  cases bs with
  | nil =>
    refine AnyJ.begin 10 (fun w' => w'.cell? ⟨pb, 0, none⟩ = some (.slice A is.length c)) (by kernel_rfl) (HC.out.cellv rfl) (fun hSS => ?_)
    refine AnyJ.take (i := 0) (oi := { dst := some 79, op := Op.fieldAddr 24 (Operand.tmp 2) 0, type := 0, pos := "code.go:268", after := #[], guard := none }) (v := ?v0na1) ?a0na1 ?b0na1 ?c0na1 ?d0na1 ?e0na1 (fun _ _ _ h => ⟨h.1, Door.put h.2.1 (by decide) (by decide), h.2.2⟩) (Or.inl ⟨?f0na1, ?y0na1⟩) (by assumption) ?r0na1
    case a0na1 => rfl
    case b0na1 => kernel_rfl
    case c0na1 => kernel_rfl
    case d0na1 => kernel_rfl
    case e0na1 => kernel_rfl
    case f0na1 => rfl
    case y0na1 => (intro w' hSw; (try dsimp only at hSw); go_simp; try with_reducible rfl)
    try simp only [Act.put, List.setIfInBounds_toArray, List.set_cons_zero, List.set_cons_succ]
    refine AnyJ.take (i := 1) (oi := { dst := some 80, op := Op.load 22 (Operand.tmp 79), type := 22, pos := "code.go:268", after := #[{ on := 0, ground := .data }], guard := none }) (v := ?v1na2) ?a1na2 ?b1na2 ?c1na2 ?d1na2 ?e1na2 (fun _ _ _ h => ⟨h.1, Door.put h.2.1 (by decide) (by decide), h.2.2⟩) (Or.inl ⟨?f1na2, ?y1na2⟩) (by assumption) ?r1na2
    case a1na2 => rfl
    case b1na2 => kernel_rfl
    case c1na2 => kernel_rfl
    case d1na2 => kernel_rfl
    case e1na2 => kernel_rfl
    case f1na2 => rfl
    case y1na2 => (intro w' hSw; (try dsimp only at hSw); go_simp; try with_reducible rfl)
    try simp only [Act.put, List.setIfInBounds_toArray, List.set_cons_zero, List.set_cons_succ]
    refine AnyJ.take (i := 2) (oi := { dst := some 81, op := Op.move (Operand.tmp 7), type := 63, pos := "code.go:268", after := #[], guard := none }) (v := ?v2na3) ?a2na3 ?b2na3 ?c2na3 ?d2na3 ?e2na3 (fun _ _ _ h => ⟨h.1, Door.put h.2.1 (by decide) (by decide), h.2.2⟩) (Or.inl ⟨?f2na3, ?y2na3⟩) (by assumption) ?r2na3
    case a2na3 => rfl
    case b2na3 => kernel_rfl
    case c2na3 => kernel_rfl
    case d2na3 => kernel_rfl
    case e2na3 => kernel_rfl
    case f2na3 => rfl
    case y2na3 => (intro w' hSw; (try dsimp only at hSw); go_simp; try with_reducible rfl)
    try simp only [Act.put, List.setIfInBounds_toArray, List.set_cons_zero, List.set_cons_succ]
    refine AnyJ.take (i := 3) (oi := { dst := some 82, op := Op.makeInterface 63 (Operand.tmp 81), type := 89, pos := "code.go:268", after := #[{ on := 2, ground := .data }], guard := none }) (v := ?v3na4) ?a3na4 ?b3na4 ?c3na4 ?d3na4 ?e3na4 (fun _ _ _ h => ⟨h.1, Door.put h.2.1 (by decide) (by decide), h.2.2⟩) (Or.inl ⟨?f3na4, ?y3na4⟩) (by assumption) ?r3na4
    case a3na4 => rfl
    case b3na4 => kernel_rfl
    case c3na4 => kernel_rfl
    case d3na4 => kernel_rfl
    case e3na4 => kernel_rfl
    case f3na4 => rfl
    case y3na4 => (intro w' hSw; (try dsimp only at hSw); go_simp; try with_reducible rfl)
    try simp only [Act.put, List.setIfInBounds_toArray, List.set_cons_zero, List.set_cons_succ]
    refine AnyJ.take (i := 4) (oi := { dst := some 83, op := Op.move (Operand.tmp 7), type := 63, pos := "code.go:268", after := #[], guard := none }) (v := ?v4na5) ?a4na5 ?b4na5 ?c4na5 ?d4na5 ?e4na5 (fun _ _ _ h => ⟨h.1, Door.put h.2.1 (by decide) (by decide), h.2.2⟩) (Or.inl ⟨?f4na5, ?y4na5⟩) (by assumption) ?r4na5
    case a4na5 => rfl
    case b4na5 => kernel_rfl
    case c4na5 => kernel_rfl
    case d4na5 => kernel_rfl
    case e4na5 => kernel_rfl
    case f4na5 => rfl
    case y4na5 => (intro w' hSw; (try dsimp only at hSw); go_simp; try with_reducible rfl)
    try simp only [Act.put, List.setIfInBounds_toArray, List.set_cons_zero, List.set_cons_succ]
    refine AnyJ.one (i := 5) (o := { dst := some 84, op := Op.call { callee := Callee.value (Operand.func 35), args := #[Operand.tmp 83], argTypes := #[63] }, type := 3, pos := "code.go:268", after := #[{ on := 4, ground := .data }], guard := none }) ?pa6 ?qa6 ?_
    case pa6 => kernel_rfl
    case qa6 => rfl
    intro K' hK
    go_simp
    refine (byte_any _ S lb [] HLD.out).mono ?_
    rintro e w7 ⟨rfl, hU7⟩
    exact ⟨rfl, ⟨rfl, rfl, rfl⟩, HU0.out.trans hU7 (fun _ _ h => h), rfl⟩
  | cons op q =>
    generalize hF : fieldsB op q = F at *
    have HF := hideP hF
    clear hF
    cases F with
    | none =>
      refine AnyJ.begin 10 (fun w' => w'.cell? ⟨pb, 0, none⟩ = some (.slice A is.length c)) (by kernel_rfl) (HC.out.cellv rfl) (fun hSS => ?_)
      refine AnyJ.take (i := 0) (oi := { dst := some 79, op := Op.fieldAddr 24 (Operand.tmp 2) 0, type := 0, pos := "code.go:268", after := #[], guard := none }) (v := ?v0nb7) ?a0nb7 ?b0nb7 ?c0nb7 ?d0nb7 ?e0nb7 (fun _ _ _ h => ⟨h.1, Door.put h.2.1 (by decide) (by decide), h.2.2⟩) (Or.inl ⟨?f0nb7, ?y0nb7⟩) (by assumption) ?r0nb7
      case a0nb7 => rfl
      case b0nb7 => kernel_rfl
      case c0nb7 => kernel_rfl
      case d0nb7 => kernel_rfl
      case e0nb7 => kernel_rfl
      case f0nb7 => rfl
      case y0nb7 => (intro w' hSw; (try dsimp only at hSw); go_simp; try with_reducible rfl)
      try simp only [Act.put, List.setIfInBounds_toArray, List.set_cons_zero, List.set_cons_succ]
      refine AnyJ.take (i := 1) (oi := { dst := some 80, op := Op.load 22 (Operand.tmp 79), type := 22, pos := "code.go:268", after := #[{ on := 0, ground := .data }], guard := none }) (v := ?v1nb8) ?a1nb8 ?b1nb8 ?c1nb8 ?d1nb8 ?e1nb8 (fun _ _ _ h => ⟨h.1, Door.put h.2.1 (by decide) (by decide), h.2.2⟩) (Or.inl ⟨?f1nb8, ?y1nb8⟩) (by assumption) ?r1nb8
      case a1nb8 => rfl
      case b1nb8 => kernel_rfl
      case c1nb8 => kernel_rfl
      case d1nb8 => kernel_rfl
      case e1nb8 => kernel_rfl
      case f1nb8 => rfl
      case y1nb8 => (intro w' hSw; (try dsimp only at hSw); go_simp; try with_reducible rfl)
      try simp only [Act.put, List.setIfInBounds_toArray, List.set_cons_zero, List.set_cons_succ]
      refine AnyJ.take (i := 2) (oi := { dst := some 81, op := Op.move (Operand.tmp 7), type := 63, pos := "code.go:268", after := #[], guard := none }) (v := ?v2nb9) ?a2nb9 ?b2nb9 ?c2nb9 ?d2nb9 ?e2nb9 (fun _ _ _ h => ⟨h.1, Door.put h.2.1 (by decide) (by decide), h.2.2⟩) (Or.inl ⟨?f2nb9, ?y2nb9⟩) (by assumption) ?r2nb9
      case a2nb9 => rfl
      case b2nb9 => kernel_rfl
      case c2nb9 => kernel_rfl
      case d2nb9 => kernel_rfl
      case e2nb9 => kernel_rfl
      case f2nb9 => rfl
      case y2nb9 => (intro w' hSw; (try dsimp only at hSw); go_simp; try with_reducible rfl)
      try simp only [Act.put, List.setIfInBounds_toArray, List.set_cons_zero, List.set_cons_succ]
      refine AnyJ.take (i := 3) (oi := { dst := some 82, op := Op.makeInterface 63 (Operand.tmp 81), type := 89, pos := "code.go:268", after := #[{ on := 2, ground := .data }], guard := none }) (v := ?v3nb10) ?a3nb10 ?b3nb10 ?c3nb10 ?d3nb10 ?e3nb10 (fun _ _ _ h => ⟨h.1, Door.put h.2.1 (by decide) (by decide), h.2.2⟩) (Or.inl ⟨?f3nb10, ?y3nb10⟩) (by assumption) ?r3nb10
      case a3nb10 => rfl
      case b3nb10 => kernel_rfl
      case c3nb10 => kernel_rfl
      case d3nb10 => kernel_rfl
      case e3nb10 => kernel_rfl
      case f3nb10 => rfl
      case y3nb10 => (intro w' hSw; (try dsimp only at hSw); go_simp; try with_reducible rfl)
      try simp only [Act.put, List.setIfInBounds_toArray, List.set_cons_zero, List.set_cons_succ]
      refine AnyJ.take (i := 4) (oi := { dst := some 83, op := Op.move (Operand.tmp 7), type := 63, pos := "code.go:268", after := #[], guard := none }) (v := ?v4nb11) ?a4nb11 ?b4nb11 ?c4nb11 ?d4nb11 ?e4nb11 (fun _ _ _ h => ⟨h.1, Door.put h.2.1 (by decide) (by decide), h.2.2⟩) (Or.inl ⟨?f4nb11, ?y4nb11⟩) (by assumption) ?r4nb11
      case a4nb11 => rfl
      case b4nb11 => kernel_rfl
      case c4nb11 => kernel_rfl
      case d4nb11 => kernel_rfl
      case e4nb11 => kernel_rfl
      case f4nb11 => rfl
      case y4nb11 => (intro w' hSw; (try dsimp only at hSw); go_simp; try with_reducible rfl)
      try simp only [Act.put, List.setIfInBounds_toArray, List.set_cons_zero, List.set_cons_succ]
      refine AnyJ.one (i := 5) (o := { dst := some 84, op := Op.call { callee := Callee.value (Operand.func 35), args := #[Operand.tmp 83], argTypes := #[63] }, type := 3, pos := "code.go:268", after := #[{ on := 4, ground := .data }], guard := none }) ?pb12 ?qb12 ?_
      case pb12 => kernel_rfl
      case qb12 => rfl
      intro K' hK
      go_simp
      refine (byte_any _ S lb (op :: q) HLD.out).mono ?_
      rintro e w7 ⟨rfl, hL7, hU7⟩
      have U7 := HU0.out.trans hU7 (fun _ _ h => h)
      have X7 := HC.out.upd U7 hpl
      refine hK.out _ _ (.inr (X7.cellv rfl)) ?_; clear hK K'
      try simp only [Act.put, List.setIfInBounds_toArray, List.set_cons_zero, List.set_cons_succ]
      refine AnyJ.one (i := 6) (o := { dst := some 85, op := Op.call { callee := Callee.value (Operand.func 34), args := #[Operand.tmp 82, Operand.tmp 84], argTypes := #[89, 3] }, type := 48, pos := "code.go:268", after := #[{ on := 3, ground := .data }, { on := 5, ground := .data }, { on := 5, ground := .chain }], guard := none }) ?pb13 ?qb13 ?_
      case pb13 => kernel_rfl
      case qb13 => rfl
      intro K' hK
      go_simp
      refine (fieldsL_any _ S lb q op hL7 (fun b hb => by have := hS b hb; have := X7.lt; omega)).mono ?_
      rw [HF.out]
      rintro e w8 ⟨rfl, hU8⟩
      exact ⟨rfl, ⟨rfl, rfl, rfl⟩, U7.trans hU8 (fun _ _ h => h), HF.out⟩
    | some xr =>
      obtain ⟨x, r⟩ := xr
      refine AnyJ.begin 10 (fun w' => w'.cell? ⟨pb, 0, none⟩ = some (.slice A is.length c)) (by kernel_rfl) (HC.out.cellv rfl) (fun hSS => ?_)
      refine AnyJ.take (i := 0) (oi := { dst := some 79, op := Op.fieldAddr 24 (Operand.tmp 2) 0, type := 0, pos := "code.go:268", after := #[], guard := none }) (v := ?v0nc14) ?a0nc14 ?b0nc14 ?c0nc14 ?d0nc14 ?e0nc14 (fun _ _ _ h => ⟨h.1, Door.put h.2.1 (by decide) (by decide), h.2.2⟩) (Or.inl ⟨?f0nc14, ?y0nc14⟩) (by assumption) ?r0nc14
      case a0nc14 => rfl
      case b0nc14 => kernel_rfl
      case c0nc14 => kernel_rfl
      case d0nc14 => kernel_rfl
      case e0nc14 => kernel_rfl
      case f0nc14 => rfl
      case y0nc14 => (intro w' hSw; (try dsimp only at hSw); go_simp; try with_reducible rfl)
      try simp only [Act.put, List.setIfInBounds_toArray, List.set_cons_zero, List.set_cons_succ]
      refine AnyJ.take (i := 1) (oi := { dst := some 80, op := Op.load 22 (Operand.tmp 79), type := 22, pos := "code.go:268", after := #[{ on := 0, ground := .data }], guard := none }) (v := ?v1nc15) ?a1nc15 ?b1nc15 ?c1nc15 ?d1nc15 ?e1nc15 (fun _ _ _ h => ⟨h.1, Door.put h.2.1 (by decide) (by decide), h.2.2⟩) (Or.inl ⟨?f1nc15, ?y1nc15⟩) (by assumption) ?r1nc15
      case a1nc15 => rfl
      case b1nc15 => kernel_rfl
      case c1nc15 => kernel_rfl
      case d1nc15 => kernel_rfl
      case e1nc15 => kernel_rfl
      case f1nc15 => rfl
      case y1nc15 => (intro w' hSw; (try dsimp only at hSw); go_simp; try with_reducible rfl)
      try simp only [Act.put, List.setIfInBounds_toArray, List.set_cons_zero, List.set_cons_succ]
      refine AnyJ.take (i := 2) (oi := { dst := some 81, op := Op.move (Operand.tmp 7), type := 63, pos := "code.go:268", after := #[], guard := none }) (v := ?v2nc16) ?a2nc16 ?b2nc16 ?c2nc16 ?d2nc16 ?e2nc16 (fun _ _ _ h => ⟨h.1, Door.put h.2.1 (by decide) (by decide), h.2.2⟩) (Or.inl ⟨?f2nc16, ?y2nc16⟩) (by assumption) ?r2nc16
      case a2nc16 => rfl
      case b2nc16 => kernel_rfl
      case c2nc16 => kernel_rfl
      case d2nc16 => kernel_rfl
      case e2nc16 => kernel_rfl
      case f2nc16 => rfl
      case y2nc16 => (intro w' hSw; (try dsimp only at hSw); go_simp; try with_reducible rfl)
      try simp only [Act.put, List.setIfInBounds_toArray, List.set_cons_zero, List.set_cons_succ]
      refine AnyJ.take (i := 3) (oi := { dst := some 82, op := Op.makeInterface 63 (Operand.tmp 81), type := 89, pos := "code.go:268", after := #[{ on := 2, ground := .data }], guard := none }) (v := ?v3nc17) ?a3nc17 ?b3nc17 ?c3nc17 ?d3nc17 ?e3nc17 (fun _ _ _ h => ⟨h.1, Door.put h.2.1 (by decide) (by decide), h.2.2⟩) (Or.inl ⟨?f3nc17, ?y3nc17⟩) (by assumption) ?r3nc17
      case a3nc17 => rfl
      case b3nc17 => kernel_rfl
      case c3nc17 => kernel_rfl
      case d3nc17 => kernel_rfl
      case e3nc17 => kernel_rfl
      case f3nc17 => rfl
      case y3nc17 => (intro w' hSw; (try dsimp only at hSw); go_simp; try with_reducible rfl)
      try simp only [Act.put, List.setIfInBounds_toArray, List.set_cons_zero, List.set_cons_succ]
      refine AnyJ.take (i := 4) (oi := { dst := some 83, op := Op.move (Operand.tmp 7), type := 63, pos := "code.go:268", after := #[], guard := none }) (v := ?v4nc18) ?a4nc18 ?b4nc18 ?c4nc18 ?d4nc18 ?e4nc18 (fun _ _ _ h => ⟨h.1, Door.put h.2.1 (by decide) (by decide), h.2.2⟩) (Or.inl ⟨?f4nc18, ?y4nc18⟩) (by assumption) ?r4nc18
      case a4nc18 => rfl
      case b4nc18 => kernel_rfl
      case c4nc18 => kernel_rfl
      case d4nc18 => kernel_rfl
      case e4nc18 => kernel_rfl
      case f4nc18 => rfl
      case y4nc18 => (intro w' hSw; (try dsimp only at hSw); go_simp; try with_reducible rfl)
      try simp only [Act.put, List.setIfInBounds_toArray, List.set_cons_zero, List.set_cons_succ]
      refine AnyJ.one (i := 5) (o := { dst := some 84, op := Op.call { callee := Callee.value (Operand.func 35), args := #[Operand.tmp 83], argTypes := #[63] }, type := 3, pos := "code.go:268", after := #[{ on := 4, ground := .data }], guard := none }) ?pc19 ?qc19 ?_
      case pc19 => kernel_rfl
      case qc19 => rfl
      intro K' hK
      go_simp
      refine (byte_any _ S lb (op :: q) HLD.out).mono ?_
      rintro e w7 ⟨rfl, hL7, hU7⟩
      have U7 := HU0.out.trans hU7 (fun _ _ h => h)
      have X7 := HC.out.upd U7 hpl
      refine hK.out _ _ (.inr (X7.cellv rfl)) ?_; clear hK K'
      try simp only [Act.put, List.setIfInBounds_toArray, List.set_cons_zero, List.set_cons_succ]
      refine AnyJ.one (i := 6) (o := { dst := some 85, op := Op.call { callee := Callee.value (Operand.func 34), args := #[Operand.tmp 82, Operand.tmp 84], argTypes := #[89, 3] }, type := 48, pos := "code.go:268", after := #[{ on := 3, ground := .data }, { on := 5, ground := .data }, { on := 5, ground := .chain }], guard := none }) ?pc20 ?qc20 ?_
      case pc20 => kernel_rfl
      case qc20 => rfl
      intro K' hK
      go_simp
      refine (fieldsL_any _ S lb q op hL7 (fun b hb => by have := hS b hb; have := X7.lt; omega)).mono ?_
      rw [HF.out]
      rintro e w8 ⟨B, cc, rfl, hO8, hL8, hU8⟩
      have U8 := U7.trans hU8 (fun _ _ h => h)
      have X8 := HC.out.upd U8 hpl
      have hs7 := U7.size
      refine hK.out _ _ (.inr (X8.cellv rfl)) ?_; clear hK K'
      try simp only [Act.put, List.setIfInBounds_toArray, List.set_cons_zero, List.set_cons_succ]
      refine AnyJ.one (i := 7) (o := { dst := some 86, op := Op.buildSlice 22 1 #[(0, Operand.tmp 85)], type := 22, pos := "code.go:268", after := #[{ on := 6, ground := .data }], guard := none }) ?pc21 ?qc21 ?_
      case pc21 => kernel_rfl
      case qc21 => rfl
      intro K' hK
      go_simp
      have U9 := U8.alloc (.cells #[.int .i64 x.op, .int .i64 x.x, .int .i64 x.y, .int .i64 x.arg, .slice B x.rs.length cc] 48)
      have X9 := HC.out.upd U9 hpl
      have hs8 := U8.size
      refine hK.out _ _ (.inr (X9.cellv rfl)) ?_; clear hK K'
      try simp only [Act.put, List.setIfInBounds_toArray, List.set_cons_zero, List.set_cons_succ]
      refine AnyJ.one (i := 8) (o := { dst := some 87, op := Op.call { callee := Callee.builtin Builtin.append, args := #[Operand.tmp 80, Operand.tmp 86], argTypes := #[22, 22] }, type := 22, pos := "code.go:268", after := #[{ on := 1, ground := .data }, { on := 7, ground := .data }, { on := 6, ground := .chain }], guard := none }) ?pc22 ?qc22 ?_
      case pc22 => kernel_rfl
      case qc22 => rfl
      intro K' hK
      have P9 := HP.out.upd U9 (fun b hb (e : b = lb) => by omega)
      have O9 : (w8.alloc (.cells #[.int .i64 x.op, .int .i64 x.x, .int .i64 x.y, .int .i64 x.arg, .slice B x.rs.length cc] 48)).ownsRow base 50 2 (.slice B x.rs.length cc) x.rs.length (pairv x.rs) := own_base (own_upd hO8 ((Upd.refl Nob w8).alloc _) (fun _ _ => not_nob)) (fun b hb => by have := own_lo hO8 hb; omega)
      refine step_append_lies _ rfl (.tmp 80) (.tmp 86) 22 rfl base 48 i0 _ 5 56 Tryd.underlying22 hi0 hz0 hz1 hz2 rfl (by decide) (.slice A is.length c) is.length (flatI is gs) (by rfl) P9.row ⟨w8.heap.size, 0, none⟩ 1 1 (instCells x B x.rs.length cc).toList (by rfl) (by rfl) (World.news_of_block (cs := instCells x B x.rs.length cc) (t := 48) (fr := (0, 0)) (heap_alloc_new w8 _)) (by intro u hu; simp [instCells] at hu; rcases hu with rfl | rfl | rfl | rfl | rfl <;> rfl) (by decide) (by unfold maxLen; omega) (by omega) (by simp; omega) (w8.heap.size + 1) (by simp) ?_
      intro gN cN wN oN gr hat hltN
      have OB := fun b (hb : (Value.slice A is.length c).ownBlock = some b) => own_lo P9.row hb
      have UN := (U9.mono (G := fun b => b = pb ∨ b = lb ∨ base ≤ b) (fun b _ h => .inr (.inl h))).grown gr (fun b hb _ => .inr (.inr (OB b hb)))
      have UB := (Upd.refl (fun b => (Value.slice A is.length c).ownBlock = some b) (w8.alloc (.cells #[.int .i64 x.op, .int .i64 x.x, .int .i64 x.y, .int .i64 x.arg, .slice B x.rs.length cc] 48))).grown gr (fun b hb _ => hb)
      have XN := X9.upd UB (own_ne P9.row X9 (by decide))
      have PN := P9.more O9 (fun i B' cc' b hg hb hb2 => by have hi := (List.getElem?_eq_some_iff.1 hg).1; have h1 := HPA.out i B' cc' b hg hb; have h2 := own_lo hO8 (ownBlock_map.2 hb2); omega) oN gr
      have LN := (hL8.upd ((Upd.refl Nob w8).alloc (.cells #[.int .i64 x.op, .int .i64 x.x, .int .i64 x.y, .int .i64 x.arg, .slice B x.rs.length cc] 48)) not_nob (fun _ _ => not_nob)).upd UB (fun h => by have := OB lb h; omega) (fun b hb h => by have h1 := OB b h; have h2 := hS b hb; omega)
      refine hK.out _ _ (.inr (XN.cellv rfl)) ?_; clear hK K'
      try simp only [Act.put, List.setIfInBounds_toArray, List.set_cons_zero, List.set_cons_succ]
      have x4 : wN.cell? ⟨pb, 0, none⟩ = some (.slice A is.length c) := XN.cellv rfl
      have z4 : wN.frozen? ⟨pb, 0, none⟩ = false := XN.frozen _
      refine AnyJ.take (i := 9) (oi := { dst := some 88, op := Op.fieldAddr 24 (Operand.tmp 2) 0, type := 0, pos := "code.go:268", after := #[{ on := 0, ground := .phase }, { on := 1, ground := .phase }, { on := 2, ground := .phase }, { on := 3, ground := .phase }, { on := 4, ground := .phase }, { on := 5, ground := .phase }, { on := 6, ground := .phase }, { on := 7, ground := .phase }, { on := 8, ground := .phase }], guard := none }) (v := ?v9nc23) ?a9nc23 ?b9nc23 ?c9nc23 ?d9nc23 ?e9nc23 (fun _ _ _ h => ⟨h.1, Door.put h.2.1 (by decide) (by decide), h.2.2⟩) (Or.inl ⟨?f9nc23, ?y9nc23⟩) (by assumption) ?r9nc23
      case a9nc23 => rfl
      case b9nc23 => kernel_rfl
      case c9nc23 => kernel_rfl
      case d9nc23 => kernel_rfl
      case e9nc23 => kernel_rfl
      case f9nc23 => rfl
      case y9nc23 => (intro w' hSw; (try dsimp only at hSw); go_simp; try with_reducible rfl)
      try simp only [Act.put, List.setIfInBounds_toArray, List.set_cons_zero, List.set_cons_succ]
      refine AnyJ.one (i := 10) (o := { dst := none, op := Op.store 22 (Operand.tmp 88) (Operand.tmp 87), type := 0, pos := "code.go:268", after := #[{ on := 9, ground := .data }, { on := 8, ground := .data }, { on := 8, ground := .chain }, { on := 0, ground := .phase }, { on := 1, ground := .phase }, { on := 2, ground := .phase }, { on := 3, ground := .phase }, { on := 4, ground := .phase }, { on := 5, ground := .phase }, { on := 6, ground := .phase }, { on := 7, ground := .phase }, { on := 8, ground := .phase }], guard := none }) ?pc24 ?qc24 ?_
      case pc24 => kernel_rfl
      case qc24 => rfl
      intro K' hK
      go_simp
      refine hK.out _ _ (.inl rfl) ?_; clear hK K'
      refine AnyJ.done ?_ ?_ _
      · kernel_rfl
      have XE := XN.set_ 0 (.slice (some ⟨gN, 0, none⟩) (is.length + 1) cN)
      have UE := (Upd.refl (fun b => b = pb) wN).setCell ⟨pb, 0, none⟩ (.slice (some ⟨gN, 0, none⟩) (is.length + 1) cN) (fun _ => rfl)
      exact HY.out _ _ HF.out _ _ _ _ _ _ _ _ _ _ _ _ _ _ XE (PN.upd UE (fun b hb (e : b = pb) => by omega)) (LN.upd UE (fun e => by omega) (fun b hb (e : b = pb) => by have := hS b hb; omega)) (UN.trans UE (fun b _ h => .inl h))
end Go.Proofs.YtdbdokjlcdogiaaDoor

/-
  What code.Load's way through needs: the numbers of what was read, a program of the call's own as instructions, the code behind so many parts.
-/
namespace Go.Proofs.YtdbdokjlcdogiaaDoor
open Go.RowKit
set_option linter.unusedVariables false

/-- what stands behind the first n parts of a sequence -/
def seqAt : Code → Nat → Code
  | c, 0 => c
  | .seq _ b, n + 1 => seqAt b n
  | c, _ + 1 => c

theorem instsF_step (n : Nat) (bs : List Int) : instsF (n + 1) bs = match opF bs with
    | none => none
    | some (x, q) => match instsF n q with
      | none => none
      | some (is, q2) => some (x :: is, q2) := by cases bs <;> rfl

/-! ### the numbers of what was read -/
def Bys (bs : List Int) : Prop := ∀ x ∈ bs, 0 ≤ x ∧ x ≤ 255
theorem numB_in {bs : List Int} {k : Int} {r : List Int} (hb : Bys bs) (h : numB bs = some (k, r)) : 0 ≤ k ∧ k < 268435456 ∧ Bys r ∧ r.length ≤ bs.length := by
  obtain ⟨h1, h2, l, rfl, -⟩ := num_small 4 0 1 true bs k r hb (by omega) (by omega) h
  refine ⟨h1, by omega, fun x hx => hb x (by simp [hx]), by simp⟩
theorem in64_small {k : Int} (h0 : 0 ≤ k) (h1 : k < 268435456) : In64 k := by unfold In64; omega
theorem rangesF_in : ∀ (n : Nat) (bs : List Int) (rs : List (Int × Int)) (r : List Int), Bys bs → rangesF n bs = some (rs, r) → In64s rs ∧ rs.length = n ∧ Bys r
  | 0, bs, rs, r, hb, h => by
    unfold rangesF at h
    injection h with h
    injection h with h1 h2
    subst h1 h2
    exact ⟨fun x hx => by simp at hx, rfl, hb⟩
  | n + 1, bs, rs, r, hb, h => by
    rw [rangesF_more] at h
    cases h1 : numB bs with
    | none => rw [h1] at h; cases h
    | some a =>
      obtain ⟨lo, r1⟩ := a
      rw [h1] at h
      simp only at h
      obtain ⟨a1, a2, a3, -⟩ := numB_in hb h1
      cases h2 : numB r1 with
      | none => rw [h2] at h; cases h
      | some b =>
        obtain ⟨hi, r2⟩ := b
        rw [h2] at h
        simp only at h
        obtain ⟨b1, b2, b3, -⟩ := numB_in a3 h2
        cases h3 : rangesF n r2 with
        | none => rw [h3] at h; cases h
        | some c =>
          obtain ⟨rs', r3⟩ := c
          rw [h3] at h
          simp only at h
          injection h with h
          injection h with e1 e2
          obtain ⟨c1, c2, c3⟩ := rangesF_in n r2 rs' r3 b3 h3
          subst e1 e2
          refine ⟨fun x hx => ?_, by simp [c2], c3⟩
          rcases List.mem_cons.1 hx with rfl | hx
          · exact ⟨in64_small a1 a2, in64_small b1 b2⟩
          · exact c1 x hx
/-- an instruction whose numbers are an int's -/
def NumI (x : PInst) : Prop := In64I x ∧ In64s x.rs ∧ x.rs.length ≤ 140737488355328
theorem in64_0 : In64 0 := by unfold In64; omega
theorem numI_of {op a b c : Int} (ho : In64 op) (ha : In64 a) (hb : In64 b) (hc : In64 c) : NumI ⟨op, a, b, c, []⟩ := ⟨⟨ho, ha, hb, hc⟩, fun x hx => by simp at hx, by simp⟩
theorem fieldsB_in {op : Int} {bs : List Int} {x : PInst} {q : List Int} (hb : Bys bs) (hl : bs.length ≤ 8388608) (h : fieldsB op bs = some (x, q)) : NumI x := by
  unfold fieldsB at h
  have s0 := in64_0
  have i1 : In64 1 := by unfold In64; omega
  have i2 : In64 2 := by unfold In64; omega
  have i5 : In64 5 := by unfold In64; omega
  have i6 : In64 6 := by unfold In64; omega
  have i7 : In64 7 := by unfold In64; omega
  split at h
  · cases h1 : numB bs with
    | none => rw [h1] at h; cases h
    | some a =>
      obtain ⟨k, r⟩ := a
      rw [h1] at h
      simp only at h
      obtain ⟨a1, a2, a3, a4⟩ := numB_in hb h1
      cases h2 : numB r with
      | none => rw [h2] at h; cases h
      | some b =>
        obtain ⟨m, r2⟩ := b
        rw [h2] at h
        simp only at h
        obtain ⟨b1, b2, b3, b4⟩ := numB_in a3 h2
        split at h
        · cases h3 : rangesF m.toNat r2 with
          | none => rw [h3] at h; cases h
          | some c =>
            obtain ⟨rs, r3⟩ := c
            rw [h3] at h
            simp only at h
            injection h with h
            injection h with e1 e2
            obtain ⟨c1, c2, c3⟩ := rangesF_in _ _ _ _ b3 h3
            subst e1
            exact ⟨⟨i1, in64_small a1 a2, s0, s0⟩, c1, by show rs.length ≤ _; omega⟩
        · cases h
  split at h
  · cases h1 : numB bs with
    | none => rw [h1] at h; cases h
    | some a =>
      obtain ⟨k, r⟩ := a
      rw [h1] at h
      simp only at h
      obtain ⟨a1, a2, a3, a4⟩ := numB_in hb h1
      cases h2 : numB r with
      | none => rw [h2] at h; cases h
      | some b =>
        obtain ⟨m, r2⟩ := b
        rw [h2] at h
        simp only at h
        obtain ⟨b1, b2, b3, b4⟩ := numB_in a3 h2
        injection h with h
        injection h with e1 e2
        subst e1
        exact numI_of i2 (in64_small a1 a2) (in64_small b1 b2) s0
  split at h
  · rename_i hop
    cases h1 : numB bs with
    | none => rw [h1] at h; cases h
    | some a =>
      obtain ⟨k, r⟩ := a
      rw [h1] at h
      simp only at h
      obtain ⟨a1, a2, a3, a4⟩ := numB_in hb h1
      cases h2 : numB r with
      | none => rw [h2] at h; cases h
      | some b =>
        obtain ⟨m, r2⟩ := b
        rw [h2] at h
        simp only at h
        obtain ⟨b1, b2, b3, b4⟩ := numB_in a3 h2
        injection h with h
        injection h with e1 e2
        subst e1
        exact numI_of (by unfold In64; omega) (in64_small b1 b2) s0 (in64_small a1 a2)
  split at h
  · cases h1 : numB bs with
    | none => rw [h1] at h; cases h
    | some a =>
      obtain ⟨k, r⟩ := a
      rw [h1] at h
      simp only at h
      obtain ⟨a1, a2, a3, a4⟩ := numB_in hb h1
      injection h with h
      injection h with e1 e2
      subst e1
      exact numI_of i7 (in64_small a1 a2) s0 s0
  split at h
  · cases h1 : numB bs with
    | none => rw [h1] at h; cases h
    | some a =>
      obtain ⟨k, r⟩ := a
      rw [h1] at h
      simp only at h
      obtain ⟨a1, a2, a3, a4⟩ := numB_in hb h1
      injection h with h
      injection h with e1 e2
      subst e1
      exact numI_of i5 s0 s0 (in64_small a1 a2)
  split at h
  · injection h with h
    injection h with e1 e2
    subst e1
    exact numI_of i6 s0 s0 s0
  · cases h
theorem opF_in {bs : List Int} {x : PInst} {q : List Int} (hb : Bys bs) (hl : bs.length ≤ 8388608) (h : opF bs = some (x, q)) : NumI x := by
  cases bs with
  | nil => cases h
  | cons op r => exact fieldsB_in (fun y hy => hb y (by simp [hy])) (by simp at hl; omega) h

/-! ### a program of the call's own -/
theorem ProgW.base_ {w : World} {base base' : Nat} {A : Option Addr} {c : Nat} {is : List PInst} {gs : List (Option Addr × Nat)} (h : ProgW w base A c is gs) (hb : base' ≤ base) : ProgW w base' A c is gs :=
  ⟨h.len, own_base h.row (fun g hg => Nat.le_trans hb (own_lo h.row hg)), fun i x B cc hx hg => own_base (h.own i x B cc hx hg) (fun g hk => Nat.le_trans hb (own_lo (h.own i x B cc hx hg) hk)), h.apart⟩
theorem ProgW.none_ (w : World) (base : Nat) : ProgW w base none 0 [] [] := ⟨rfl, World.ownsRow_nil _ _ _ _, fun i x B cc hx => by simp at hx, fun i j B B' cc cc' b hg => by simp at hg⟩
theorem flatI_at : ∀ (is : List PInst) (gs : List (Option Addr × Nat)) (i : Nat) (x : PInst) (B : Option Addr) (cc : Nat), is[i]? = some x → gs[i]? = some (B, cc) → ∀ (j : Nat) (v : Value), (instCells x B x.rs.length cc)[j]? = some v → (flatI is gs)[i * 5 + j]? = some v
  | [], gs, i, x, B, cc, hx, hg, j, v, hv => by simp at hx
  | y :: is, [], i, x, B, cc, hx, hg, j, v, hv => by simp at hg
  | y :: is, (B', c') :: gs, 0, x, B, cc, hx, hg, j, v, hv => by
    simp only [List.getElem?_cons_zero, Option.some.injEq, Prod.mk.injEq] at hx hg
    obtain ⟨rfl, rfl⟩ := hg
    subst hx
    have hj : j < 5 := (Array.getElem?_eq_some_iff.1 hv).1
    unfold flatI
    rw [List.getElem?_append_left (by simp [instCells]; omega)]
    simpa using hv
  | y :: is, (B', c') :: gs, i + 1, x, B, cc, hx, hg, j, v, hv => by
    simp only [List.getElem?_cons_succ] at hx hg
    unfold flatI
    rw [List.getElem?_append_right (by simp [instCells]; omega)]
    have := flatI_at is gs i x B cc hx hg j v hv
    rw [← this]
    congr 1
    simp [instCells]
    omega
theorem ProgW.insts {w : World} {base : Nat} {A : Option Addr} {c : Nat} {is : List PInst} {gs : List (Option Addr × Nat)} (h : ProgW w base A c is gs) (hn : ∀ x ∈ is, NumI x) : InstsR w (fun b => base ≤ b) A is.length is := by
  refine ⟨rfl, fun i x hx => ?_⟩
  have hi := (List.getElem?_eq_some_iff.1 hx).1
  obtain ⟨B, cc, hg⟩ : ∃ B cc, gs[i]? = some (B, cc) := ⟨_, _, List.getElem?_eq_getElem (by rw [h.len]; exact hi)⟩
  obtain ⟨g, cap, hv, hb, hl⟩ := h.row.form (by omega)
  obtain ⟨rfl, -, rfl⟩ : A = some ⟨g, 0, none⟩ ∧ is.length = is.length ∧ c = cap := by injection hv with a b c; exact ⟨a, b, c⟩
  obtain ⟨ad, e, -, -, hc⟩ := (Reads.of_own h.row).2 (by omega)
  injection e with e
  subst e
  have ho := h.own i x B cc hx hg
  have hN := hn x (List.mem_of_getElem? hx)
  refine ⟨_, g, i * 5, B, x.rs.length, cc, rfl, by rw [add_lit_, Nat.zero_add], hb, hl, ⟨(Reads.of_own ho).weaken (fun b hb2 => own_lo ho hb2), hN.2.1, hN.2.2⟩, hN.1, fun j v hv => ?_⟩
  have := hc (i * 5 + j) v (flatI_at is gs i x B cc hx hg j v hv)
  rwa [add_lit_, Nat.zero_add] at this
theorem reads_drop {w : World} {S : Nat → Prop} {ad : Addr} {n k : Nat} {bs : List Int} (h : Reads w S 1 (some ad) n (bytv bs)) (hk : k ≤ n) : Reads w S 1 (some (ad.add k)) (n - k) (bytv (bs.drop k)) := by
  have hl : bs.length = n := by have := h.1; simpa [bytv] using this
  refine ⟨by simp [bytv]; omega, fun hp => ?_⟩
  obtain ⟨ad', e, hb, hs, hc⟩ := h.2 (by omega)
  injection e with e
  subst e
  refine ⟨_, rfl, by rw [add_block]; exact hb, by rw [add_block]; exact hs, fun j u hu => ?_⟩
  rw [add_add_]
  exact hc _ u (by simpa [bytv, List.getElem?_drop] using hu)
/-- four stores of the results -/
theorem upd_four (w : World) (pb eb : Nat) (v0 v1 v2 v3 : Value) : Upd (fun b => b = pb ∨ b = eb) w ((((w.setCell ⟨pb, 0, none⟩ v0).setCell ⟨pb, 1, none⟩ v1).setCell ⟨pb, 2, none⟩ v2).setCell ⟨eb, 0, none⟩ v3) :=
  ((((Upd.refl (fun b => b = pb ∨ b = eb) w).setCell ⟨pb, 0, none⟩ v0 (fun _ => .inl rfl)).setCell ⟨pb, 1, none⟩ v1 (fun _ => .inl rfl)).setCell ⟨pb, 2, none⟩ v2 (fun _ => .inl rfl)).setCell ⟨eb, 0, none⟩ v3 (fun _ => .inr rfl)
/-- the check, each way -/
theorem check_yes {w : World} {base : Nat} {A : Option Addr} {c : Nat} {is : List PInst} {gs : List (Option Addr × Nat)} {start caps : Int} (h : ProgW w base A c is gs) (hn : ∀ x ∈ is, NumI x) (hs : In64 start) (hc : In64 caps) (hl : is.length ≤ 20000) (hb : checkB is start caps = true) :
    Calls Tryd.prog 37 #[.agg #[.slice A is.length c, .int .i64 start, .int .i64 caps]] w fun e w' => e = .returned (.int .i64 0) ∧ Upd Nob w w' :=
  (check_any w _ A is.length c is start caps (h.insts hn) hs hc (by omega)).mono (fun e w' h => by rw [hb] at h; exact h)
theorem check_not {w : World} {base : Nat} {A : Option Addr} {c : Nat} {is : List PInst} {gs : List (Option Addr × Nat)} {start caps : Int} (h : ProgW w base A c is gs) (hn : ∀ x ∈ is, NumI x) (hs : In64 start) (hc : In64 caps) (hl : is.length ≤ 20000) (hb : ¬ checkB is start caps = true) :
    Calls Tryd.prog 37 #[.agg #[.slice A is.length c, .int .i64 start, .int .i64 caps]] w fun e w' => e = .returned (.int .i64 90) ∧ Upd Nob w w' :=
  (check_any w _ A is.length c is start caps (h.insts hn) hs hc (by omega)).mono (fun e w' h => by rw [(Bool.not_eq_true _).mp hb] at h; exact h)
end Go.Proofs.YtdbdokjlcdogiaaDoor

/-
  Rows of structs that came out, each in a block of its own: filled with a pattern, grown, read back. Plain lemmas over memory; nothing of the program.
-/
namespace Go.Proofs.YtdbdokjlcdogiaaDoor
open Go.RowKit
set_option linter.unusedVariables false

/-- a row that came out: where, how many, the room -/
abbrev Row3 := Option Addr × Nat × Nat
def rowV (r : Row3) : Value := .slice r.1 r.2.1 r.2.2
/-- the first m elements, of so many cells, are pat -/
def PatTo (pat : List Value) (size m : Nat) (xs : List Value) : Prop := ∀ j, j < m * size → xs[j]? = pat[j % size]?
theorem PatTo.zero (pat : List Value) (size : Nat) (xs : List Value) : PatTo pat size 0 xs := fun j hj => by omega
theorem PatTo.put2 {a b : Value} {k n : Nat} {xs : List Value} (h : PatTo [a, b] 2 k xs) (hl : xs.length = n * 2) (hk : k < n) : PatTo [a, b] 2 (k + 1) ((xs.set (k * 2) a).set (k * 2 + 1) b) := fun j hj => by
  rw [List.getElem?_set, List.getElem?_set]
  by_cases h1 : k * 2 + 1 = j
  · rw [if_pos h1, if_pos (by simp; omega), show j % 2 = 1 by omega]
    rfl
  · rw [if_neg h1]
    by_cases h2 : k * 2 = j
    · rw [if_pos h2, if_pos (by omega), show j % 2 = 0 by omega]
      rfl
    · rw [if_neg h2]
      exact h j (by omega)
theorem PatTo.put5 {a b c d e : Value} {k n : Nat} {xs : List Value} (h : PatTo [a, b, c, d, e] 5 k xs) (hl : xs.length = n * 5) (hk : k < n) :
    PatTo [a, b, c, d, e] 5 (k + 1) (((((xs.set (k * 5) a).set (k * 5 + 1) b).set (k * 5 + 2) c).set (k * 5 + 3) d).set (k * 5 + 4) e) := fun j hj => by
  rw [List.getElem?_set, List.getElem?_set, List.getElem?_set, List.getElem?_set, List.getElem?_set]
  by_cases h5 : k * 5 + 4 = j
  · rw [if_pos h5, if_pos (by simp; omega), show j % 5 = 4 by omega]
    rfl
  rw [if_neg h5]
  by_cases h4 : k * 5 + 3 = j
  · rw [if_pos h4, if_pos (by simp; omega), show j % 5 = 3 by omega]
    rfl
  rw [if_neg h4]
  by_cases h3 : k * 5 + 2 = j
  · rw [if_pos h3, if_pos (by simp; omega), show j % 5 = 2 by omega]
    rfl
  rw [if_neg h3]
  by_cases h2 : k * 5 + 1 = j
  · rw [if_pos h2, if_pos (by simp; omega), show j % 5 = 1 by omega]
    rfl
  rw [if_neg h2]
  by_cases h1 : k * 5 = j
  · rw [if_pos h1, if_pos (by omega), show j % 5 = 0 by omega]
    rfl
  rw [if_neg h1]
  exact h j (by omega)
theorem PatTo.app {pat : List Value} {size n : Nat} {xs : List Value} (h : PatTo pat size n xs) (hl : xs.length = n * size) (hp : pat.length = size) : PatTo pat size (n + 2) (xs ++ (pat ++ pat)) := fun j hj => by
  have hz : (n + 2) * size = n * size + size + size := by rw [Nat.add_mul]; omega
  by_cases h1 : j < n * size
  · rw [List.getElem?_append_left (by omega)]
    exact h j h1
  · rw [List.getElem?_append_right (by omega), hl]
    obtain ⟨m, rfl⟩ : ∃ m, j = n * size + m := ⟨j - n * size, by omega⟩
    rw [Nat.add_sub_cancel_left, Nat.mul_comm n size, Nat.mul_add_mod]
    by_cases h2 : m < size
    · rw [List.getElem?_append_left (by omega), Nat.mod_eq_of_lt h2]
    · rw [List.getElem?_append_right (by omega), hp]
      have h3 : m % size = m - size := by
        rw [Nat.mod_eq_sub_mod (by omega), Nat.mod_eq_of_lt (by omega)]
      rw [h3]

/-- rows, each in a block of its own; those ahead of i are filled, row i up to k -/
structure RowsF (w : World) (base : Nat) (e : TypeId) (size : Nat) (pat : Nat → List Value) (rows : List Row3) (i k : Nat) : Prop where
  own : ∀ (j : Nat) (r : Row3), rows[j]? = some r → ∃ xs, w.ownsRow base e size (rowV r) r.2.1 xs ∧ PatTo (pat j) size (if j < i then r.2.1 else if j = i then k else 0) xs
  apart : ∀ (i j : Nat) r s b, rows[i]? = some r → rows[j]? = some s → (rowV r).ownBlock = some b → (rowV s).ownBlock = some b → i = j
  small : ∀ r ∈ rows, r.2.1 ≤ 10000000

section
variable {w w' : World} {base : Nat} {e : TypeId} {size : Nat} {pat : Nat → List Value} {rows : List Row3} {i k : Nat}
theorem RowsF.upd {F : Nat → Prop} (h : RowsF w base e size pat rows i k) (hU : Upd F w w') (hF : ∀ r b, r ∈ rows → (rowV r).ownBlock = some b → ¬ F b) : RowsF w' base e size pat rows i k :=
  ⟨fun j r hr => by
    obtain ⟨xs, hx, hp⟩ := h.own j r hr
    exact ⟨xs, own_upd hx hU (fun b hb => hF r b (List.mem_of_getElem? hr) hb), hp⟩, h.apart, h.small⟩
theorem RowsF.low (h : RowsF w base e size pat rows i k) {r : Row3} {b : Nat} (hr : r ∈ rows) (hb : (rowV r).ownBlock = some b) : base ≤ b := by
  obtain ⟨j, hj⟩ := List.mem_iff_getElem?.1 hr
  obtain ⟨xs, hx, -⟩ := h.own j r hj
  exact own_lo hx hb
theorem RowsF.lt (h : RowsF w base e size pat rows i k) {r : Row3} {b : Nat} (hr : r ∈ rows) (hb : (rowV r).ownBlock = some b) : b < w.heap.size := by
  obtain ⟨j, hj⟩ := List.mem_iff_getElem?.1 hr
  obtain ⟨xs, hx, -⟩ := h.own j r hj
  obtain ⟨cur, hc, -⟩ := own_cells hx hb
  exact hc.lt
/-- a block of cells of another type is no row's -/
theorem RowsF.ne (h : RowsF w base e size pat rows i k) {b : Nat} {t : TypeId} {cs : Array Value} (hc : Cells w b t cs) (hne : e ≠ t) : ∀ r b', r ∈ rows → (rowV r).ownBlock = some b' → ¬ b' = b := fun r b' hr hb e2 => by
  obtain ⟨j, hj⟩ := List.mem_iff_getElem?.1 hr
  obtain ⟨xs, hx, -⟩ := h.own j r hj
  subst e2
  exact own_ne hx hc hne hb
theorem RowsF.next (h : RowsF w base e size pat rows i k) {r : Row3} (hr : rows[i]? = some r) (hk : k = r.2.1) : RowsF w base e size pat rows (i + 1) 0 :=
  ⟨fun j s hs => by
    obtain ⟨xs, hx, hp⟩ := h.own j s hs
    refine ⟨xs, hx, ?_⟩
    by_cases h1 : j < i
    · rw [if_pos h1] at hp
      rw [if_pos (by omega)]
      exact hp
    · rw [if_neg h1] at hp
      by_cases h2 : j = i
      · rw [if_pos h2] at hp
        subst h2
        rw [hr] at hs
        injection hs with hs
        subst hs
        rw [if_pos (by omega), ← hk]
        exact hp
      · rw [if_neg (by omega)]
        split <;> exact PatTo.zero _ _ _, h.apart, h.small⟩
theorem RowsF.of (h : ∀ (j : Nat) (r : Row3), rows[j]? = some r → ∃ xs, w.ownsRow base e size (rowV r) r.2.1 xs) (ha : ∀ (i j : Nat) r s b, rows[i]? = some r → rows[j]? = some s → (rowV r).ownBlock = some b → (rowV s).ownBlock = some b → i = j) (hs : ∀ r ∈ rows, r.2.1 ≤ 10000000) : RowsF w base e size pat rows 0 0 :=
  ⟨fun j r hr => by
    obtain ⟨xs, hx⟩ := h j r hr
    refine ⟨xs, hx, ?_⟩
    rw [if_neg (by omega)]
    split <;> exact PatTo.zero _ _ _, ha, hs⟩
/-- the cells of an element -/
theorem RowsF.cell (h : RowsF w base e size pat rows i k) {j m : Nat} {A : Option Addr} {n c : Nat} (hr : rows[j]? = some (A, n, c)) (hm : m < n) (hsz : 0 < size) :
    ∃ g, A = some ⟨g, 0, none⟩ ∧ base ≤ g ∧ ∀ q, q < size → (∃ u, w.cell? ⟨g, m * size + q, none⟩ = some u) ∧ w.frozen? ⟨g, m * size + q, none⟩ = false := by
  obtain ⟨xs, hx, -⟩ := h.own j _ hr
  obtain ⟨g, cap, hv, hb, -⟩ := World.ownsRow.form hx (by simp only; omega)
  unfold rowV at hv
  injection hv with e1 _ e3
  simp only at e1 e3
  subst e1 e3
  refine ⟨g, rfl, hb, fun q hq => ?_⟩
  have hl : m * size + q < n * size := by
    have := Nat.mul_le_mul_right size (show m + 1 ≤ n from hm)
    rw [Nat.add_mul] at this
    omega
  have hxl : xs.length = n * size := hx.1
  refine ⟨⟨xs[m * size + q]'(by omega), ?_⟩, World.ownsRow.frozenAt hx _⟩
  rw [World.ownsRow.cellAt hx _ hl]
  exact List.getElem?_eq_getElem _
/-- what stands in a filled row -/
theorem RowsF.read (h : RowsF w base e size pat rows i k) {j m : Nat} {A : Option Addr} {n c : Nat} (hr : rows[j]? = some (A, n, c)) (hj : j < i) (hm : m < n) (hsz : 0 < size) {v : Value} (hv : (pat j)[0]? = some v) :
    ∃ g, A = some ⟨g, 0, none⟩ ∧ w.cell? ⟨g, m * size, none⟩ = some v := by
  obtain ⟨xs, hx, hp⟩ := h.own j _ hr
  obtain ⟨g, cap, hv2, hb, -⟩ := World.ownsRow.form hx (by simp only; omega)
  unfold rowV at hv2
  injection hv2 with e1 _ e3
  simp only at e1 e3
  subst e1 e3
  rw [if_pos hj] at hp
  have hl : m * size < n * size := Nat.mul_lt_mul_of_pos_right hm hsz
  refine ⟨g, rfl, ?_⟩
  rw [World.ownsRow.cellAt hx _ hl, hp _ hl, Nat.mul_mod_left]
  exact hv
theorem own_at {xs : List Value} {g n : Nat} {A : Option Addr} {m c : Nat} (h : w.ownsRow base e size (rowV (A, m, c)) n xs) (hb : (rowV (A, m, c)).ownBlock = some g) : A = some ⟨g, 0, none⟩ := by
  rcases h.2 with ⟨h0, _⟩ | ⟨g', cap, cur, hv, _⟩
  · rw [h0] at hb; cases hb
  · unfold rowV at hv hb
    injection hv with e1 _ _
    simp only at e1 hb
    subst e1
    injection hb with e
    simp only at e
    rw [e]
end

section
variable {w : World} {base : Nat} {e : TypeId} {rows : List Row3} {i k g n c : Nat}
theorem RowsF.put2 {p : Nat → Value} {q : Nat → Value} (h : RowsF w base e 2 (fun j => [p j, q j]) rows i k) (hr : rows[i]? = some (some ⟨g, 0, none⟩, n, c)) (hk : k < n) :
    RowsF ((w.setCell ⟨g, k * 2, none⟩ (p i)).setCell ⟨g, k * 2 + 1, none⟩ (q i)) base e 2 (fun j => [p j, q j]) rows i (k + 1) := by
  refine ⟨fun j r hj => ?_, h.apart, h.small⟩
  obtain ⟨xs, hx, hp⟩ := h.own j r hj
  by_cases hji : j = i
  · subst hji
    rw [hr] at hj
    injection hj with hj
    subst hj
    rw [if_neg (by omega), if_pos rfl] at hp
    refine ⟨_, (World.ownsRow.stored (World.ownsRow.stored hx (k * 2) (p j)).1 (k * 2 + 1) (q j)).1, ?_⟩
    rw [if_neg (by omega), if_pos rfl]
    exact hp.put2 hx.1 hk
  · have hne : (rowV r).ownBlock ≠ some g := fun hb => hji (h.apart j i r _ g hj hr hb rfl)
    exact ⟨xs, own_far (own_far hx _ _ hne) _ _ hne, by rw [if_neg hji] at hp ⊢; exact hp⟩
theorem RowsF.put5 {p : Nat → Value} {q1 q2 q3 q4 : Value} (h : RowsF w base e 5 (fun j => [p j, q1, q2, q3, q4]) rows i k) (hr : rows[i]? = some (some ⟨g, 0, none⟩, n, c)) (hk : k < n) :
    RowsF (((((w.setCell ⟨g, k * 5, none⟩ (p i)).setCell ⟨g, k * 5 + 1, none⟩ q1).setCell ⟨g, k * 5 + 2, none⟩ q2).setCell ⟨g, k * 5 + 3, none⟩ q3).setCell ⟨g, k * 5 + 4, none⟩ q4) base e 5 (fun j => [p j, q1, q2, q3, q4]) rows i (k + 1) := by
  refine ⟨fun j r hj => ?_, h.apart, h.small⟩
  obtain ⟨xs, hx, hp⟩ := h.own j r hj
  by_cases hji : j = i
  · subst hji
    rw [hr] at hj
    injection hj with hj
    subst hj
    rw [if_neg (by omega), if_pos rfl] at hp
    refine ⟨_, (World.ownsRow.stored (World.ownsRow.stored (World.ownsRow.stored (World.ownsRow.stored (World.ownsRow.stored hx (k * 5) (p j)).1 (k * 5 + 1) q1).1 (k * 5 + 2) q2).1 (k * 5 + 3) q3).1 (k * 5 + 4) q4).1, ?_⟩
    rw [if_neg (by omega), if_pos rfl]
    exact hp.put5 hx.1 hk
  · have hne : (rowV r).ownBlock ≠ some g := fun hb => hji (h.apart j i r _ g hj hr hb rfl)
    exact ⟨xs, own_far (own_far (own_far (own_far (own_far hx _ _ hne) _ _ hne) _ _ hne) _ _ hne) _ _ hne, by rw [if_neg hji] at hp ⊢; exact hp⟩
end
/-- a row, grown by two elements of its pattern -/
theorem RowsF.app {w w' : World} {base : Nat} {e : TypeId} {size : Nat} {pat : Nat → List Value} {rows : List Row3} {i : Nat} {A : Option Addr} {n c gN cN : Nat} {xs : List Value} (h : RowsF w base e size pat rows rows.length 0) (hr : rows[i]? = some (A, n, c))
    (hx : PatTo (pat i) size n xs) (hl : xs.length = n * size) (hp : (pat i).length = size) (hn : n + 2 ≤ 10000000)
    (oN : w'.ownsRow base e size (.slice (some ⟨gN, 0, none⟩) (n + 2) cN) (n + 2) (xs ++ (pat i ++ pat i))) (gr : w.grownBy w' (Value.slice A n c).ownBlock) (hat : (Value.slice A n c).ownBlock = some gN ∨ w.heap.size ≤ gN) :
    RowsF w' base e size pat (rows.set i (some ⟨gN, 0, none⟩, n + 2, cN)) (rows.set i (some ⟨gN, 0, none⟩, n + 2, cN)).length 0 := by
  have hil := (List.getElem?_eq_some_iff.1 hr).1
  have other : ∀ j r, j ≠ i → rows[j]? = some r → ∀ b, (rowV r).ownBlock = some b → b ≠ gN := fun j r hj hjr b hb e2 => by
    subst e2
    rcases hat with hat | hat
    · exact hj (h.apart j i r _ b hjr hr hb hat)
    · have := h.lt (List.mem_of_getElem? hjr) hb
      omega
  refine ⟨fun j r hj => ?_, fun j1 j2 r s b h1 h2 b1 b2 => ?_, fun r hr2 => ?_⟩
  · have hjl : j < rows.length := by have := (List.getElem?_eq_some_iff.1 hj).1; simpa using this
    rw [List.getElem?_set] at hj
    by_cases hji : i = j
    · subst hji
      rw [if_pos rfl, if_pos hil] at hj
      injection hj with hj
      subst hj
      refine ⟨_, oN, ?_⟩
      rw [if_pos (by simpa using hil)]
      exact hx.app hl hp
    · rw [if_neg hji] at hj
      obtain ⟨ys, hy, hq⟩ := h.own j r hj
      refine ⟨ys, own_upd hy ((Upd.refl (fun b => (Value.slice A n c).ownBlock = some b) w).grown gr (fun b hb _ => hb)) (fun b hb hb2 => hji (h.apart i j _ r b hr hj hb2 hb)), ?_⟩
      rw [if_pos hjl] at hq
      rw [if_pos (by simpa using hjl)]
      exact hq
  · rw [List.getElem?_set] at h1 h2
    by_cases e1 : i = j1 <;> by_cases e2 : i = j2
    · omega
    · subst e1
      rw [if_pos rfl, if_pos hil] at h1
      rw [if_neg e2] at h2
      injection h1 with h1
      subst h1
      injection b1 with b1
      exact absurd b1.symm (other j2 s (fun k => e2 k.symm) h2 b b2)
    · subst e2
      rw [if_pos rfl, if_pos hil] at h2
      rw [if_neg e1] at h1
      injection h2 with h2
      subst h2
      injection b2 with b2
      exact absurd b2.symm (other j1 r (fun k => e1 k.symm) h1 b b1)
    · rw [if_neg e1] at h1
      rw [if_neg e2] at h2
      exact h.apart j1 j2 r s b h1 h2 b1 b2
  · rcases List.mem_or_eq_of_mem_set hr2 with hr2 | rfl
    · exact h.small r hr2
    · exact hn
theorem rowV_set (rows : List Row3) (i : Nat) (r : Row3) : (rows.map rowV).set i (rowV r) = (rows.set i r).map rowV := by rw [List.map_set]
end Go.Proofs.YtdbdokjlcdogiaaDoor
