/-
  RefCheck, LoadB, Load7, put together.
-/
import Derived.Test.YtdbdokjlcdogiaaDoorZRefMay
import Derived.StillTailTactics
import Derived.Test.YtdbdokjlcdogiaaDoorZ08LoadA
import Derived.Deep.RegionHeld3

/-
  The walk of heronref09.Check.
-/
namespace Go.Proofs.YtdbdokjlcdogiaaDoor
open Go.RowKit
set_option linter.unusedVariables false

set_option maxRecDepth 100000 in
set_option maxHeartbeats 4000000 in
theorem ref_check (w : World) (S : Nat → Prop) (A : Option Addr) (n c : Nat) (is : List PInst) (start caps : Int) (h : InstsR w S A n is) (hs : In64 start) (hc : In64 caps) (hn : n ≤ 140737488355328) :
    Calls Tryd.prog 28 #[.agg #[.slice A n c, .int .i64 start, .int .i64 caps]] w fun e w' => e = .returned (.int .i64 (errOf (checkB is start caps))) ∧ Upd Nob w w' := by
  obtain rfl : is.length = n := h.len
  have C0 : Cells (w.alloc (.cells #[.slice A is.length c, .int .i64 start, .int .i64 caps] 24)) w.heap.size 24 #[.slice A is.length c, .int .i64 start, .int .i64 caps] := Cells.new _ _ _
  have hU := (Upd.refl Nob w).alloc (.cells #[.slice A is.length c, .int .i64 start, .int .i64 caps] 24)
  have s1 := hs.1
  have s2 := hs.2
  have k1 := hc.1
  have k2 := hc.2
  have H := hideP (h.upd hU (fun _ _ => not_nob))
  clear h
  go_enter Tryd.func28, Tryd.ntmps28
  go_upto_region 1 with fail
  generalize w.alloc (.cells #[.slice A is.length c, .int .i64 start, .int .i64 caps] 24) = w2 at *
  have bs := C0.lt
  generalize w.heap.size = b at *
  have HC := hideP C0
  have HU := hideP hU
  have e0 : w2.cell? ⟨b, 0, none⟩ = some (.slice A is.length c) := C0.cellv rfl
  have e1 : w2.cell? ⟨b, 0 + 1, none⟩ = some (.int .i64 start) := C0.cellv rfl
  have e2 : w2.cell? ⟨b, 0 + 2, none⟩ = some (.int .i64 caps) := C0.cellv rfl
  clear C0 hU
  by_cases h1 : is.length < 1
  · have hv := hideP (checkB_no (is := is) (start := start) (caps := caps) (by omega))
    go_wp2_with fail
    go_ret
    exact ⟨congrArg Ending.returned (congrArg (Value.int .i64) (by rw [hv.out]; rfl)), HU.out⟩
  by_cases h2 : 20000 < is.length
  · have hv := hideP (checkB_no (is := is) (start := start) (caps := caps) (by omega))
    go_wp2_with fail
    go_ret
    exact ⟨congrArg Ending.returned (congrArg (Value.int .i64) (by rw [hv.out]; rfl)), HU.out⟩
  by_cases h3 : start < 0
  · have hv := hideP (checkB_no (is := is) (start := start) (caps := caps) (by omega))
    go_wp2_with fail
    go_ret
    exact ⟨congrArg Ending.returned (congrArg (Value.int .i64) (by rw [hv.out]; rfl)), HU.out⟩
  by_cases h4 : (is.length : Int) ≤ start
  · have hv := hideP (checkB_no (is := is) (start := start) (caps := caps) (by omega))
    go_wp2_with fail
    go_ret
    exact ⟨congrArg Ending.returned (congrArg (Value.int .i64) (by rw [hv.out]; rfl)), HU.out⟩
  by_cases h6 : caps < 2
  · have hv := hideP (checkB_no (is := is) (start := start) (caps := caps) (by omega))
    go_wp2_with fail
    go_ret
    exact ⟨congrArg Ending.returned (congrArg (Value.int .i64) (by rw [hv.out]; rfl)), HU.out⟩
  by_cases h7 : 1002 < caps
  · have hv := hideP (checkB_no (is := is) (start := start) (caps := caps) (by omega))
    go_wp2_with fail
    go_ret
    exact ⟨congrArg Ending.returned (congrArg (Value.int .i64) (by rw [hv.out]; rfl)), HU.out⟩
  have hmod : IntKind.i64.wrap (caps.tmod 2) = caps.tmod 2 := by
    have h1 : caps.tmod 2 < 2 := Int.tmod_lt_of_pos caps (by decide)
    have h2 : -2 < caps.tmod 2 := Int.lt_tmod_of_pos caps (by decide)
    rw [IntKind.wrap_i64]
    omega
  have hmod' : IntKind.i64.wrap (caps % 2) = caps % 2 := by rw [IntKind.wrap_i64]; omega
  have hmod2 : caps.tmod 2 = caps % 2 := Int.tmod_eq_emod_of_nonneg (by omega)
  by_cases h5 : caps % 2 = 1
  · have hv := hideP (checkB_no (is := is) (start := start) (caps := caps) (by omega))
    have hb : (caps % 2 == 1) = true := by simpa using h5
    have hb' : (caps.tmod 2 == 1) = true := by rw [hmod2]; exact hb
    clear hmod2
    go_wp2_with fail
    go_ret
    exact ⟨congrArg Ending.returned (congrArg (Value.int .i64) (by rw [hv.out]; rfl)), HU.out⟩
  have hb : (caps % 2 == 1) = false := by simpa using h5
  have hb' : (caps.tmod 2 == 1) = false := by rw [hmod2]; exact hb
  have hv := checkB_in (is := is) (start := start) (caps := caps) (by omega)
  have HV := hideP hv
  clear hv hmod2
  go_wp2_with fail
  go_loopg [4] is.length (fun gk v4 wr => ∃ k : Nat, k + gk = is.length ∧ v4 = .int .i64 (k : Int) ∧ checkB is start caps = ((is.drop k).all fun x => mayB x is.length caps) ∧ Upd Nob w2 wr)
  case atStart => exact ⟨0, by omega, rfl, HV.out, Upd.refl _ _⟩
  case round =>
    obtain ⟨k, hk, rfl, hq, hU⟩ := hrel
    have HQ := hideP hq
    clear hq
    by_cases hlt : k < is.length
    · obtain ⟨ad, g, o, x, B, m, c', rfl, hx, hadd, -, hg, hR, hI, c0, c1, c2, c3, c4⟩ := (H.out.upd hU (fun _ _ => not_nob)).at1 hlt
      have hstep := all_drop (fun x => mayB x is.length caps) hx
      obtain ⟨op, xx, yy, arg, rs⟩ := x
      simp only at c0 c1 c2 c3 hR hI
      have HS := hideP hstep
      have HR := hideP hR
      have HI := hideP hI
      have CB := HC.out.upd hU not_nob
      have b0 : wr.cell? ⟨b, 0, none⟩ = some (.slice (some ad) is.length c) := CB.cellv rfl
      have b2 : wr.cell? ⟨b, 0 + 2, none⟩ = some (.int .i64 caps) := CB.cellv rfl
      have kl : (k : Int) < (is.length : Int) := by omega
      have HUr := hideP hU
      clear hx hstep hR hI CB hU
      rcases hm : mayB ⟨op, xx, yy, arg, rs⟩ is.length caps with _ | _
      · have hv : checkB is start caps = false := by rw [HQ.out, HS.out, hm]; rfl
        have HV1 := hideP hv
        clear hv
        go_wp2_with fail
        go_still_tail 8, (by kernel_rfl)
        change wpList _ _ _ _ _ wr.drew
        have HD := hideP ((Upd.refl Nob wr).drew)
        generalize wr.drew = w3 at *
        go_wp2_with fail
        refine (ref_may w3 S op xx yy arg rs HI.out B m c' (HR.out.upd HD.out (fun _ _ => not_nob)) is.length caps).mono ?_
        rintro e w5 ⟨he, hU5⟩
        rw [hm] at he
        subst he
        have HU5 := hideP ((HUr.out.trans HD.out (fun _ _ h => h)).trans hU5 (fun _ _ h => h))
        clear hU5
        go_wp2_with fail
        go_ret
        exact ⟨congrArg Ending.returned (congrArg (Value.int .i64) (by rw [HV1.out]; rfl)), HU.out.trans HU5.out (fun _ _ h => h)⟩
      · have hv : checkB is start caps = ((is.drop (k + 1)).all fun x => mayB x is.length caps) := by rw [HQ.out, HS.out, hm]; rfl
        have HV1 := hideP hv
        clear hv
        go_wp2_with fail
        go_still_tail 8, (by kernel_rfl)
        change wpList _ _ _ _ _ wr.drew
        have HD := hideP ((Upd.refl Nob wr).drew)
        generalize wr.drew = w3 at *
        go_wp2_with fail
        refine (ref_may w3 S op xx yy arg rs HI.out B m c' (HR.out.upd HD.out (fun _ _ => not_nob)) is.length caps).mono ?_
        rintro e w5 ⟨he, hU5⟩
        rw [hm] at he
        subst he
        have HU5 := hideP ((HUr.out.trans HD.out (fun _ _ h => h)).trans hU5 (fun _ _ h => h))
        clear hU5
        go_wp2_with fail
        go_roundg (is.length - (k + 1))
        case measure => omega
        case rel => exact ⟨k + 1, by omega, by go_num, HV1.out, HU5.out⟩
    · have hkn : k = is.length := by omega
      have hv : checkB is start caps = true := by rw [HQ.out, hkn, List.drop_length]; rfl
      have HV1 := hideP hv
      clear hk hv
      subst hkn
      go_wp2_with fail
      go_ret
      exact ⟨congrArg Ending.returned (congrArg (Value.int .i64) (by rw [HV1.out]; rfl)), HU.out.trans hU (fun _ _ h => h)⟩
end Go.Proofs.YtdbdokjlcdogiaaDoor

/-
  code.Load's first ways out: too short, another head, another sum.
-/
namespace Go.Proofs.YtdbdokjlcdogiaaDoor
open Go.RowKit
set_option linter.unusedVariables false

set_option maxRecDepth 100000 in
set_option maxHeartbeats 4000000 in
theorem load_short (w : World) (S : Nat → Prop) (A : Option Addr) (n c : Nat) (bs : List Int) (h : Reads w S 1 A n (bytv bs)) (h8 : ∀ x ∈ bs, 0 ≤ x ∧ x ≤ 255) (hS : ∀ b, S b → b < w.heap.size) (hn : n ≤ 8388608) (hc : n ≤ c) (hs : n < 8) : Calls Tryd.prog 15 #[.slice A n c] w (LoadAns w none 101) := by
  have hl : ¬ (8388608 : Int) < (n : Int) := by omega
  have g8 : ¬ (8 : Int) ≤ (n : Int) := by omega
  have hmf : ∀ (fn : Fn) (first cap : Array Value) (w : World), (Instr.makeFunc fn first cap).run Tryd.prog w = .ok (.func fn first cap) w := fun _ _ _ _ => rfl
  have C0 : Cells ((w.alloc (.cells #[.slice none 0 0, .int .i64 0, .int .i64 0] 24)).alloc (.cells #[.int .i64 0] 31)) w.heap.size 24 #[.slice none 0 0, .int .i64 0, .int .i64 0] := (Cells.new _ _ _).alloc _
  have C1 := Cells.new (w.alloc (.cells #[.slice none 0 0, .int .i64 0, .int .i64 0] 24)) 31 #[.int .i64 0]
  rw [World.size_alloc] at C1
  have hU : Upd Nob w ((w.alloc (.cells #[.slice none 0 0, .int .i64 0, .int .i64 0] 24)).alloc (.cells #[.int .i64 0] 31)) := ((Upd.refl Nob w).alloc _).alloc _
  have HR := hideP (h.upd hU (fun _ _ => not_nob))
  clear h
  go_enter_defers Tryd.func15, Tryd.ntmps15
  go_upto_region 4 with fail
  generalize ((w.alloc (.cells #[.slice none 0 0, .int .i64 0, .int .i64 0] 24)).alloc (.cells #[.int .i64 0] 31)) = w2 at *
  have HC0 := hideP C0
  have HC1 := hideP C1
  have HU := hideP hU
  clear C0 C1 hU
  go_wp2_with (go_at_call 31; refine (need_not _ _ (by first | rfl | exact decide_eq_false (by omega))).mono ?_; rintro e w3 ⟨rfl, hw3⟩; subst hw3)
  exact (load_no _ _ _ _ _ _ _ _ _ ⟨rfl, rfl, rfl⟩ HC0.out HC1.out (by omega) (fun w' hv => ⟨rfl, HU.out.trans hv (fun b hb h => by rcases h with h | h <;> omega)⟩))
set_option maxRecDepth 100000 in
set_option maxHeartbeats 4000000 in
theorem load_head (w : World) (S : Nat → Prop) (ad : Addr) (n c : Nat) (bs : List Int) (h : Reads w S 1 (some ad) n (bytv bs)) (h8 : ∀ x ∈ bs, 0 ≤ x ∧ x ≤ 255) (hS : ∀ b, S b → b < w.heap.size) (hn : n ≤ 8388608) (hc : n ≤ c) (hs : 8 ≤ n) (hh : ¬ bs.take 4 = [72, 82, 80, 71]) : Calls Tryd.prog 15 #[.slice (some ad) n c] w (LoadAns w none 101) := by
  have hl : ¬ (8388608 : Int) < (n : Int) := by omega
  have g8 : (8 : Int) ≤ (n : Int) := by omega
  have hce : (4 : Int) ≤ (c : Int) := by omega
  have hmf : ∀ (fn : Fn) (first cap : Array Value) (w : World), (Instr.makeFunc fn first cap).run Tryd.prog w = .ok (.func fn first cap) w := fun _ _ _ _ => rfl
  have C0 : Cells ((w.alloc (.cells #[.slice none 0 0, .int .i64 0, .int .i64 0] 24)).alloc (.cells #[.int .i64 0] 31)) w.heap.size 24 #[.slice none 0 0, .int .i64 0, .int .i64 0] := (Cells.new _ _ _).alloc _
  have C1 := Cells.new (w.alloc (.cells #[.slice none 0 0, .int .i64 0, .int .i64 0] 24)) 31 #[.int .i64 0]
  rw [World.size_alloc] at C1
  have hU : Upd Nob w ((w.alloc (.cells #[.slice none 0 0, .int .i64 0, .int .i64 0] 24)).alloc (.cells #[.int .i64 0] 31)) := ((Upd.refl Nob w).alloc _).alloc _
  have HR := hideP (h.upd hU (fun _ _ => not_nob))
  clear h
  go_enter_defers Tryd.func15, Tryd.ntmps15
  go_upto_region 4 with fail
  generalize ((w.alloc (.cells #[.slice none 0 0, .int .i64 0, .int .i64 0] 24)).alloc (.cells #[.int .i64 0] 31)) = w2 at *
  have HC0 := hideP C0
  have HC1 := hideP C1
  have HU := hideP hU
  clear C0 C1 hU
  have hcv := head_conv (c := c) HR.out h8 (by omega)
  go_wp2_with (go_at_call 31; refine (need_not _ _ (by simp [head_eq' bs h8, hh])).mono ?_; rintro e w3 ⟨rfl, hw3⟩; subst hw3)
  exact (load_no _ _ _ _ _ _ _ _ _ ⟨rfl, rfl, rfl⟩ HC0.out HC1.out (by omega) (fun w' hv => ⟨rfl, HU.out.trans hv (fun b hb h => by rcases h with h | h <;> omega)⟩))
end Go.Proofs.YtdbdokjlcdogiaaDoor

/-
  code.Load's region 7 (the sum is compared with the tail), over whatever frame.
-/
namespace Go.Proofs.YtdbdokjlcdogiaaDoor
open Go.RowKit
set_option linter.unusedVariables false

theorem wraps_u32 (n : Int) (h₀ : 0 ≤ n) (h₁ : n < 2 ^ 32) : IntKind.u32.wrap n = n := by rw [IntKind.wrap_u32]; omega
theorem or_join32 {n y : Int} (i : Nat) (h0 : 0 ≤ n) (h1 : n < 2 ^ i) (hi : i ≤ 24) (hy0 : 0 ≤ y) (hy : y % 2 ^ i = 0) (hy1 : y < 2 ^ 32) : bits .or .u32 n y = n + y := by
  obtain ⟨a, rfl⟩ := Int.eq_ofNat_of_zero_le h0
  obtain ⟨b, rfl⟩ := Int.eq_ofNat_of_zero_le hy0
  have h28 : (2 : Int) ^ i ≤ 2 ^ 24 := by exact_mod_cast Nat.pow_le_pow_right (by decide : 0 < 2) hi
  have hx := bits_join .u32 32 (by decide) wraps_u32 i (b : Int) (a : Int) hy0 hy hy1 h0 h1 (by omega)
  have hb : b < 2 ^ 32 := by exact_mod_cast hy1
  have ha : a < 2 ^ 32 := by
    have : (a : Int) < 2 ^ 32 := by omega
    exact_mod_cast this
  rw [(bits_nat .u32 32 (by decide) wraps_u32 b a hb ha).2] at hx
  rw [(bits_nat .u32 32 (by decide) wraps_u32 a b ha hb).2, Nat.or_comm a b, hx, Int.add_comm]
set_option maxRecDepth 100000 in
set_option maxHeartbeats 4000000 in
theorem load_reg7 (Q : Exit → Act → World → Prop) (w : World) (td : Addr) (cc : Nat) (sv t0 t1 t2 t3 : Int) (x0 x1 x2 x3 x4 x7 x8 x9 x10 x11 x12 x13 x14 x15 x16 x17 x18 x19 x20 x21 x22 x23 x24 x25 x26 x27 x28 x29 x30 x31 x32 x33 x34 x35 x36 x37 x38 x39 x40 x41 x42 x43 x44 x45 x46 x47 x48 x49 x50 x51 x52 x53 x54 x55 x56 x57 x58 x59 x60 x61 x62 x63 x64 x65 x66 x67 x68 x69 x70 x71 x72 x73 x74 x75 x76 x77 x78 x79 x80 x81 x82 x83 x84 x85 x86 x87 x88 x89 x90 x91 x92 x93 x94 x95 x96 x97 x98 x99 : Value) (D : List Deferred)
    (y0 : w.cell? td = some (.int .u8 t0)) (y1 : w.cell? ⟨td.block, td.off + 1, none⟩ = some (.int .u8 t1)) (y2 : w.cell? ⟨td.block, td.off + 2, none⟩ = some (.int .u8 t2)) (y3 : w.cell? ⟨td.block, td.off + 3, none⟩ = some (.int .u8 t3))
    (b0 : 0 ≤ t0 ∧ t0 ≤ 255) (b1 : 0 ≤ t1 ∧ t1 ≤ 255) (b2 : 0 ≤ t2 ∧ t2 ≤ 255) (b3 : 0 ≤ t3 ∧ t3 ≤ 255)
    (hno : ¬ sv = t0 + 256 * t1 + 65536 * t2 + 16777216 * t3 → ∀ v36 v37 v38 v39 v40 v41 v42 v43 v44 v45 v46 v47 v48 v49 v50 v51 v52 v53 v54 v55 v56 v57 v58 v59 v60, Q (.panic brokenP) ⟨#[x0, x1, x2, x3, x4, .slice (some td) 4 cc, .int .u32 sv, x7, x8, x9, x10, x11, x12, x13, x14, x15, x16, x17, x18, x19, x20, x21, x22, x23, x24, x25, x26, x27, x28, x29, x30, x31, x32, x33, x34, x35, v36, v37, v38, v39, v40, v41, v42, v43, v44, v45, v46, v47, v48, v49, v50, v51, v52, v53, v54, v55, v56, v57, v58, v59, v60, x61, x62, x63, x64, x65, x66, x67, x68, x69, x70, x71, x72, x73, x74, x75, x76, x77, x78, x79, x80, x81, x82, x83, x84, x85, x86, x87, x88, x89, x90, x91, x92, x93, x94, x95, x96, x97, x98, x99], D⟩ w.drew)
    (hyes : sv = t0 + 256 * t1 + 65536 * t2 + 16777216 * t3 → ∀ v36 v37 v38 v39 v40 v41 v42 v43 v44 v45 v46 v47 v48 v49 v50 v51 v52 v53 v54 v55 v56 v57 v58 v59 v60, Q .normal ⟨#[x0, x1, x2, x3, x4, .slice (some td) 4 cc, .int .u32 sv, x7, x8, x9, x10, x11, x12, x13, x14, x15, x16, x17, x18, x19, x20, x21, x22, x23, x24, x25, x26, x27, x28, x29, x30, x31, x32, x33, x34, x35, v36, v37, v38, v39, v40, v41, v42, v43, v44, v45, v46, v47, v48, v49, v50, v51, v52, v53, v54, v55, v56, v57, v58, v59, v60, x61, x62, x63, x64, x65, x66, x67, x68, x69, x70, x71, x72, x73, x74, x75, x76, x77, x78, x79, x80, x81, x82, x83, x84, x85, x86, x87, x88, x89, x90, x91, x92, x93, x94, x95, x96, x97, x98, x99], D⟩ w.drew) :
    (Code.region 7 #[{ dst := some 36, op := Op.move (Operand.tmp 6), type := 51, pos := "code.go:261", after := #[], guard := none },
    { dst := some 37, op := Op.move (Operand.tmp 5), type := 30, pos := "code.go:261", after := #[], guard := none },
    { dst := some 38, op := Op.indexAddr 30 (Operand.tmp 37) (Operand.const (Value.int IntKind.i64 0)), type := 0, pos := "code.go:261", after := #[{ on := 1, ground := .data }], guard := none },
    { dst := some 39, op := Op.load 5 (Operand.tmp 38), type := 5, pos := "code.go:261", after := #[{ on := 2, ground := .data }], guard := none },
    { dst := some 40, op := Op.convert 5 51 (Operand.tmp 39), type := 51, pos := "code.go:261", after := #[{ on := 3, ground := .data }], guard := none },
    { dst := some 41, op := Op.move (Operand.tmp 5), type := 30, pos := "code.go:261", after := #[], guard := none },
    { dst := some 42, op := Op.indexAddr 30 (Operand.tmp 41) (Operand.const (Value.int IntKind.i64 1)), type := 0, pos := "code.go:261", after := #[{ on := 5, ground := .data }], guard := none },
    { dst := some 43, op := Op.load 5 (Operand.tmp 42), type := 5, pos := "code.go:261", after := #[{ on := 6, ground := .data }], guard := none },
    { dst := some 44, op := Op.convert 5 51 (Operand.tmp 43), type := 51, pos := "code.go:261", after := #[{ on := 7, ground := .data }], guard := none },
    { dst := some 45, op := Op.binOp BinOp.shl 51 (Operand.tmp 44) (Operand.const (Value.int IntKind.u64 8)) 62, type := 51, pos := "code.go:261", after := #[{ on := 8, ground := .data }], guard := none },
    { dst := some 46, op := Op.binOp BinOp.or 51 (Operand.tmp 40) (Operand.tmp 45) 51, type := 51, pos := "code.go:261", after := #[{ on := 4, ground := .data }, { on := 9, ground := .data }], guard := none },
    { dst := some 47, op := Op.move (Operand.tmp 5), type := 30, pos := "code.go:261", after := #[], guard := none },
    { dst := some 48, op := Op.indexAddr 30 (Operand.tmp 47) (Operand.const (Value.int IntKind.i64 2)), type := 0, pos := "code.go:261", after := #[{ on := 11, ground := .data }], guard := none },
    { dst := some 49, op := Op.load 5 (Operand.tmp 48), type := 5, pos := "code.go:261", after := #[{ on := 12, ground := .data }], guard := none },
    { dst := some 50, op := Op.convert 5 51 (Operand.tmp 49), type := 51, pos := "code.go:261", after := #[{ on := 13, ground := .data }], guard := none },
    { dst := some 51, op := Op.binOp BinOp.shl 51 (Operand.tmp 50) (Operand.const (Value.int IntKind.u64 16)) 62, type := 51, pos := "code.go:261", after := #[{ on := 14, ground := .data }], guard := none },
    { dst := some 52, op := Op.binOp BinOp.or 51 (Operand.tmp 46) (Operand.tmp 51) 51, type := 51, pos := "code.go:261", after := #[{ on := 10, ground := .data }, { on := 15, ground := .data }], guard := none },
    { dst := some 53, op := Op.move (Operand.tmp 5), type := 30, pos := "code.go:261", after := #[], guard := none },
    { dst := some 54, op := Op.indexAddr 30 (Operand.tmp 53) (Operand.const (Value.int IntKind.i64 3)), type := 0, pos := "code.go:261", after := #[{ on := 17, ground := .data }], guard := none },
    { dst := some 55, op := Op.load 5 (Operand.tmp 54), type := 5, pos := "code.go:261", after := #[{ on := 18, ground := .data }], guard := none },
    { dst := some 56, op := Op.convert 5 51 (Operand.tmp 55), type := 51, pos := "code.go:261", after := #[{ on := 19, ground := .data }], guard := none },
    { dst := some 57, op := Op.binOp BinOp.shl 51 (Operand.tmp 56) (Operand.const (Value.int IntKind.u64 24)) 62, type := 51, pos := "code.go:261", after := #[{ on := 20, ground := .data }], guard := none },
    { dst := some 58, op := Op.binOp BinOp.or 51 (Operand.tmp 52) (Operand.tmp 57) 51, type := 51, pos := "code.go:261", after := #[{ on := 16, ground := .data }, { on := 21, ground := .data }], guard := none },
    { dst := some 59, op := Op.binOp BinOp.eql 51 (Operand.tmp 36) (Operand.tmp 58) 51, type := 4, pos := "code.go:261", after := #[{ on := 0, ground := .data }, { on := 22, ground := .data }], guard := none },
    { dst := some 60, op := Op.call { callee := Callee.value (Operand.func 31), args := #[Operand.tmp 59], argTypes := #[4] }, type := 0, pos := "code.go:261", after := #[{ on := 23, ground := .data }], guard := none }] true).wp Tryd.prog Q ⟨#[x0, x1, x2, x3, x4, .slice (some td) 4 cc, .int .u32 sv, x7, x8, x9, x10, x11, x12, x13, x14, x15, x16, x17, x18, x19, x20, x21, x22, x23, x24, x25, x26, x27, x28, x29, x30, x31, x32, x33, x34, x35, x36, x37, x38, x39, x40, x41, x42, x43, x44, x45, x46, x47, x48, x49, x50, x51, x52, x53, x54, x55, x56, x57, x58, x59, x60, x61, x62, x63, x64, x65, x66, x67, x68, x69, x70, x71, x72, x73, x74, x75, x76, x77, x78, x79, x80, x81, x82, x83, x84, x85, x86, x87, x88, x89, x90, x91, x92, x93, x94, x95, x96, x97, x98, x99], D⟩ w := by
  have u0 : IntKind.u32.wrap t0 = t0 := by rw [IntKind.wrap_u32]; omega
  have u1 : IntKind.u32.wrap t1 = t1 := by rw [IntKind.wrap_u32]; omega
  have u2 : IntKind.u32.wrap t2 = t2 := by rw [IntKind.wrap_u32]; omega
  have u3 : IntKind.u32.wrap t3 = t3 := by rw [IntKind.wrap_u32]; omega
  have o1 : bits .or .u32 t0 (t1 * 256) = t0 + t1 * 256 := or_join32 8 b0.1 (by omega) (by omega) (by omega) (by omega) (by omega)
  have o2 : bits .or .u32 (t0 + t1 * 256) (t2 * 65536) = t0 + t1 * 256 + t2 * 65536 := or_join32 16 (by omega) (by omega) (by omega) (by omega) (by omega) (by omega)
  have o3 : bits .or .u32 (t0 + t1 * 256 + t2 * 65536) (t3 * 16777216) = t0 + t1 * 256 + t2 * 65536 + t3 * 16777216 := or_join32 24 (by omega) (by omega) (by omega) (by omega) (by omega) (by omega)
  have m1 : t1 * 256 % 4294967296 = t1 * 256 := by omega
  have m2 : t2 * 65536 % 4294967296 = t2 * 65536 := by omega
  have m3 : t3 * 16777216 % 4294967296 = t3 * 16777216 := by omega
  clear b0 b1 b2 b3
  have HN := hideP hno
  have HY := hideP hyes
  clear hno hyes
  go_still_tail 24, (by kernel_rfl)
  change wpList _ _ _ _ _ w.drew
  by_cases hs : ¬ sv = t0 + 256 * t1 + 65536 * t2 + 16777216 * t3
  · have HS := hideP hs
    clear hs
    go_wp2_with (go_at_call 31; refine (need_not _ _ (by first | rfl | (rw [beq_eq_false_iff_ne]; have := HS.out; omega))).mono ?_; rintro e w3 ⟨rfl, hw3⟩; subst hw3)
    exact HN.out HS.out _ _ _ _ _ _ _ _ _ _ _ _ _ _ _ _ _ _ _ _ _ _ _ _ _
  · have hs := Classical.not_not.1 hs
    have HS := hideP hs
    clear hs
    go_wp2_with (go_at_call 31; refine (need_is _ _ (by first | rfl | (rw [beq_iff_eq]; have := HS.out; omega))).mono ?_; rintro e w3 ⟨rfl, hw3⟩; subst hw3)
    exact HY.out HS.out _ _ _ _ _ _ _ _ _ _ _ _ _ _ _ _ _ _ _ _ _ _ _ _ _
end Go.Proofs.YtdbdokjlcdogiaaDoor
