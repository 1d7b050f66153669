/-
  SameP, LoadsP, OwnColl, put together.
-/
import Derived.Test.YtdbdokjlcdogiaaDoorZ26Kept
import Derived.Test.YtdbdokjlcdogiaaDoorZ20RefLs
import Derived.Test.YtdbdokjlcdogiaaDoorZ25Spoilt

/-
  The walk of heronref10.Same on two programs that are the same.
-/
namespace Go.Proofs.YtdbdokjlcdogiaaDoor
open Go.RowKit
set_option linter.unusedVariables false

set_option maxRecDepth 100000 in
set_option maxHeartbeats 4000000 in
theorem sameProg_any (w : World) (S1 S2 : Nat → Prop) (A1 A2 : Option Addr) (n c1 c2 : Nat) (is : List PInst) (start caps : Int) (h1 : InstsR w S1 A1 n is) (h2 : InstsR w S2 A2 n is) (hn : n ≤ 140737488355328) :
    Calls Tryd.prog 11 #[.agg #[.slice A1 n c1, .int .i64 start, .int .i64 caps], .agg #[.slice A2 n c2, .int .i64 start, .int .i64 caps]] w fun e w' => e = .returned (.bool true) ∧ Upd Nob w w' := by
  obtain rfl : is.length = n := h1.len
  have C0 : Cells ((w.alloc (.cells #[.slice A1 is.length c1, .int .i64 start, .int .i64 caps] 24)).alloc (.cells #[.slice A2 is.length c2, .int .i64 start, .int .i64 caps] 24)) w.heap.size 24 #[.slice A1 is.length c1, .int .i64 start, .int .i64 caps] := (Cells.new _ _ _).alloc _
  have C1 := Cells.new (w.alloc (.cells #[.slice A1 is.length c1, .int .i64 start, .int .i64 caps] 24)) 24 #[.slice A2 is.length c2, .int .i64 start, .int .i64 caps]
  rw [World.size_alloc] at C1
  have hU := ((Upd.refl Nob w).alloc (.cells #[.slice A1 is.length c1, .int .i64 start, .int .i64 caps] 24)).alloc (.cells #[.slice A2 is.length c2, .int .i64 start, .int .i64 caps] 24)
  have H1 := hideP (h1.upd hU (fun _ _ => not_nob))
  have H2 := hideP (h2.upd hU (fun _ _ => not_nob))
  clear h1 h2
  go_enter Tryd.func11, Tryd.ntmps11
  go_upto_region 1 with fail
  generalize ((w.alloc (.cells #[.slice A1 is.length c1, .int .i64 start, .int .i64 caps] 24)).alloc (.cells #[.slice A2 is.length c2, .int .i64 start, .int .i64 caps] 24)) = w2 at *
  have HC0 := hideP C0
  have HC1 := hideP C1
  have HU := hideP hU
  have e0 : w2.cell? ⟨w.heap.size, 0, none⟩ = some (.slice A1 is.length c1) := C0.cellv rfl
  have e1 : w2.cell? ⟨w.heap.size, 0 + 1, none⟩ = some (.int .i64 start) := C0.cellv rfl
  have e2 : w2.cell? ⟨w.heap.size, 0 + 2, none⟩ = some (.int .i64 caps) := C0.cellv rfl
  have d0 : w2.cell? ⟨w.heap.size + 1, 0, none⟩ = some (.slice A2 is.length c2) := C1.cellv rfl
  have d1 : w2.cell? ⟨w.heap.size + 1, 0 + 1, none⟩ = some (.int .i64 start) := C1.cellv rfl
  have d2 : w2.cell? ⟨w.heap.size + 1, 0 + 2, none⟩ = some (.int .i64 caps) := C1.cellv rfl
  clear C0 C1 hU
  go_wp2_with fail
  go_loopg [5] is.length (fun gk v5 wr => ∃ k : Nat, k + gk = is.length ∧ v5 = .int .i64 (k : Int) ∧ Upd Nob w2 wr)
  case atStart => exact ⟨0, by omega, rfl, Upd.refl _ _⟩
  case round =>
    obtain ⟨k, hk, rfl, hU⟩ := hrel
    have b0 : wr.cell? ⟨w.heap.size, 0, none⟩ = some (.slice A1 is.length c1) := (HC0.out.upd hU not_nob).cellv rfl
    have b1 : wr.cell? ⟨w.heap.size + 1, 0, none⟩ = some (.slice A2 is.length c2) := (HC1.out.upd hU not_nob).cellv rfl
    by_cases hlt : k < is.length
    · obtain ⟨ad, g, o, x, B, m, cc, rfl, hx, hadd, -, hg, hR, hI, p0, p1, p2, p3, p4⟩ := (H1.out.upd hU (fun _ _ => not_nob)).at1 hlt
      obtain ⟨ad', g', o', x', B', m', cc', rfl, hx', hadd', -, hg', hR', hI', q0, q1, q2, q3, q4⟩ := (H2.out.upd hU (fun _ _ => not_nob)).at1 hlt
      rw [hx] at hx'
      injection hx' with hx'
      subst hx'
      obtain ⟨op, xx, yy, arg, rs⟩ := x
      simp only at p0 p1 p2 p3 q0 q1 q2 q3 hR hR'
      obtain rfl : rs.length = m := hR.len
      obtain rfl : rs.length = m' := hR'.len
      have hrn := hR.n
      have kl : (k : Int) < (is.length : Int) := by omega
      have CX := Cells.new wr 48 #[.int .i64 op, .int .i64 xx, .int .i64 yy, .int .i64 arg, .slice B rs.length cc]
      have CY := Cells.new (wr.alloc (.cells #[.int .i64 op, .int .i64 xx, .int .i64 yy, .int .i64 arg, .slice B rs.length cc] 48)) 48 #[.int .i64 op, .int .i64 xx, .int .i64 yy, .int .i64 arg, .slice B' rs.length cc']
      rw [World.size_alloc] at CY
      have CX2 := CX.alloc (.cells #[.int .i64 op, .int .i64 xx, .int .i64 yy, .int .i64 arg, .slice B' rs.length cc'] 48)
      have hUa := ((Upd.refl Nob wr).alloc (.cells #[.int .i64 op, .int .i64 xx, .int .i64 yy, .int .i64 arg, .slice B rs.length cc] 48)).alloc (.cells #[.int .i64 op, .int .i64 xx, .int .i64 yy, .int .i64 arg, .slice B' rs.length cc'] 48)
      have far : ∀ (a : Addr) v, wr.cell? a = some v → (wr.alloc (.cells #[.int .i64 op, .int .i64 xx, .int .i64 yy, .int .i64 arg, .slice B rs.length cc] 48)).cell? a = some v := fun a v ha => (World.cell?_of_block (Below.heap_alloc _ _ _ (World.block_lt_of_cell? _ _ ha))).trans ha
      have q0' := far _ _ q0
      have q1' := far _ _ q1
      have q2' := far _ _ q2
      have q3' := far _ _ q3
      have q4' := far _ _ q4
      have b1' := far _ _ b1
      have HX := hideP hx
      clear far hx CX
      go_upto_region 8 with fail
      generalize ((wr.alloc (.cells #[.int .i64 op, .int .i64 xx, .int .i64 yy, .int .i64 arg, .slice B rs.length cc] 48)).alloc (.cells #[.int .i64 op, .int .i64 xx, .int .i64 yy, .int .i64 arg, .slice B' rs.length cc'] 48)) = w4 at *
      have hRa := hideP (hR.upd hUa (fun _ _ => not_nob))
      have hRa' := hideP (hR'.upd hUa (fun _ _ => not_nob))
      have HUa := hideP (hU.trans hUa (fun _ _ h => h))
      generalize wr.heap.size = xb at *
      have l0 : w4.cell? ⟨xb, 0, none⟩ = some (.int .i64 op) := CX2.cellv rfl
      have l1 : w4.cell? ⟨xb, 0 + 1, none⟩ = some (.int .i64 xx) := CX2.cellv rfl
      have l2 : w4.cell? ⟨xb, 0 + 2, none⟩ = some (.int .i64 yy) := CX2.cellv rfl
      have l3 : w4.cell? ⟨xb, 0 + 3, none⟩ = some (.int .i64 arg) := CX2.cellv rfl
      have l4 : w4.cell? ⟨xb, 0 + 4, none⟩ = some (.slice B rs.length cc) := CX2.cellv rfl
      have n0 : w4.cell? ⟨xb + 1, 0, none⟩ = some (.int .i64 op) := CY.cellv rfl
      have n1 : w4.cell? ⟨xb + 1, 0 + 1, none⟩ = some (.int .i64 xx) := CY.cellv rfl
      have n2 : w4.cell? ⟨xb + 1, 0 + 2, none⟩ = some (.int .i64 yy) := CY.cellv rfl
      have n3 : w4.cell? ⟨xb + 1, 0 + 3, none⟩ = some (.int .i64 arg) := CY.cellv rfl
      have n4 : w4.cell? ⟨xb + 1, 0 + 4, none⟩ = some (.slice B' rs.length cc') := CY.cellv rfl
      clear q0 q1 q2 q3 q4 q0' q1' q2' q3' q4' p0 p1 p2 p3 p4 b0 b1 b1' hadd hadd' hg hg' hR hR' hU hUa CX2 CY
      have HK := hideP hk
      clear hk
      go_wp2_with fail
      go_loopg [8] rs.length (fun gk v8 wq => ∃ j q : Nat, j + gk = rs.length ∧ v8 = .int .i64 (j : Int) ∧ wq = w4.drewN q)
      case atStart => exact ⟨0, 0, by omega, rfl, rfl⟩
      case round =>
        obtain ⟨j, q, hj, rfl, rfl⟩ := hrel
        by_cases hjl : j < rs.length
        · obtain ⟨bd, y, gg, oo, rfl, hy, -, -, hadd1, r0, r1, -⟩ := hRa.out.at1 hjl
          obtain ⟨bd', y', gg', oo', rfl, hy', -, -, hadd2, s0, s1, -⟩ := hRa'.out.at1 hjl
          rw [hy] at hy'
          injection hy' with hy'
          subst hy'
          have jl : (j : Int) < (rs.length : Int) := by omega
          clear hy
          go_wp2_with fail
          go_quiet (fail)
          go_wp2_with fail
          go_roundg (rs.length - (j + 1))
          case measure => omega
          case rel => exact ⟨j + 1, _, by omega, by go_num, by first | rfl | exact World.drewN_drewN _ _ _⟩
        · have jl : ¬ (j : Int) < (rs.length : Int) := by omega
          go_wp2_with fail
          have hk := HK.out
          go_roundg (is.length - (k + 1))
          case measure => omega
          case rel => exact ⟨k + 1, by omega, by go_num, HUa.out.drewN q⟩
    · have hkn : k = is.length := by omega
      clear hk
      subst hkn
      go_wp2_with fail
      go_ret
      exact ⟨rfl, HU.out.trans hU (fun _ _ h => h)⟩
end Go.Proofs.YtdbdokjlcdogiaaDoor

/-
  What code.Load and heronref10.Load answer, as one program (the empty one where there is none).
-/
namespace Go.Proofs.YtdbdokjlcdogiaaDoor
open Go.RowKit
set_option linter.unusedVariables false

def prgI (bs : List Int) : List PInst := match loadX bs with | none => [] | some p => p.1
def prgS (bs : List Int) : Int := match loadX bs with | none => 0 | some p => p.2.1
def prgC (bs : List Int) : Int := match loadX bs with | none => 0 | some p => p.2.2
def PrgAns (w : World) (bs : List Int) (e : Ending) (w' : World) : Prop :=
  ∃ A c gs, e = .returned (.tuple #[.agg #[.slice A (prgI bs).length c, .int .i64 (prgS bs), .int .i64 (prgC bs)], .int .i64 (codeOf bs)]) ∧ ProgW w' w.heap.size A c (prgI bs) gs ∧ Upd Nob w w'
theorem prg_of {w w' : World} {bs : List Int} {e : Ending} (h : LoadAns w (loadX bs) (loadC bs) e w') : PrgAns w bs e w' := by
  unfold PrgAns prgI prgS prgC codeOf
  cases hx : loadX bs with
  | none =>
    rw [hx] at h
    exact ⟨none, 0, [], h.1, ProgW.none_ _ _, h.2⟩
  | some p =>
    rw [hx] at h
    obtain ⟨is, start, caps⟩ := p
    obtain ⟨A, c, gs, h1, h2, h3⟩ := h
    exact ⟨A, c, gs, h1, h2, h3⟩
theorem load_prg (w : World) (S : Nat → Prop) (A : Option Addr) (n c : Nat) (bs : List Int) (h : Reads w S 1 A n (bytv bs)) (h8 : ∀ x ∈ bs, 0 ≤ x ∧ x ≤ 255) (hS : ∀ b, S b → b < w.heap.size) (hc : n ≤ c) :
    Calls Tryd.prog 15 #[.slice A n c] w (PrgAns w bs) := (load_any w S A n c bs h h8 hS hc).mono (fun _ _ h => prg_of h)
theorem refLoad_prg (w : World) (S : Nat → Prop) (A : Option Addr) (n c : Nat) (bs : List Int) (h : Reads w S 1 A n (bytv bs)) (h8 : ∀ x ∈ bs, 0 ≤ x ∧ x ≤ 255) (hS : ∀ b, S b → b < w.heap.size) (hc : n ≤ c) :
    Calls Tryd.prog 14 #[.slice A n c] w (PrgAns w bs) := (refLoad_any w S A n c bs h h8 hS hc).mono (fun _ _ h => prg_of h)
theorem insts_num : ∀ (n : Nat) (bs : List Int) (is : List PInst) (q : List Int), Bys bs → bs.length ≤ 8388608 → instsF n bs = some (is, q) → ∀ x ∈ is, NumI x
  | 0, bs, is, q, hb, hl, h => by
    unfold instsF at h
    injection h with h
    injection h with h1 h2
    subst h1
    exact fun x hx => by simp at hx
  | n + 1, bs, is, q, hb, hl, h => by
    rw [instsF_step] at h
    cases h1 : opF bs with
    | none => rw [h1] at h; cases h
    | some a =>
      obtain ⟨x, r⟩ := a
      rw [h1] at h
      simp only at h
      have e3 := op_inst hb h1
      have hbr : Bys r := by have := instR_bys (b := false) hb; rw [e3] at this; exact this
      have hlr : r.length ≤ bs.length := by have := (instR_in (b := false) hb hl).2.2; rw [e3] at this; exact this
      cases h2 : instsF n r with
      | none => rw [h2] at h; cases h
      | some c =>
        obtain ⟨is', q2⟩ := c
        rw [h2] at h
        simp only at h
        injection h with h
        injection h with e1 e2
        subst e1
        intro y hy
        rcases List.mem_cons.1 hy with rfl | hy
        · exact opF_in hb hl h1
        · exact insts_num n r is' q2 hbr (by omega) h2 y hy
/-- the numbers of what Load tells -/
theorem prg_num {bs : List Int} (hb : Bys bs) : (∀ x ∈ prgI bs, NumI x) ∧ (prgI bs).length ≤ 20000 ∧ ∀ x ∈ prgI bs, x.rs.length ≤ 9000000 := by
  unfold prgI
  cases hx : loadX bs with
  | none => exact ⟨fun x hx => by simp at hx, by simp, fun x hx => by simp at hx⟩
  | some p =>
    obtain ⟨is, start, caps⟩ := p
    simp only
    unfold loadX at hx
    split at hx
    · cases hx
    · rename_i hl
      unfold loadB at hx
      split at hx
      · have hbb : Bys ((bs.take (bs.length - 4)).drop 4) := fun x hx => hb x (List.mem_of_mem_take (List.mem_of_mem_drop hx))
        have hbl : ((bs.take (bs.length - 4)).drop 4).length ≤ 8388608 := by simp; omega
        generalize (bs.take (bs.length - 4)).drop 4 = body at *
        unfold bodyB at hx
        cases h1 : numB body with
        | none => rw [h1] at hx; cases hx
        | some a =>
          obtain ⟨c', r1⟩ := a
          rw [h1] at hx
          simp only at hx
          obtain ⟨-, -, g1, l1⟩ := numB_in hbb h1
          cases h2 : numB r1 with
          | none => rw [h2] at hx; cases hx
          | some a =>
            obtain ⟨s', r2⟩ := a
            rw [h2] at hx
            simp only at hx
            obtain ⟨-, -, g2, l2⟩ := numB_in g1 h2
            cases h3 : numB r2 with
            | none => rw [h3] at hx; cases hx
            | some a =>
              obtain ⟨k', r3⟩ := a
              rw [h3] at hx
              simp only at hx
              obtain ⟨-, -, g3, l3⟩ := numB_in g2 h3
              split at hx
              · cases h4 : instsF k'.toNat r3 with
                | none => rw [h4] at hx; cases hx
                | some a =>
                  obtain ⟨is2, q⟩ := a
                  rw [h4] at hx
                  simp only at hx
                  split at hx
                  · rename_i hq
                    injection hx with hx
                    injection hx with e1 e2
                    subst e1
                    have hp := fineP hq.2
                    exact ⟨insts_num _ _ _ _ g3 (by omega) h4, hp.l1, fun x hx => by have := (hp.i x hx).rs; omega⟩
                  · cases hx
              · cases hx
      · cases hx
/-- its blocks lie below a height -/
structure Below_ (top : Nat) (A : Option Addr) (gs : List (Option Addr × Nat)) : Prop where
  i : ∀ b, A.map (·.block) = some b → b < top
  r : ∀ (k : Nat) (B : Option Addr) (cc b : Nat), gs[k]? = some (B, cc) → B.map (·.block) = some b → b < top
theorem ProgW.below {w : World} {base : Nat} {A : Option Addr} {c : Nat} {is : List PInst} {gs : List (Option Addr × Nat)} (h : ProgW w base A c is gs) : Below_ w.heap.size A gs :=
  ⟨fun b hb => own_bl h.row hb, fun k B cc b hg hb => h.lt k B cc b hg hb⟩
theorem apart_of {w : World} {base top : Nat} {p q : Prg} (hp : ProgW w base p.A p.c p.is p.gs) (ht : Below_ top p.A p.gs) (hq : ProgW w top q.A q.c q.is q.gs) : Apart p q := by
  refine ⟨fun b h1 h2 => ?_, fun x hx y hy b h1 h2 => ?_⟩
  · have a1 := ht.i b (rowV_own.1 h1)
    have a2 := own_lo hq.row h2
    omega
  · obtain ⟨j, hj⟩ := List.mem_iff_getElem?.1 hx
    obtain ⟨i, hi⟩ := List.mem_iff_getElem?.1 hy
    obtain ⟨z, B, cc, -, hg, rfl⟩ := rowsOf_mem hj
    obtain ⟨z2, B2, cc2, hz2, hg2, rfl⟩ := rowsOf_mem hi
    have a1 := ht.r j B cc b hg (rowV_own.1 h1)
    have a2 := own_lo (hq.own i z2 B2 cc2 hz2 hg2) h2
    omega
/-- read as instructions, in blocks of now -/
theorem ProgW.instsLt {w : World} {base : Nat} {A : Option Addr} {c : Nat} {is : List PInst} {gs : List (Option Addr × Nat)} (h : ProgW w base A c is gs) (hn : ∀ x ∈ is, NumI x) : InstsR w (fun b => b < w.heap.size) A is.length is := by
  refine ⟨rfl, fun i x hx => ?_⟩
  have hi := (List.getElem?_eq_some_iff.1 hx).1
  obtain ⟨B, cc, hg⟩ : ∃ B cc, gs[i]? = some (B, cc) := ⟨_, _, List.getElem?_eq_getElem (by rw [h.len]; exact hi)⟩
  obtain ⟨g, cap, hv, hb, hl⟩ := h.row.form (by omega)
  obtain ⟨rfl, -, rfl⟩ : A = some ⟨g, 0, none⟩ ∧ is.length = is.length ∧ c = cap := by injection hv with a b c; exact ⟨a, b, c⟩
  obtain ⟨ad, e, -, -, hc⟩ := (Reads.of_own h.row).2 (by omega)
  injection e with e
  subst e
  have ho := h.own i x B cc hx hg
  have hN := hn x (List.mem_of_getElem? hx)
  refine ⟨_, g, i * 5, B, x.rs.length, cc, rfl, by rw [add_lit_, Nat.zero_add], hl, hl, ⟨(Reads.of_own ho).weaken (fun b hb2 => own_blt ho hb2), hN.2.1, hN.2.2⟩, hN.1, fun j v hv => ?_⟩
  have := hc (i * 5 + j) v (flatI_at is gs i x B cc hx hg j v hv)
  rwa [add_lit_, Nat.zero_add] at this
end Go.Proofs.YtdbdokjlcdogiaaDoor

/-
  The loops of heronlaw10.Owned that collect the rows. Printed by tools/mkOwn.py.
-/
namespace Go.Proofs.YtdbdokjlcdogiaaDoor
open Go.RowKit
set_option linter.unusedVariables false

theorem oinfo_sr : (Tryd.prog.info? 46).map (fun i => (i.zero, i.size, i.bytes)) = some (some (.slice none 0 0), 1, 24) := by kernel_rfl
theorem oinfo_si : (Tryd.prog.info? 22).map (fun i => (i.zero, i.size, i.bytes)) = some (some (.slice none 0 0), 1, 24) := by kernel_rfl
set_option maxRecDepth 100000 in
set_option maxHeartbeats 4000000 in
theorem own_collect (Q : Exit → Act → World → Prop) (K rest : Code) (w : World) (base lb cl : Nat) (ps : List Prg) (x1 x5 x6 x7 x8 x9 x10 x11 x12 x13 x14 x15 x16 x17 x18 x19 x20 x21 x22 x23 x24 x25 x26 x27 x28 x29 x30 x31 x32 x33 x34 x35 x36 x37 x38 x39 x40 x41 x42 x43 x44 x45 x46 x47 x48 x49 x50 x51 x52 x53 x54 x55 x56 x57 x58 x59 x60 x61 x62 x63 x64 x65 x66 x67 x68 x69 x70 x71 x72 x73 x74 x75 x76 x77 x78 x79 x80 x81 x82 x83 x84 x85 x86 x87 x88 x89 x90 x91 x92 x93 x94 x95 x96 x97 x98 x99 x100 x101 x102 x103 x104 x105 x106 x107 x108 x109 x110 x111 x112 x113 x114 x115 x116 x117 x118 x119 x120 x121 x122 x123 x124 x125 x126 x127 x128 x129 x130 x131 x132 x133 x134 x135 x136 x137 x138 x139 x140 x141 x142 x143 x144 x145 x146 x147 x148 x149 x150 x151 x152 x153 x154 x155 x156 x157 x158 x159 x160 x161 x162 x163 x164 x165 x166 x167 x168 x169 x170 x171 x172 x173 x174 x175 x176 x177 x178 x179 x180 x181 x182 x183 x184 x185 x186 x187 x188 x189 x190 x191 x192 x193 x194 : Value) (hK : Tryd.f17.body = some K)
    (h : Prgs w base ps) (hL : Cells w lb 24 (flatP ps).toArray)
    (hnext : ∀ (RA IA : Option Addr) (rc ic : Nat) (x1 x5 x6 x7 x8 x9 x10 x11 x12 x13 x14 x15 x16 x17 x18 x19 x20 x21 x22 x23 x24 x25 x26 x27 x28 x29 x30 x31 x32 x33 x34 x35 x36 x37 x38 x39 x40 x41 x42 x43 x44 x45 x46 x47 x48 x49 x50 x51 x52 x53 x54 x55 x56 x57 x58 x59 x60 x61 x62 x63 x64 x65 x66 x67 x68 x69 x70 x71 x72 x73 x74 x75 x76 x77 x78 x79 x80 x81 x82 x83 x84 x85 x86 x87 x88 x89 x90 x91 x92 x93 x94 x95 x96 x97 x98 x99 x100 x101 x102 x103 x104 x105 x106 x107 x108 x109 x110 x111 x112 x113 x114 x115 x116 x117 x118 x119 x120 x121 x122 x123 x124 x125 x126 x127 x128 x129 x130 x131 x132 x133 x134 x135 x136 x137 x138 x139 x140 x141 x142 x143 x144 x145 x146 x147 x148 x149 x150 x151 x152 x153 x154 x155 x156 x157 x158 x159 x160 x161 x162 x163 x164 x165 x166 x167 x168 x169 x170 x171 x172 x173 x174 x175 x176 x177 x178 x179 x180 x181 x182 x183 x184 x185 x186 x187 x188 x189 x190 x191 x192 x193 x194 : Value) (w' : World), w'.ownsRow w.heap.size 46 1 (.slice RA (allR ps).length rc) (allR ps).length ((allR ps).map rowV) ∧ w'.ownsRow w.heap.size 22 1 (.slice IA (allI ps).length ic) (allI ps).length ((allI ps).map rowV) → Upd Nob w w' → rest.wp Tryd.prog Q ⟨#[.slice (some ⟨lb, 0, none⟩) ps.length cl, x1, .bool false, .slice RA (allR ps).length rc, .slice IA (allI ps).length ic, x5, x6, x7, x8, x9, x10, x11, x12, x13, x14, x15, x16, x17, x18, x19, x20, x21, x22, x23, x24, x25, x26, x27, x28, x29, x30, x31, x32, x33, x34, x35, x36, x37, x38, x39, x40, x41, x42, x43, x44, x45, x46, x47, x48, x49, x50, x51, x52, x53, x54, x55, x56, x57, x58, x59, x60, x61, x62, x63, x64, x65, x66, x67, x68, x69, x70, x71, x72, x73, x74, x75, x76, x77, x78, x79, x80, x81, x82, x83, x84, x85, x86, x87, x88, x89, x90, x91, x92, x93, x94, x95, x96, x97, x98, x99, x100, x101, x102, x103, x104, x105, x106, x107, x108, x109, x110, x111, x112, x113, x114, x115, x116, x117, x118, x119, x120, x121, x122, x123, x124, x125, x126, x127, x128, x129, x130, x131, x132, x133, x134, x135, x136, x137, x138, x139, x140, x141, x142, x143, x144, x145, x146, x147, x148, x149, x150, x151, x152, x153, x154, x155, x156, x157, x158, x159, x160, x161, x162, x163, x164, x165, x166, x167, x168, x169, x170, x171, x172, x173, x174, x175, x176, x177, x178, x179, x180, x181, x182, x183, x184, x185, x186, x187, x188, x189, x190, x191, x192, x193, x194], []⟩ w') :
    (Code.seq (fstAt K 3) rest).wp Tryd.prog Q ⟨#[.slice (some ⟨lb, 0, none⟩) ps.length cl, x1, .bool false, .slice none 0 0, .slice none 0 0, x5, x6, x7, x8, x9, x10, x11, x12, x13, x14, x15, x16, x17, x18, x19, x20, x21, x22, x23, x24, x25, x26, x27, x28, x29, x30, x31, x32, x33, x34, x35, x36, x37, x38, x39, x40, x41, x42, x43, x44, x45, x46, x47, x48, x49, x50, x51, x52, x53, x54, x55, x56, x57, x58, x59, x60, x61, x62, x63, x64, x65, x66, x67, x68, x69, x70, x71, x72, x73, x74, x75, x76, x77, x78, x79, x80, x81, x82, x83, x84, x85, x86, x87, x88, x89, x90, x91, x92, x93, x94, x95, x96, x97, x98, x99, x100, x101, x102, x103, x104, x105, x106, x107, x108, x109, x110, x111, x112, x113, x114, x115, x116, x117, x118, x119, x120, x121, x122, x123, x124, x125, x126, x127, x128, x129, x130, x131, x132, x133, x134, x135, x136, x137, x138, x139, x140, x141, x142, x143, x144, x145, x146, x147, x148, x149, x150, x151, x152, x153, x154, x155, x156, x157, x158, x159, x160, x161, x162, x163, x164, x165, x166, x167, x168, x169, x170, x171, x172, x173, x174, x175, x176, x177, x178, x179, x180, x181, x182, x183, x184, x185, x186, x187, x188, x189, x190, x191, x192, x193, x194], []⟩ w := by
  injection hK with hK
  subst hK
  obtain ⟨r0, hr0, hr0z0, hr0z1, hr0z2⟩ := info_parts oinfo_sr
  obtain ⟨s0, hs0, hs0z0, hs0z1, hs0z2⟩ := info_parts oinfo_si
  have H := hideP h
  have HL := hideP hL
  have HN := hideP hnext
  have hps := h.len
  clear h hnext hL
  simp only [fstAt]
  go_wp2_with fail
  go_loopg [3, 4, 5] ps.length (fun gk v3 v4 v5 wr => ∃ (i rc ic : Nat) (RA IA : Option Addr) (LR LI : List Row3), i + gk = ps.length ∧ v5 = .int .i64 (i : Int) ∧ v3 = .slice RA LR.length rc ∧ v4 = .slice IA LI.length ic ∧ LR = allR (ps.take i) ∧ LI = allI (ps.take i) ∧ wr.ownsRow w.heap.size 46 1 (.slice RA LR.length rc) LR.length (LR.map rowV) ∧ wr.ownsRow w.heap.size 22 1 (.slice IA LI.length ic) LI.length (LI.map rowV) ∧ Upd Nob w wr)
  case atStart => exact ⟨0, 0, 0, none, none, [], [], by omega, rfl, rfl, rfl, rfl, rfl, World.ownsRow_nil _ _ _ _, World.ownsRow_nil _ _ _ _, Upd.refl _ _⟩
  case round =>
    obtain ⟨i, rc, ic, RA, IA, LR, LI, hk, rfl, rfl, rfl, hLR, hLI, hRL, hIL, hU⟩ := hrel
    have HLR := hideP hLR
    have HLI := hideP hLI
    clear hLR hLI
    have HRL := hideP hRL
    have HIL := hideP hIL
    have HU := hideP hU
    have HK := hideP hk
    clear hRL hIL hU hk
    by_cases hlt : ¬ i < ps.length
    · obtain rfl : i = ps.length := by have := HK.out; omega
      have e1 : ps.take ps.length = ps := List.take_length
      obtain rfl : LR = allR ps := by rw [HLR.out, e1]
      obtain rfl : LI = allI ps := by rw [HLI.out, e1]
      go_wp2_with fail
      exact HN.out RA IA rc ic _ _ _ _ _ _ _ _ _ _ _ _ _ _ _ _ _ _ _ _ _ _ _ _ _ _ _ _ _ _ _ _ _ _ _ _ _ _ _ _ _ _ _ _ _ _ _ _ _ _ _ _ _ _ _ _ _ _ _ _ _ _ _ _ _ _ _ _ _ _ _ _ _ _ _ _ _ _ _ _ _ _ _ _ _ _ _ _ _ _ _ _ _ _ _ _ _ _ _ _ _ _ _ _ _ _ _ _ _ _ _ _ _ _ _ _ _ _ _ _ _ _ _ _ _ _ _ _ _ _ _ _ _ _ _ _ _ _ _ _ _ _ _ _ _ _ _ _ _ _ _ _ _ _ _ _ _ _ _ _ _ _ _ _ _ _ _ _ _ _ _ _ _ _ _ _ _ _ _ _ _ _ _ _ _ _ _ _ _ _ _ _ ⟨HRL.out, HIL.out⟩ HU.out
    have hlt : i < ps.length := by omega
    obtain ⟨p, hp⟩ : ∃ p, ps[i]? = some p := ⟨_, List.getElem?_eq_getElem hlt⟩
    have HPI := hideP hp
    have hpm := List.mem_of_getElem? hp
    have g1 : (i : Int) < (ps.length : Int) := by omega
    have hcl := (HL.out.upd HU.out not_nob).cellv (i := i * 3) (by simpa using flatP_at ps i p hp)
    have hfew := H.out.few p hpm
    have HW := hideP (H.out.own p hpm)
    have hTi := H.out.lenT i
    clear hp
    go_wp2_with fail
    go_loopg [3, 6] p.is.length (fun gk2 v3 v6 wr => ∃ (k rc : Nat) (RA : Option Addr) (L2 : List Row3), k + gk2 = p.is.length ∧ v6 = .int .i64 (k : Int) ∧ v3 = .slice RA L2.length rc ∧ L2 = LR ++ (rowsOf p).take k ∧ wr.ownsRow w.heap.size 46 1 (.slice RA L2.length rc) L2.length (L2.map rowV) ∧ wr.ownsRow w.heap.size 22 1 (.slice IA LI.length ic) LI.length (LI.map rowV) ∧ Upd Nob w wr)
    case atStart => exact ⟨0, rc, RA, LR, by omega, rfl, rfl, by simp, HRL.out, HIL.out, HU.out⟩
    case round =>
      obtain ⟨k, rc2, RA2, L2, hk2, rfl, rfl, hL2, hRL2, hIL2, hU2⟩ := hrel
      have HL2 := hideP hL2
      clear hL2
      have HRL2 := hideP hRL2
      have HIL2 := hideP hIL2
      have HU2 := hideP hU2
      have HK2 := hideP hk2
      have hs2 := hU2.size
      clear hRL2 hIL2 hU2 hk2
      have hcl2 := (HL.out.upd HU2.out not_nob).cellv (i := i * 3) (by simpa using flatP_at ps i p HPI.out)
      by_cases hkn : ¬ k < p.is.length
      · obtain rfl : k = p.is.length := by have := HK2.out; omega
        have e2 : (rowsOf p).take p.is.length = rowsOf p := by rw [List.take_of_length_le]; rw [rowsOf_len HW.out.len]; exact Nat.le_refl _
        have E6 := hideP (show L2 = allR (ps.take (i + 1)) from by rw [HL2.out, e2, HLR.out, allR_more HPI.out])
        have hTi2 : LI.length ≤ 3 := by rw [HLI.out]; simp [allI]; omega
        go_wp2_with (at_builtin; refine wpList_append_lies _ rfl _ _ 69 rfl w.heap.size 22 s0 _ 1 24 Tryd.underlying69 hs0 hs0z0 hs0z1 hs0z2 rfl (by decide) (.slice IA LI.length ic) (LI.length) (LI.map rowV) rfl (own_upd HIL2.out ((Upd.refl Nob wr).alloc _) (fun _ _ => not_nob)) ⟨wr.heap.size, 0, none⟩ 1 1 [.slice p.A p.is.length p.c] rfl rfl (World.news_of_block (cs := #[.slice p.A p.is.length p.c]) (t := 22) (fr := (0, 0)) (heap_alloc_new wr _)) (by intro u hu; simp at hu; rcases hu with rfl; rfl) (by decide) (by unfold maxLen; omega) (by omega) (by simp; omega) (wr.heap.size + 1) (by simp) ?_)
        intro gN cN wN oN gr hat hltN
        have UN := (HU2.out.alloc (.cells #[.slice p.A p.is.length p.c] 22)).grown gr (fun b hb h => absurd h (by have := own_lo HIL2.out hb; omega))
        have UB := ((Upd.refl (fun b => (Value.slice IA LI.length ic).ownBlock = some b) wr).alloc (.cells #[.slice p.A p.is.length p.c] 22)).grown gr (fun b hb _ => hb)
        have HRN := hideP (own_upd HRL2.out UB (fun b hb hb2 => own_types HRL2.out HIL2.out (by decide) hb2 hb))
        have e3 : LI.map rowV ++ [.slice p.A p.is.length p.c] = (LI ++ [rowI p]).map rowV := by rw [List.map_append]; rfl
        have e4 : LI.length + 1 = (LI ++ [rowI p]).length := by simp
        rw [e3, e4] at oN
        rw [e4]
        have e7 : LI ++ [rowI p] = allI (ps.take (i + 1)) := by rw [HLI.out, allI_more HPI.out]
        generalize LI ++ [rowI p] = LI3 at *
        have E7 := hideP e7
        clear e7 e3 e4
        have HIN := hideP oN
        have HUN := hideP UN
        clear oN gr hat UB UN
        go_wp2_with fail
        go_roundg (ps.length - (i + 1))
        case measure => have := HK.out; omega
        case rel => exact ⟨i + 1, rc2, cN, RA2, some ⟨gN, 0, none⟩, L2, LI3, by have := HK.out; omega, by go_num, rfl, rfl, E6.out, E7.out, HRN.out, HIN.out, HUN.out⟩
      have hkn : k < p.is.length := by omega
      have g2 : (k : Int) < (p.is.length : Int) := by omega
      obtain ⟨x, hx⟩ : ∃ x, p.is[k]? = some x := ⟨_, List.getElem?_eq_getElem hkn⟩
      obtain ⟨B, cc, hg, hrw⟩ := rowsOf_at HW.out.len hx
      have HWs := HW.out.upd HU2.out (fun _ _ => not_nob)
      obtain ⟨gA, hA, hci⟩ := HWs.inst_cell hx hg
      have hTk : L2.length ≤ 200000 := by rw [HL2.out, HLR.out]; simp; omega
      have hpA : p.A = some ⟨gA, 0, none⟩ := hA
      rw [hA] at hcl2
      go_wp2_with (at_builtin; refine wpList_append_lies _ rfl _ _ 68 rfl w.heap.size 46 r0 _ 1 24 Tryd.underlying68 hr0 hr0z0 hr0z1 hr0z2 rfl (by decide) (.slice RA2 L2.length rc2) (L2.length) (L2.map rowV) rfl (own_upd HRL2.out ((Upd.refl Nob wr).alloc _) (fun _ _ => not_nob)) ⟨wr.heap.size, 0, none⟩ 1 1 [.slice B x.rs.length cc] rfl rfl (World.news_of_block (cs := #[.slice B x.rs.length cc]) (t := 46) (fr := (0, 0)) (heap_alloc_new wr _)) (by intro u hu; simp at hu; rcases hu with rfl; rfl) (by decide) (by unfold maxLen; omega) (by omega) (by simp; omega) (wr.heap.size + 1) (by simp) ?_)
      intro gN cN wN oN gr hat hltN
      have UN := (HU2.out.alloc (.cells #[.slice B x.rs.length cc] 46)).grown gr (fun b hb h => absurd h (by have := own_lo HRL2.out hb; omega))
      have UB := ((Upd.refl (fun b => (Value.slice RA2 L2.length rc2).ownBlock = some b) wr).alloc (.cells #[.slice B x.rs.length cc] 46)).grown gr (fun b hb _ => hb)
      have HIN := hideP (own_upd HIL2.out UB (fun b hb hb2 => own_types HIL2.out HRL2.out (by decide) hb2 hb))
      have e4 : L2.map rowV ++ [.slice B x.rs.length cc] = (L2 ++ [(B, x.rs.length, cc)]).map rowV := by rw [List.map_append]; rfl
      have e5 : L2.length + 1 = (L2 ++ [(B, x.rs.length, cc)]).length := by simp
      rw [e4, e5] at oN
      rw [e5]
      have e7 : L2 ++ [(B, x.rs.length, cc)] = LR ++ (rowsOf p).take (k + 1) := by rw [HL2.out, List.take_add_one, hrw, List.append_assoc]; rfl
      generalize L2 ++ [(B, x.rs.length, cc)] = L3 at *
      have E7 := hideP e7
      clear e7 e4 e5
      have HRN := hideP oN
      have HUN := hideP UN
      clear oN gr hat UB UN
      go_wp2_with fail
      go_roundg (p.is.length - (k + 1))
      case measure => have := HK2.out; omega
      case rel => exact ⟨k + 1, cN, some ⟨gN, 0, none⟩, L3, by have := HK2.out; omega, by go_num, rfl, E7.out, HRN.out, HIN.out, HUN.out⟩
end Go.Proofs.YtdbdokjlcdogiaaDoor
