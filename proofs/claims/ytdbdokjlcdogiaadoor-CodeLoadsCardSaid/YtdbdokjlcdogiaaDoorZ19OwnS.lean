/-
  RefLr, OwnR, OwnS, put together.
-/
import Derived.Test.YtdbdokjlcdogiaaDoorZ12RefJ
import Derived.Test.YtdbdokjlcdogiaaDoorZ13RefLP
import Derived.Test.YtdbdokjlcdogiaaDoorZ16Load7
import Derived.Test.YtdbdokjlcdogiaaDoorZ18LoadX
import Derived.Test.YtdbdokjlcdogiaaDoorZ09LoadT
import Derived.ArgAppend
import Derived.Laws.OwnMore

/-
  heronref10.Load from its region 9 on (the numbers, the instructions, the check), over whatever frame. Printed by tools/mkRefL.py.
-/
namespace Go.Proofs.YtdbdokjlcdogiaaDoor
open Go.RowKit
set_option linter.unusedVariables false

theorem refl_end (P : Ending → World → Prop) (w : World) (a : Act) (b : Nat) (v0 v1 v2 v3 : Value) (hd : a.defers = []) (ht : a.tmps[2]? = some (.pointer (some ⟨b, 0, none⟩))) (h3 : a.tmps[3]? = some v3) (hC : Cells w b 24 #[v0, v1, v2]) (hP : P (.returned (.tuple #[.agg #[v0, v1, v2], v3])) w) :
    bodyPost Tryd.prog Tryd.f14 P .ret a w := by
  have c0 := hC.cellv (i := 0) rfl
  have c1 := hC.cellv (i := 1) rfl
  have c2 := hC.cellv (i := 2) rfl
  exact ⟨hd, _, by simp [results, Tryd.results14, go_sem, ht, h3, c0, c1, c2], hP⟩
theorem refcheck_any {w : World} {base : Nat} {A : Option Addr} {c : Nat} {is : List PInst} {gs : List (Option Addr × Nat)} {start caps : Int} (h : ProgW w base A c is gs) (hn : ∀ x ∈ is, NumI x) (hs : In64 start) (hc : In64 caps) (hl : is.length ≤ 9000000) (e0 : Int) (he : errOf (checkB is start caps) = e0) :
    Calls Tryd.prog 28 #[.agg #[.slice A is.length c, .int .i64 start, .int .i64 caps]] w fun e w' => e = .returned (.int .i64 e0) ∧ Upd Nob w w' := by
  subst he
  exact (ref_check w _ A is.length c is start caps (h.insts hn) hs hc (by omega)).mono (fun e w' h => h)
theorem three_upd (w : World) (b : Nat) (v0 v1 v2 : Value) : Upd (fun k => k = b) w (((w.setCell ⟨b, 0, none⟩ v0).setCell ⟨b, 1, none⟩ v1).setCell ⟨b, 2, none⟩ v2) :=
  (((Upd.refl (fun k => k = b) w).setCell ⟨b, 0, none⟩ v0 (fun _ => rfl)).setCell ⟨b, 1, none⟩ v1 (fun _ => rfl)).setCell ⟨b, 2, none⟩ v2 (fun _ => rfl)
theorem three_cells {w : World} {b : Nat} {u0 u1 u2 : Value} (h : Cells w b 24 #[u0, u1, u2]) (v0 v1 v2 : Value) : Cells (((w.setCell ⟨b, 0, none⟩ v0).setCell ⟨b, 1, none⟩ v1).setCell ⟨b, 2, none⟩ v2) b 24 #[v0, v1, v2] := ((h.set_ 0 v0).set_ 1 v1).set_ 2 v2
set_option maxRecDepth 100000 in
set_option maxHeartbeats 4000000 in
theorem refl_rest (P : Ending → World → Prop) (w w6 : World) (S : Nat → Prop) (ad : Addr) (n c m : Nat) (all : List Int) (K : Code) (x1 x3 x5 x6 x7 x8 x9 x10 x11 x12 x13 x14 x15 x16 x17 x18 x19 x20 x21 x22 x23 x24 x25 x26 x27 x28 x29 x30 x31 x32 x33 x34 x35 x36 x37 x38 x39 x40 x41 x42 x43 x44 x45 x46 x47 x48 x49 x50 x51 x52 x53 x54 x55 x56 x57 x58 x59 x60 x61 x62 x63 x64 x65 x66 x67 x68 x69 x70 x71 x72 x73 x74 x75 x76 x77 x78 x79 x80 x81 x82 x83 x84 x85 x86 x87 x88 x89 x90 x91 x92 x93 x94 x95 x96 x97 x98 x99 x100 x101 x102 x103 x104 x105 x106 x107 x108 x109 x110 x111 x112 x113 x114 x115 x116 x117 x118 x119 x120 x121 x122 x123 x124 x125 x126 x127 x128 x129 x130 x131 x132 x133 x134 x135 x136 : Value)
    (hK : Tryd.f14.body = some K) (hR : Reads w6 S 1 (some ad) m (bytv all)) (hB : Bys all) (hm4 : 4 ≤ m) (hm8 : m ≤ 8388608) (hmn : m ≤ n) (hnc : n ≤ c) (hS : ∀ b, S b → b < w.heap.size) (hC : Cells w6 w.heap.size 24 #[.slice none 0 0, .int .i64 0, .int .i64 0]) (hU : Upd Nob w w6)
    (hno : bodyB (all.drop 4) = none → ∀ w', Upd Nob w w' → P (.returned (.tuple #[.agg #[.slice none 0 0, .int .i64 0, .int .i64 0], .int .i64 101])) w')
    (hyes : ∀ is start caps A c gs w', bodyB (all.drop 4) = some (is, start, caps) → ProgW w' w.heap.size A c is gs → Upd Nob w w' → P (.returned (.tuple #[.agg #[.slice A is.length c, .int .i64 start, .int .i64 caps], .int .i64 0])) w') :
    (seqAt K 6).wp Tryd.prog (bodyPost Tryd.prog Tryd.f14 P) ⟨#[.slice (some ad) n c, x1, .pointer (some ⟨w.heap.size, 0, none⟩), x3, .int .i64 (m : Nat), x5, x6, x7, x8, x9, x10, x11, x12, x13, x14, x15, x16, x17, x18, x19, x20, x21, x22, x23, x24, x25, x26, x27, x28, x29, x30, x31, x32, x33, x34, x35, x36, x37, x38, x39, x40, x41, x42, x43, x44, x45, x46, x47, x48, x49, x50, x51, x52, x53, x54, x55, x56, x57, x58, x59, x60, x61, x62, x63, x64, x65, x66, x67, x68, x69, x70, x71, x72, x73, x74, x75, x76, x77, x78, x79, x80, x81, x82, x83, x84, x85, x86, x87, x88, x89, x90, x91, x92, x93, x94, x95, x96, x97, x98, x99, x100, x101, x102, x103, x104, x105, x106, x107, x108, x109, x110, x111, x112, x113, x114, x115, x116, x117, x118, x119, x120, x121, x122, x123, x124, x125, x126, x127, x128, x129, x130, x131, x132, x133, x134, x135, x136], []⟩ w6 := by
  injection hK with hK
  subst hK
  have hall : all.length = m := by have := hR.1; simpa [bytv] using this
  have hlb : w.heap.size < w6.heap.size := hC.lt
  have k9 : (m : Int) ≤ (c : Int) := by omega
  have RC : ∃ o, o = (Obj.cells #[.slice none 0 0, .slice (some ad) m c, .int .i64 4, .bool false] 56) := ⟨_, rfl⟩
  have HR0 := hideP (show RdR ((w6.alloc (.cells #[.slice none 0 0, .slice (some ad) m c, .int .i64 4, .bool false] 56)).alloc (.cells #[.slice none 0 0, .int .i64 0, .int .i64 0] 24)) S w6.heap.size all (all.drop 4) false from
    ⟨⟨some ad, c, 4, by rw [hall]; exact (Cells.new w6 _ _).alloc _, by rw [hall]; exact (hR.alloc _).alloc _, by omega, rfl⟩, hB, by omega, fun b hb => by have := hS b hb; omega⟩)
  have HC0 := hideP ((hC.alloc (.cells #[.slice none 0 0, .slice (some ad) m c, .int .i64 4, .bool false] 56)).alloc (.cells #[.slice none 0 0, .int .i64 0, .int .i64 0] 24))
  have hq := Cells.new (w6.alloc (.cells #[.slice none 0 0, .slice (some ad) m c, .int .i64 4, .bool false] 56)) 24 #[.slice none 0 0, .int .i64 0, .int .i64 0]
  rw [World.size_alloc] at hq
  have HQ0 := hideP hq
  have HU0 := hideP ((hU.alloc (.cells #[.slice none 0 0, .slice (some ad) m c, .int .i64 4, .bool false] 56)).alloc (.cells #[.slice none 0 0, .int .i64 0, .int .i64 0] 24))
  have HS := hideP hS
  have HNO := hideP hno
  have HYES := hideP hyes
  have HEQ := hideP (refBody_eq (bs := all.drop 4) (fun x hx => hB x (List.mem_of_mem_drop hx)))
  clear hS hC hU hno hyes hR hB hq RC
  simp only [seqAt]
  go_upto_region 11 with fail
  generalize (w6.alloc (.cells #[.slice none 0 0, .slice (some ad) m c, .int .i64 4, .bool false] 56)).alloc (.cells #[.slice none 0 0, .int .i64 0, .int .i64 0] 24) = w8 at *
  generalize hrb : w6.heap.size = rb at *
  have hn1 : ¬ rb + 1 = rb := by omega
  have hn2 : ¬ w.heap.size = rb := by omega
  clear k9
  obtain ⟨caps, r1, b1, e1⟩ : ∃ v r b, nxt false (all.drop 4) = (v, r, b) := ⟨_, _, _, rfl⟩
  obtain ⟨start, r2, b2, e2⟩ : ∃ v r b, nxt b1 r1 = (v, r, b) := ⟨_, _, _, rfl⟩
  obtain ⟨k, r3, b3, e3⟩ : ∃ v r b, nxt b2 r2 = (v, r, b) := ⟨_, _, _, rfl⟩
  have HRB := hideP (show refBody (all.drop 4) = if (lpR k.toNat b3 r3).2.2 = false ∧ (lpR k.toNat b3 r3).2.1 = [] ∧ checkB (lpR k.toNat b3 r3).1 start caps = true then some ((lpR k.toNat b3 r3).1, start, caps) else none from by unfold refBody; simp only; rw [e1]; simp only; rw [e2]; simp only; rw [e3])
  have n1 := (nxt_in (b := false) HR0.out.rest_.1).1
  rw [e1] at n1
  have E1 := hideP e1
  have E2 := hideP e2
  have E3 := hideP e3
  clear e1 e2 e3
  go_upto_region 12 with (go_at_call 26; refine (next_any _ S rb all (all.drop 4) false HR0.out).mono ?_; rw [E1.out]; rintro e w9 ⟨rfl, hR9, hU9⟩; have cx9 := (HQ0.out).upd hU9 hn1; have z9 := cx9.cellv (i := 0 + 2) rfl; have f9 := cx9.frozen (0 + 2))
  have HRa := hideP (hR9.upd ((Upd.refl (fun b => b = rb + 1) w9).setCell ⟨rb + 1, 0 + 2, none⟩ (.int .i64 caps) (fun _ => rfl)) (fun (e : rb = rb + 1) => by omega) (fun b hb (e : b = rb + 1) => by have := HS.out b hb; omega))
  have HQa := hideP (cx9.set_ (0 + 2) (.int .i64 caps))
  have HCa := hideP ((HC0.out.upd hU9 hn2).far ⟨rb + 1, 0 + 2, none⟩ (.int .i64 caps) (by show w.heap.size ≠ rb + 1; omega))
  have HUa := hideP ((HU0.out.trans hU9 (fun b hb (h : b = rb) => by omega)).setCell ⟨rb + 1, 0 + 2, none⟩ (.int .i64 caps) (fun h => absurd h (by show ¬ rb + 1 < _; omega)))
  have n2 := (nxt_in (b := b1) hR9.rest_.1).1
  rw [E2.out] at n2
  clear hR9 hU9 cx9 z9 f9 HR0 HQ0 HC0 HU0
  generalize w9.setCell ⟨rb + 1, 0 + 2, none⟩ (.int .i64 caps) = wa at *
  go_upto_region 13 with (go_at_call 26; refine (next_any _ S rb all r1 b1 HRa.out).mono ?_; rw [E2.out]; rintro e w9 ⟨rfl, hR9, hU9⟩; have cx9 := (HQa.out).upd hU9 hn1; have z9 := cx9.cellv (i := 0 + 1) rfl; have f9 := cx9.frozen (0 + 1))
  have HRb := hideP (hR9.upd ((Upd.refl (fun b => b = rb + 1) w9).setCell ⟨rb + 1, 0 + 1, none⟩ (.int .i64 start) (fun _ => rfl)) (fun (e : rb = rb + 1) => by omega) (fun b hb (e : b = rb + 1) => by have := HS.out b hb; omega))
  have HQb := hideP (cx9.set_ (0 + 1) (.int .i64 start))
  have HCb := hideP ((HCa.out.upd hU9 hn2).far ⟨rb + 1, 0 + 1, none⟩ (.int .i64 start) (by show w.heap.size ≠ rb + 1; omega))
  have HUb := hideP ((HUa.out.trans hU9 (fun b hb (h : b = rb) => by omega)).setCell ⟨rb + 1, 0 + 1, none⟩ (.int .i64 start) (fun h => absurd h (by show ¬ rb + 1 < _; omega)))
  have n3 := (nxt_in (b := b2) hR9.rest_.1).1
  rw [E3.out] at n3
  clear hR9 hU9 cx9 z9 f9 HRa HQa HCa HUa
  generalize w9.setCell ⟨rb + 1, 0 + 1, none⟩ (.int .i64 start) = wb at *
  go_upto_region 14 with (go_at_call 26; refine (next_any _ S rb all r2 b2 HRb.out).mono ?_; rw [E3.out]; rintro e wc ⟨rfl, hRc, hUc⟩)
  have HRc := hideP hRc
  have HQc := hideP (HQb.out.upd hUc hn1)
  have HCc := hideP (HCb.out.upd hUc hn2)
  have HUc := hideP (HUb.out.trans hUc (fun b hb (h : b = rb) => by omega))
  have hrl := hRc.rest_.2
  have hrf := hRc.few
  clear hRc hUc HRb HQb HCb HUb
  have i1 := in64_36 n1
  have i2 := in64_36 n2
  unfold Num36 at n3
  obtain ⟨kk, hkk⟩ := Int.eq_ofNat_of_zero_le n3.1
  subst hkk
  rw [Int.toNat_natCast] at HRB
  clear n1 n2 n3
  obtain ⟨bb, hbb⟩ : ∃ bb, bb = b3 := ⟨_, rfl⟩
  obtain ⟨rr, hrr⟩ : ∃ rr, rr = r3 := ⟨_, rfl⟩
  rw [← hbb, ← hrr] at HRB
  have HBB := hideP hbb
  have HRR := hideP hrr
  clear hbb hrr
  obtain ⟨i0, hi0, hz0, hz1, hz2⟩ := info_parts finfo_inst
  go_wp2_with fail
  go_loopg [9] kk (fun gk v9 wr => ∃ (i : Nat) (is : List PInst) (gs : List (Option Addr × Nat)) (A : Option Addr) (cA : Nat) (q : List Int) (b : Bool), i + gk = kk ∧ v9 = .int .i64 (i : Int) ∧ is.length = i ∧ Cells wr (rb + 1) 24 #[.slice A i cA, .int .i64 start, .int .i64 caps] ∧ Cells wr w.heap.size 24 #[.slice none 0 0, .int .i64 0, .int .i64 0] ∧ ProgW wr (rb + 2) A cA is gs ∧ (∀ x ∈ is, NumI x) ∧ RdR wr S rb all q b ∧ lpR kk bb rr = (is ++ (lpR (kk - i) b q).1, (lpR (kk - i) b q).2) ∧ (b = false → i + q.length ≤ 8388608) ∧ i ≤ 8388609 ∧ Upd Nob w wr)
  case atStart => exact ⟨0, [], [], none, 0, r3, b3, by omega, rfl, rfl, HQc.out, HCc.out, ProgW.none_ _ _, fun x hx => by simp at hx, HRc.out, by rw [HBB.out, HRR.out]; simp, fun _ => by omega, by omega, HUc.out⟩
  case round =>
    clear HRc HQc HCc HUc hrl hrf
    obtain ⟨i, is, gs, A, cA, q, b, hk, rfl, hlen, hQ, hC, hP, hNI, hR, hL, hbd, hi8, hU⟩ := hrel
    have HK := hideP hk
    have HQ := hideP hQ
    have HC := hideP hC
    have HP := hideP hP
    have HNI := hideP hNI
    have HR := hideP hR
    have HL := hideP hL
    have HBD := hideP hbd
    have HU := hideP hU
    have hs1 := hQ.lt
    obtain ⟨LA, Lc, Lk, hrc, -, hLk, hLd⟩ := hR.at_
    have c2 := hrc.cellv (i := 0 + 2) rfl
    have c3 := hrc.cellv (i := 0 + 3) rfl
    have HRC := hideP hrc
    clear hk hQ hC hP hNI hR hL hbd hU hrc
    have hend : (i < kk → b = true) → lpR kk bb rr = (is, q, b) := fun h => by
      rw [HL.out]
      by_cases hlt : i < kk
      · rw [h hlt, lpR_bad]
        simp
      · rw [show kk - i = 0 by omega]
        simp [lpR]
    have HEND := hideP hend
    clear hend
    by_cases hgo : i < kk ∧ b = false
    · obtain ⟨hik, rfl⟩ := hgo
      obtain ⟨x, r5, b5, hX⟩ : ∃ x r5 b5, instR false q = (x, r5, b5) := ⟨_, _, _, rfl⟩
      have HX := hideP hX
      have hNX := (instR_in (b := false) HR.out.rest_.1 (by have := HR.out.rest_.2; have := HR.out.few; omega)).1
      rw [hX] at hNX
      have HNX := hideP hNX
      have q1 : (i : Int) < (kk : Int) := by omega
      have hb8 := HBD.out rfl
      clear hX hNX HEND
      go_upto_region 18 with (go_at_call 27; refine (rdInst_any wr S rb all q false HR.out (fun b hb => by have := HS.out b hb; omega)).mono ?_; rw [HX.out]; rintro e w5 ⟨B, cc, rfl, hO5, hR5, hU5⟩)
      have U6 := hU5.alloc (.cells #[.int .i64 x.op, .int .i64 x.x, .int .i64 x.y, .int .i64 x.arg, .slice B x.rs.length cc] 48)
      have HR6 := hideP (hR5.alloc (.cells #[.int .i64 x.op, .int .i64 x.x, .int .i64 x.y, .int .i64 x.arg, .slice B x.rs.length cc] 48))
      have HQ6 := hideP (HQ.out.upd U6 hn1)
      have HC6 := hideP (HC.out.upd U6 hn2)
      have HP6 := hideP (HP.out.upd U6 (fun b hb (e : b = rb) => by omega))
      have HO6 := hideP (own_upd hO5 ((Upd.refl Nob w5).alloc (.cells #[.int .i64 x.op, .int .i64 x.x, .int .i64 x.y, .int .i64 x.arg, .slice B x.rs.length cc] 48)) (fun _ _ => not_nob))
      have HU6 := hideP (HU.out.trans U6 (fun b hb (h : b = rb) => by omega))
      have HT6 := hideP (Cells.new w5 48 #[.int .i64 x.op, .int .i64 x.x, .int .i64 x.y, .int .i64 x.arg, .slice B x.rs.length cc])
      have hs6 := U6.size
      have hs5 := hU5.size
      have hPL := hideP HP.out.lt
      clear hO5 hR5 hU5 U6
      generalize hwz : w5.alloc (.cells #[.int .i64 x.op, .int .i64 x.x, .int .i64 x.y, .int .i64 x.arg, .slice B x.rs.length cc] 48) = w6 at *
      have htl := HT6.out.lt
      have p0 := HQ6.out.cellv (i := 0) rfl
      have fp := HQ6.out.frozen 0
      have t0 := HT6.out.cellv (i := 0) rfl
      have t1 := HT6.out.cellv (i := 0 + 1) rfl
      have t2 := HT6.out.cellv (i := 0 + 2) rfl
      have t3 := HT6.out.cellv (i := 0 + 3) rfl
      have t4 := HT6.out.cellv (i := 0 + 4) rfl
      subst hlen
      have P9 := HP6.out.upd ((Upd.refl Nob w6).alloc (.cells #[.int .i64 x.op, .int .i64 x.x, .int .i64 x.y, .int .i64 x.arg, .slice B x.rs.length cc] 48)) (fun _ _ => not_nob)
      go_wp2_with (at_builtin; refine wpList_append_lies _ rfl _ _ 22 rfl (rb + 2) 48 i0 _ 5 56 Tryd.underlying22 hi0 hz0 hz1 hz2 rfl (by decide) (.slice A is.length cA) is.length (flatI is gs) rfl P9.row ⟨w6.heap.size, 0, none⟩ 1 1 (instCells x B x.rs.length cc).toList rfl rfl (World.news_of_block (cs := instCells x B x.rs.length cc) (t := 48) (fr := (0, 0)) (heap_alloc_new w6 _)) (by intro u hu; simp [instCells] at hu; rcases hu with rfl | rfl | rfl | rfl | rfl <;> rfl) (by decide) (by unfold maxLen; omega) (by omega) (by simp; omega) (w6.heap.size + 1) (by simp) ?_)
      intro gN cN wN oN gr hat hltN
      have hU9 := (Upd.refl Nob w6).alloc (.cells #[.int .i64 x.op, .int .i64 x.x, .int .i64 x.y, .int .i64 x.arg, .slice B x.rs.length cc] 48)
      have X9 := HQ6.out.upd hU9 not_nob
      have O9 : (w6.alloc (.cells #[.int .i64 x.op, .int .i64 x.x, .int .i64 x.y, .int .i64 x.arg, .slice B x.rs.length cc] 48)).ownsRow (rb + 2) 50 2 (.slice B x.rs.length cc) x.rs.length (pairv x.rs) := own_base (own_upd HO6.out hU9 (fun _ _ => not_nob)) (fun b hb => by have := own_lo HO6.out hb; omega)
      have OB := fun b (hb : (Value.slice A is.length cA).ownBlock = some b) => own_lo P9.row hb
      have UB := (Upd.refl (fun b => (Value.slice A is.length cA).ownBlock = some b) (w6.alloc (.cells #[.int .i64 x.op, .int .i64 x.x, .int .i64 x.y, .int .i64 x.arg, .slice B x.rs.length cc] 48))).grown gr (fun b hb _ => hb)
      have UN := (HU6.out.trans hU9 (fun _ _ h => h)).grown gr (fun b hb h => absurd h (by have := OB b hb; omega))
      have XN := X9.upd UB (own_ne P9.row X9 (by decide))
      have PN := P9.more O9 (fun j B' cc' b hg hb hb2 => by have h1 := hPL.out j B' cc' b hg hb; have h2 := own_lo HO6.out (ownBlock_map.2 hb2); omega) oN gr
      have RN := (HR6.out.upd hU9 not_nob (fun _ _ => not_nob)).upd UB (fun h => by have := OB rb h; omega) (fun b hb h => by have h1 := OB b h; have h2 := HS.out b hb; omega)
      have CN := (HC6.out.upd hU9 not_nob).upd UB (fun h => by have := OB _ h; omega)
      have x4 : wN.cell? ⟨rb + 1, 0, none⟩ = some (.slice A is.length cA) := XN.cellv rfl
      have z4 : wN.frozen? ⟨rb + 1, 0, none⟩ = false := XN.frozen _
      have UE := (Upd.refl (fun b => b = rb + 1) wN).setCell ⟨rb + 1, 0, none⟩ (.slice (some ⟨gN, 0, none⟩) (is.length + 1) cN) (fun _ => rfl)
      have HXE := hideP (XN.set_ 0 (.slice (some ⟨gN, 0, none⟩) (is.length + 1) cN))
      have HPE := hideP (PN.upd UE (fun b hb (e : b = rb + 1) => by omega))
      have HRE := hideP (RN.upd UE (fun (e : rb = rb + 1) => by omega) (fun b hb (e : b = rb + 1) => by have := HS.out b hb; omega))
      have HCE := hideP (CN.upd UE (fun (e : w.heap.size = rb + 1) => by omega))
      have HUE := hideP (UN.trans UE (fun b hb (h : b = rb + 1) => by omega))
      have HB5 := hideP (show b5 = false → (is.length + 1) + r5.length ≤ 8388608 from fun e => by
        subst e
        have h1 := instR_less HR.out.rest_.1 (by rw [HX.out])
        rw [HX.out] at h1
        simp only at h1
        omega)
      clear oN gr hat UB UN XN PN RN CN UE X9 O9 P9 hU9
      go_wp2_with fail
      go_roundg (kk - (is.length + 1))
      case measure => have := HK.out; omega
      case rel => exact ⟨is.length + 1, is ++ [x], gs ++ [(B, cc)], some ⟨gN, 0, none⟩, cN, r5, b5, by have := HK.out; omega, by go_num, by simp, HXE.out, HCE.out, HPE.out, fun y hy => by
          rcases List.mem_append.1 hy with hy | hy
          · exact HNI.out y hy
          · obtain rfl : y = x := by simpa using hy
            exact HNX.out, HRE.out, by rw [HL.out, show kk - is.length = (kk - (is.length + 1)) + 1 by omega, lpR_step HX.out]; simp, HB5.out, by omega, HUE.out⟩
    · have HE := hideP (HEND.out (fun h => by cases b with | true => rfl | false => exact absurd ⟨h, rfl⟩ hgo))
      subst hlen
      have p0 := HQ.out.cellv (i := 0) rfl
      have p1 := HQ.out.cellv (i := 0 + 1) rfl
      have p2 := HQ.out.cellv (i := 0 + 2) rfl
      obtain ⟨e0, he0⟩ : ∃ e0, errOf (checkB is start caps) = e0 := ⟨_, rfl⟩
      have HEQ0 := he0
      by_cases hik : is.length < kk
      · have hb1 : b = true := by cases b with | true => rfl | false => exact absurd ⟨hik, rfl⟩ hgo
        subst hb1
        have q1 : (is.length : Int) < (kk : Int) := by omega
        go_upto_region 20 with (go_at_call 28; refine (refcheck_any HP.out HNI.out i2 i1 (by omega) _ HEQ0).mono ?_; rintro e wd ⟨rfl, hUd⟩)
        clear c2 c3
        have c2 := (HRC.out.upd hUd not_nob).cellv (i := 0 + 2) rfl
        have c3 := (HRC.out.upd hUd not_nob).cellv (i := 0 + 3) rfl
        have CD := HC.out.upd hUd not_nob
        have d0 := CD.cellv (i := 0) rfl
        have d1 := CD.cellv (i := 0 + 1) rfl
        have d2 := CD.cellv (i := 0 + 2) rfl
        have f0 := CD.frozen 0
        have f1 := CD.frozen (0 + 1)
        have f2 := CD.frozen (0 + 2)
        go_wp2_with fail
        refine refl_end _ _ _ _ _ _ _ _ rfl rfl rfl (three_cells CD (.slice none 0 0) (.int .i64 0) (.int .i64 0)) (HNO.out (by rw [← HEQ.out, HRB.out, HE.out]; simp only; rw [if_neg (by simp)]) _ ((HU.out.trans hUd (fun _ _ h => h)).trans (three_upd _ _ (.slice none 0 0) (.int .i64 0) (.int .i64 0)) (fun b hb (h : b = w.heap.size) => by omega)))
      have q1 : ¬ (is.length : Int) < (kk : Int) := by omega
      cases b with
      | true =>
        go_upto_region 20 with (go_at_call 28; refine (refcheck_any HP.out HNI.out i2 i1 (by omega) _ HEQ0).mono ?_; rintro e wd ⟨rfl, hUd⟩)
        clear c2 c3
        have c2 := (HRC.out.upd hUd not_nob).cellv (i := 0 + 2) rfl
        have c3 := (HRC.out.upd hUd not_nob).cellv (i := 0 + 3) rfl
        have CD := HC.out.upd hUd not_nob
        have d0 := CD.cellv (i := 0) rfl
        have d1 := CD.cellv (i := 0 + 1) rfl
        have d2 := CD.cellv (i := 0 + 2) rfl
        have f0 := CD.frozen 0
        have f1 := CD.frozen (0 + 1)
        have f2 := CD.frozen (0 + 2)
        go_wp2_with fail
        refine refl_end _ _ _ _ _ _ _ _ rfl rfl rfl (three_cells CD (.slice none 0 0) (.int .i64 0) (.int .i64 0)) (HNO.out (by rw [← HEQ.out, HRB.out, HE.out]; simp only; rw [if_neg (by simp)]) _ ((HU.out.trans hUd (fun _ _ h => h)).trans (three_upd _ _ (.slice none 0 0) (.int .i64 0) (.int .i64 0)) (fun b hb (h : b = w.heap.size) => by omega)))
      | false =>
        by_cases hq : q = []
        · have hLk2 : Lk = m := by
            have := congrArg List.length hLd
            rw [hq, List.length_drop] at this
            simp at this
            omega
          have q2 : ¬ (Lk : Int) < (m : Int) := by omega
          by_cases hck : checkB is start caps = true
          · rw [hck] at he0
            have he1 : e0 = 0 := he0.symm
            subst he1
            go_upto_region 20 with (go_at_call 28; refine (refcheck_any HP.out HNI.out i2 i1 (by omega) _ HEQ0).mono ?_; rintro e wd ⟨rfl, hUd⟩)
            clear c2 c3
            have c2 := (HRC.out.upd hUd not_nob).cellv (i := 0 + 2) rfl
            have c3 := (HRC.out.upd hUd not_nob).cellv (i := 0 + 3) rfl
            have CD := HC.out.upd hUd not_nob
            have d0 := CD.cellv (i := 0) rfl
            have d1 := CD.cellv (i := 0 + 1) rfl
            have d2 := CD.cellv (i := 0 + 2) rfl
            have f0 := CD.frozen 0
            have f1 := CD.frozen (0 + 1)
            have f2 := CD.frozen (0 + 2)
            have t0 := (HQ.out.upd hUd not_nob).cellv (i := 0) rfl
            have t1 := (HQ.out.upd hUd not_nob).cellv (i := 0 + 1) rfl
            have t2 := (HQ.out.upd hUd not_nob).cellv (i := 0 + 2) rfl
            go_wp2_with fail
            refine refl_end _ _ _ _ _ _ _ _ rfl rfl rfl (three_cells CD _ _ _) (HYES.out is start caps A cA gs _ (by rw [← HEQ.out, HRB.out, HE.out]; simp only; rw [if_pos (by simp [hq, hck])]) (((HP.out.upd hUd (fun _ _ => not_nob)).upd (three_upd _ _ _ _ _) (fun b hb (h : b = w.heap.size) => by omega)).base_ (by omega)) ((HU.out.trans hUd (fun _ _ h => h)).trans (three_upd _ _ _ _ _) (fun b hb (h : b = w.heap.size) => by omega)))
          · have hckf := (Bool.not_eq_true _).mp hck
            rw [hckf] at he0
            have he1 : e0 = 90 := he0.symm
            subst he1
            go_upto_region 20 with (go_at_call 28; refine (refcheck_any HP.out HNI.out i2 i1 (by omega) _ HEQ0).mono ?_; rintro e wd ⟨rfl, hUd⟩)
            clear c2 c3
            have c2 := (HRC.out.upd hUd not_nob).cellv (i := 0 + 2) rfl
            have c3 := (HRC.out.upd hUd not_nob).cellv (i := 0 + 3) rfl
            have CD := HC.out.upd hUd not_nob
            have d0 := CD.cellv (i := 0) rfl
            have d1 := CD.cellv (i := 0 + 1) rfl
            have d2 := CD.cellv (i := 0 + 2) rfl
            have f0 := CD.frozen 0
            have f1 := CD.frozen (0 + 1)
            have f2 := CD.frozen (0 + 2)
            go_wp2_with fail
            refine refl_end _ _ _ _ _ _ _ _ rfl rfl rfl (three_cells CD (.slice none 0 0) (.int .i64 0) (.int .i64 0)) (HNO.out (by rw [← HEQ.out, HRB.out, HE.out]; simp only; rw [if_neg (by simp [hck])]) _ ((HU.out.trans hUd (fun _ _ h => h)).trans (three_upd _ _ (.slice none 0 0) (.int .i64 0) (.int .i64 0)) (fun b hb (h : b = w.heap.size) => by omega)))
        · have hLk2 : Lk < m := by
            have h1 : 0 < q.length := List.length_pos_iff.2 hq
            have := congrArg List.length hLd
            rw [List.length_drop] at this
            omega
          have q2 : (Lk : Int) < (m : Int) := by omega
          go_upto_region 20 with (go_at_call 28; refine (refcheck_any HP.out HNI.out i2 i1 (by omega) _ HEQ0).mono ?_; rintro e wd ⟨rfl, hUd⟩)
          clear c2 c3
          have c2 := (HRC.out.upd hUd not_nob).cellv (i := 0 + 2) rfl
          have c3 := (HRC.out.upd hUd not_nob).cellv (i := 0 + 3) rfl
          have CD := HC.out.upd hUd not_nob
          have d0 := CD.cellv (i := 0) rfl
          have d1 := CD.cellv (i := 0 + 1) rfl
          have d2 := CD.cellv (i := 0 + 2) rfl
          have f0 := CD.frozen 0
          have f1 := CD.frozen (0 + 1)
          have f2 := CD.frozen (0 + 2)
          go_wp2_with fail
          refine refl_end _ _ _ _ _ _ _ _ rfl rfl rfl (three_cells CD (.slice none 0 0) (.int .i64 0) (.int .i64 0)) (HNO.out (by rw [← HEQ.out, HRB.out, HE.out]; simp only; rw [if_neg (by simp [hq])]) _ ((HU.out.trans hUd (fun _ _ h => h)).trans (three_upd _ _ (.slice none 0 0) (.int .i64 0) (.int .i64 0)) (fun b hb (h : b = w.heap.size) => by omega)))
end Go.Proofs.YtdbdokjlcdogiaaDoor

/-
  Rows of structs that came out, each in a block of its own: filled with a pattern, grown, read back. Plain lemmas over memory; nothing of the program.
-/
namespace Go.Proofs.YtdbdokjlcdogiaaDoor
open Go.RowKit
set_option linter.unusedVariables false

/-- a row that came out: where, how many, the room -/
abbrev Row3 := Option Addr × Nat × Nat
def rowV (r : Row3) : Value := .slice r.1 r.2.1 r.2.2
/-- the first m elements, of so many cells, are pat -/
def PatTo (pat : List Value) (size m : Nat) (xs : List Value) : Prop := ∀ j, j < m * size → xs[j]? = pat[j % size]?
theorem PatTo.zero (pat : List Value) (size : Nat) (xs : List Value) : PatTo pat size 0 xs := fun j hj => by omega
theorem PatTo.put2 {a b : Value} {k n : Nat} {xs : List Value} (h : PatTo [a, b] 2 k xs) (hl : xs.length = n * 2) (hk : k < n) : PatTo [a, b] 2 (k + 1) ((xs.set (k * 2) a).set (k * 2 + 1) b) := fun j hj => by
  rw [List.getElem?_set, List.getElem?_set]
  by_cases h1 : k * 2 + 1 = j
  · rw [if_pos h1, if_pos (by simp; omega), show j % 2 = 1 by omega]
    rfl
  · rw [if_neg h1]
    by_cases h2 : k * 2 = j
    · rw [if_pos h2, if_pos (by omega), show j % 2 = 0 by omega]
      rfl
    · rw [if_neg h2]
      exact h j (by omega)
theorem PatTo.put5 {a b c d e : Value} {k n : Nat} {xs : List Value} (h : PatTo [a, b, c, d, e] 5 k xs) (hl : xs.length = n * 5) (hk : k < n) :
    PatTo [a, b, c, d, e] 5 (k + 1) (((((xs.set (k * 5) a).set (k * 5 + 1) b).set (k * 5 + 2) c).set (k * 5 + 3) d).set (k * 5 + 4) e) := fun j hj => by
  rw [List.getElem?_set, List.getElem?_set, List.getElem?_set, List.getElem?_set, List.getElem?_set]
  by_cases h5 : k * 5 + 4 = j
  · rw [if_pos h5, if_pos (by simp; omega), show j % 5 = 4 by omega]
    rfl
  rw [if_neg h5]
  by_cases h4 : k * 5 + 3 = j
  · rw [if_pos h4, if_pos (by simp; omega), show j % 5 = 3 by omega]
    rfl
  rw [if_neg h4]
  by_cases h3 : k * 5 + 2 = j
  · rw [if_pos h3, if_pos (by simp; omega), show j % 5 = 2 by omega]
    rfl
  rw [if_neg h3]
  by_cases h2 : k * 5 + 1 = j
  · rw [if_pos h2, if_pos (by simp; omega), show j % 5 = 1 by omega]
    rfl
  rw [if_neg h2]
  by_cases h1 : k * 5 = j
  · rw [if_pos h1, if_pos (by omega), show j % 5 = 0 by omega]
    rfl
  rw [if_neg h1]
  exact h j (by omega)
theorem PatTo.app {pat : List Value} {size n : Nat} {xs : List Value} (h : PatTo pat size n xs) (hl : xs.length = n * size) (hp : pat.length = size) : PatTo pat size (n + 2) (xs ++ (pat ++ pat)) := fun j hj => by
  have hz : (n + 2) * size = n * size + size + size := by rw [Nat.add_mul]; omega
  by_cases h1 : j < n * size
  · rw [List.getElem?_append_left (by omega)]
    exact h j h1
  · rw [List.getElem?_append_right (by omega), hl]
    obtain ⟨m, rfl⟩ : ∃ m, j = n * size + m := ⟨j - n * size, by omega⟩
    rw [Nat.add_sub_cancel_left, Nat.mul_comm n size, Nat.mul_add_mod]
    by_cases h2 : m < size
    · rw [List.getElem?_append_left (by omega), Nat.mod_eq_of_lt h2]
    · rw [List.getElem?_append_right (by omega), hp]
      have h3 : m % size = m - size := by
        rw [Nat.mod_eq_sub_mod (by omega), Nat.mod_eq_of_lt (by omega)]
      rw [h3]

/-- rows, each in a block of its own; those ahead of i are filled, row i up to k -/
structure RowsF (w : World) (base : Nat) (e : TypeId) (size : Nat) (pat : Nat → List Value) (rows : List Row3) (i k : Nat) : Prop where
  own : ∀ (j : Nat) (r : Row3), rows[j]? = some r → ∃ xs, w.ownsRow base e size (rowV r) r.2.1 xs ∧ PatTo (pat j) size (if j < i then r.2.1 else if j = i then k else 0) xs
  apart : ∀ (i j : Nat) r s b, rows[i]? = some r → rows[j]? = some s → (rowV r).ownBlock = some b → (rowV s).ownBlock = some b → i = j
  small : ∀ r ∈ rows, r.2.1 ≤ 10000000

section
variable {w w' : World} {base : Nat} {e : TypeId} {size : Nat} {pat : Nat → List Value} {rows : List Row3} {i k : Nat}
theorem RowsF.upd {F : Nat → Prop} (h : RowsF w base e size pat rows i k) (hU : Upd F w w') (hF : ∀ r b, r ∈ rows → (rowV r).ownBlock = some b → ¬ F b) : RowsF w' base e size pat rows i k :=
  ⟨fun j r hr => by
    obtain ⟨xs, hx, hp⟩ := h.own j r hr
    exact ⟨xs, own_upd hx hU (fun b hb => hF r b (List.mem_of_getElem? hr) hb), hp⟩, h.apart, h.small⟩
theorem RowsF.low (h : RowsF w base e size pat rows i k) {r : Row3} {b : Nat} (hr : r ∈ rows) (hb : (rowV r).ownBlock = some b) : base ≤ b := by
  obtain ⟨j, hj⟩ := List.mem_iff_getElem?.1 hr
  obtain ⟨xs, hx, -⟩ := h.own j r hj
  exact own_lo hx hb
theorem RowsF.lt (h : RowsF w base e size pat rows i k) {r : Row3} {b : Nat} (hr : r ∈ rows) (hb : (rowV r).ownBlock = some b) : b < w.heap.size := by
  obtain ⟨j, hj⟩ := List.mem_iff_getElem?.1 hr
  obtain ⟨xs, hx, -⟩ := h.own j r hj
  obtain ⟨cur, hc, -⟩ := own_cells hx hb
  exact hc.lt
/-- a block of cells of another type is no row's -/
theorem RowsF.ne (h : RowsF w base e size pat rows i k) {b : Nat} {t : TypeId} {cs : Array Value} (hc : Cells w b t cs) (hne : e ≠ t) : ∀ r b', r ∈ rows → (rowV r).ownBlock = some b' → ¬ b' = b := fun r b' hr hb e2 => by
  obtain ⟨j, hj⟩ := List.mem_iff_getElem?.1 hr
  obtain ⟨xs, hx, -⟩ := h.own j r hj
  subst e2
  exact own_ne hx hc hne hb
theorem RowsF.next (h : RowsF w base e size pat rows i k) {r : Row3} (hr : rows[i]? = some r) (hk : k = r.2.1) : RowsF w base e size pat rows (i + 1) 0 :=
  ⟨fun j s hs => by
    obtain ⟨xs, hx, hp⟩ := h.own j s hs
    refine ⟨xs, hx, ?_⟩
    by_cases h1 : j < i
    · rw [if_pos h1] at hp
      rw [if_pos (by omega)]
      exact hp
    · rw [if_neg h1] at hp
      by_cases h2 : j = i
      · rw [if_pos h2] at hp
        subst h2
        rw [hr] at hs
        injection hs with hs
        subst hs
        rw [if_pos (by omega), ← hk]
        exact hp
      · rw [if_neg (by omega)]
        split <;> exact PatTo.zero _ _ _, h.apart, h.small⟩
theorem RowsF.of (h : ∀ (j : Nat) (r : Row3), rows[j]? = some r → ∃ xs, w.ownsRow base e size (rowV r) r.2.1 xs) (ha : ∀ (i j : Nat) r s b, rows[i]? = some r → rows[j]? = some s → (rowV r).ownBlock = some b → (rowV s).ownBlock = some b → i = j) (hs : ∀ r ∈ rows, r.2.1 ≤ 10000000) : RowsF w base e size pat rows 0 0 :=
  ⟨fun j r hr => by
    obtain ⟨xs, hx⟩ := h j r hr
    refine ⟨xs, hx, ?_⟩
    rw [if_neg (by omega)]
    split <;> exact PatTo.zero _ _ _, ha, hs⟩
/-- the cells of an element -/
theorem RowsF.cell (h : RowsF w base e size pat rows i k) {j m : Nat} {A : Option Addr} {n c : Nat} (hr : rows[j]? = some (A, n, c)) (hm : m < n) (hsz : 0 < size) :
    ∃ g, A = some ⟨g, 0, none⟩ ∧ base ≤ g ∧ ∀ q, q < size → (∃ u, w.cell? ⟨g, m * size + q, none⟩ = some u) ∧ w.frozen? ⟨g, m * size + q, none⟩ = false := by
  obtain ⟨xs, hx, -⟩ := h.own j _ hr
  obtain ⟨g, cap, hv, hb, -⟩ := World.ownsRow.form hx (by simp only; omega)
  unfold rowV at hv
  injection hv with e1 _ e3
  simp only at e1 e3
  subst e1 e3
  refine ⟨g, rfl, hb, fun q hq => ?_⟩
  have hl : m * size + q < n * size := by
    have := Nat.mul_le_mul_right size (show m + 1 ≤ n from hm)
    rw [Nat.add_mul] at this
    omega
  have hxl : xs.length = n * size := hx.1
  refine ⟨⟨xs[m * size + q]'(by omega), ?_⟩, World.ownsRow.frozenAt hx _⟩
  rw [World.ownsRow.cellAt hx _ hl]
  exact List.getElem?_eq_getElem _
/-- what stands in a filled row -/
theorem RowsF.read (h : RowsF w base e size pat rows i k) {j m : Nat} {A : Option Addr} {n c : Nat} (hr : rows[j]? = some (A, n, c)) (hj : j < i) (hm : m < n) (hsz : 0 < size) {v : Value} (hv : (pat j)[0]? = some v) :
    ∃ g, A = some ⟨g, 0, none⟩ ∧ w.cell? ⟨g, m * size, none⟩ = some v := by
  obtain ⟨xs, hx, hp⟩ := h.own j _ hr
  obtain ⟨g, cap, hv2, hb, -⟩ := World.ownsRow.form hx (by simp only; omega)
  unfold rowV at hv2
  injection hv2 with e1 _ e3
  simp only at e1 e3
  subst e1 e3
  rw [if_pos hj] at hp
  have hl : m * size < n * size := Nat.mul_lt_mul_of_pos_right hm hsz
  refine ⟨g, rfl, ?_⟩
  rw [World.ownsRow.cellAt hx _ hl, hp _ hl, Nat.mul_mod_left]
  exact hv
theorem own_at {xs : List Value} {g n : Nat} {A : Option Addr} {m c : Nat} (h : w.ownsRow base e size (rowV (A, m, c)) n xs) (hb : (rowV (A, m, c)).ownBlock = some g) : A = some ⟨g, 0, none⟩ := by
  rcases h.2 with ⟨h0, _⟩ | ⟨g', cap, cur, hv, _⟩
  · rw [h0] at hb; cases hb
  · unfold rowV at hv hb
    injection hv with e1 _ _
    simp only at e1 hb
    subst e1
    injection hb with e
    simp only at e
    rw [e]
end

section
variable {w : World} {base : Nat} {e : TypeId} {rows : List Row3} {i k g n c : Nat}
theorem RowsF.put2 {p : Nat → Value} {q : Nat → Value} (h : RowsF w base e 2 (fun j => [p j, q j]) rows i k) (hr : rows[i]? = some (some ⟨g, 0, none⟩, n, c)) (hk : k < n) :
    RowsF ((w.setCell ⟨g, k * 2, none⟩ (p i)).setCell ⟨g, k * 2 + 1, none⟩ (q i)) base e 2 (fun j => [p j, q j]) rows i (k + 1) := by
  refine ⟨fun j r hj => ?_, h.apart, h.small⟩
  obtain ⟨xs, hx, hp⟩ := h.own j r hj
  by_cases hji : j = i
  · subst hji
    rw [hr] at hj
    injection hj with hj
    subst hj
    rw [if_neg (by omega), if_pos rfl] at hp
    refine ⟨_, (World.ownsRow.stored (World.ownsRow.stored hx (k * 2) (p j)).1 (k * 2 + 1) (q j)).1, ?_⟩
    rw [if_neg (by omega), if_pos rfl]
    exact hp.put2 hx.1 hk
  · have hne : (rowV r).ownBlock ≠ some g := fun hb => hji (h.apart j i r _ g hj hr hb rfl)
    exact ⟨xs, own_far (own_far hx _ _ hne) _ _ hne, by rw [if_neg hji] at hp ⊢; exact hp⟩
theorem RowsF.put5 {p : Nat → Value} {q1 q2 q3 q4 : Value} (h : RowsF w base e 5 (fun j => [p j, q1, q2, q3, q4]) rows i k) (hr : rows[i]? = some (some ⟨g, 0, none⟩, n, c)) (hk : k < n) :
    RowsF (((((w.setCell ⟨g, k * 5, none⟩ (p i)).setCell ⟨g, k * 5 + 1, none⟩ q1).setCell ⟨g, k * 5 + 2, none⟩ q2).setCell ⟨g, k * 5 + 3, none⟩ q3).setCell ⟨g, k * 5 + 4, none⟩ q4) base e 5 (fun j => [p j, q1, q2, q3, q4]) rows i (k + 1) := by
  refine ⟨fun j r hj => ?_, h.apart, h.small⟩
  obtain ⟨xs, hx, hp⟩ := h.own j r hj
  by_cases hji : j = i
  · subst hji
    rw [hr] at hj
    injection hj with hj
    subst hj
    rw [if_neg (by omega), if_pos rfl] at hp
    refine ⟨_, (World.ownsRow.stored (World.ownsRow.stored (World.ownsRow.stored (World.ownsRow.stored (World.ownsRow.stored hx (k * 5) (p j)).1 (k * 5 + 1) q1).1 (k * 5 + 2) q2).1 (k * 5 + 3) q3).1 (k * 5 + 4) q4).1, ?_⟩
    rw [if_neg (by omega), if_pos rfl]
    exact hp.put5 hx.1 hk
  · have hne : (rowV r).ownBlock ≠ some g := fun hb => hji (h.apart j i r _ g hj hr hb rfl)
    exact ⟨xs, own_far (own_far (own_far (own_far (own_far hx _ _ hne) _ _ hne) _ _ hne) _ _ hne) _ _ hne, by rw [if_neg hji] at hp ⊢; exact hp⟩
end
/-- a row, grown by two elements of its pattern -/
theorem RowsF.app {w w' : World} {base : Nat} {e : TypeId} {size : Nat} {pat : Nat → List Value} {rows : List Row3} {i : Nat} {A : Option Addr} {n c gN cN : Nat} {xs : List Value} (h : RowsF w base e size pat rows rows.length 0) (hr : rows[i]? = some (A, n, c))
    (hx : PatTo (pat i) size n xs) (hl : xs.length = n * size) (hp : (pat i).length = size) (hn : n + 2 ≤ 10000000)
    (oN : w'.ownsRow base e size (.slice (some ⟨gN, 0, none⟩) (n + 2) cN) (n + 2) (xs ++ (pat i ++ pat i))) (gr : w.grownBy w' (Value.slice A n c).ownBlock) (hat : (Value.slice A n c).ownBlock = some gN ∨ w.heap.size ≤ gN) :
    RowsF w' base e size pat (rows.set i (some ⟨gN, 0, none⟩, n + 2, cN)) (rows.set i (some ⟨gN, 0, none⟩, n + 2, cN)).length 0 := by
  have hil := (List.getElem?_eq_some_iff.1 hr).1
  have other : ∀ j r, j ≠ i → rows[j]? = some r → ∀ b, (rowV r).ownBlock = some b → b ≠ gN := fun j r hj hjr b hb e2 => by
    subst e2
    rcases hat with hat | hat
    · exact hj (h.apart j i r _ b hjr hr hb hat)
    · have := h.lt (List.mem_of_getElem? hjr) hb
      omega
  refine ⟨fun j r hj => ?_, fun j1 j2 r s b h1 h2 b1 b2 => ?_, fun r hr2 => ?_⟩
  · have hjl : j < rows.length := by have := (List.getElem?_eq_some_iff.1 hj).1; simpa using this
    rw [List.getElem?_set] at hj
    by_cases hji : i = j
    · subst hji
      rw [if_pos rfl, if_pos hil] at hj
      injection hj with hj
      subst hj
      refine ⟨_, oN, ?_⟩
      rw [if_pos (by simpa using hil)]
      exact hx.app hl hp
    · rw [if_neg hji] at hj
      obtain ⟨ys, hy, hq⟩ := h.own j r hj
      refine ⟨ys, own_upd hy ((Upd.refl (fun b => (Value.slice A n c).ownBlock = some b) w).grown gr (fun b hb _ => hb)) (fun b hb hb2 => hji (h.apart i j _ r b hr hj hb2 hb)), ?_⟩
      rw [if_pos hjl] at hq
      rw [if_pos (by simpa using hjl)]
      exact hq
  · rw [List.getElem?_set] at h1 h2
    by_cases e1 : i = j1 <;> by_cases e2 : i = j2
    · omega
    · subst e1
      rw [if_pos rfl, if_pos hil] at h1
      rw [if_neg e2] at h2
      injection h1 with h1
      subst h1
      injection b1 with b1
      exact absurd b1.symm (other j2 s (fun k => e2 k.symm) h2 b b2)
    · subst e2
      rw [if_pos rfl, if_pos hil] at h2
      rw [if_neg e1] at h1
      injection h2 with h2
      subst h2
      injection b2 with b2
      exact absurd b2.symm (other j1 r (fun k => e1 k.symm) h1 b b1)
    · rw [if_neg e1] at h1
      rw [if_neg e2] at h2
      exact h.apart j1 j2 r s b h1 h2 b1 b2
  · rcases List.mem_or_eq_of_mem_set hr2 with hr2 | rfl
    · exact h.small r hr2
    · exact hn
theorem rowV_set (rows : List Row3) (i : Nat) (r : Row3) : (rows.map rowV).set i (rowV r) = (rows.set i r).map rowV := by rw [List.map_set]
end Go.Proofs.YtdbdokjlcdogiaaDoor

/-
  The state of heronlaw10.Owned: two lists of rows, of ranges and of instructions.
-/
namespace Go.Proofs.YtdbdokjlcdogiaaDoor
open Go.RowKit
set_option linter.unusedVariables false

def patR (j : Nat) : List Value := [.int .i64 (-1 - (j : Int)), .int .i64 0]
def patI (j : Nat) : List Value := [.int .i64 (-1 - (j : Int)), .int .i64 0, .int .i64 0, .int .i64 0, .slice none 0 0]
/-- the first k parts of a sequence, each -/
def fstAt : Code → Nat → Code
  | .seq a _, 0 => a
  | .seq _ b, n + 1 => fstAt b n
  | c, _ => c

structure St (w : World) (base : Nat) (RA : Option Addr) (rc : Nat) (rows : List Row3) (i k : Nat) (IA : Option Addr) (ic : Nat) (irows : List Row3) (i2 k2 : Nat) : Prop where
  rl : w.ownsRow base 46 1 (.slice RA rows.length rc) rows.length (rows.map rowV)
  r : RowsF w base 50 2 patR rows i k
  il : w.ownsRow base 22 1 (.slice IA irows.length ic) irows.length (irows.map rowV)
  n : RowsF w base 48 5 patI irows i2 k2

theorem own_types {w : World} {b1 b2 s1 s2 n1 n2 : Nat} {e1 e2 : TypeId} {v1 v2 : Value} {xs ys : List Value} (h1 : w.ownsRow b1 e1 s1 v1 n1 xs) (h2 : w.ownsRow b2 e2 s2 v2 n2 ys) (hne : e1 ≠ e2) {g : Nat} (hg : v2.ownBlock = some g) : v1.ownBlock ≠ some g := by
  obtain ⟨cur, hc, _⟩ := own_cells h2 hg
  exact own_ne h1 hc hne
theorem RowsF.types {w : World} {base b2 s2 n2 : Nat} {e e2 : TypeId} {size : Nat} {pat : Nat → List Value} {rows : List Row3} {i k : Nat} {v2 : Value} {ys : List Value} (h : RowsF w base e size pat rows i k) (h2 : w.ownsRow b2 e2 s2 v2 n2 ys) (hne : e ≠ e2) {g : Nat} (hg : v2.ownBlock = some g) : ∀ r b, r ∈ rows → (rowV r).ownBlock = some b → b ≠ g := fun r b hr hb e3 => by
  obtain ⟨j, hj⟩ := List.mem_iff_getElem?.1 hr
  obtain ⟨xs, hx, -⟩ := h.own j r hj
  subst e3
  exact own_types hx h2 hne hg hb
/-- a row's cells are set -/
theorem upd_cell {w : World} {g : Nat} {o : Nat} {u : Value} : Upd (fun b => b = g) w (w.setCell ⟨g, o, none⟩ u) := (Upd.refl _ w).setCell _ _ (fun _ => rfl)

section
variable {w w' : World} {base rc ic i k i2 k2 g n c : Nat} {RA IA : Option Addr} {rows irows : List Row3}
theorem St.putR (h : St w base RA rc rows i k IA ic irows i2 k2) (hr : rows[i]? = some (some ⟨g, 0, none⟩, n, c)) (hk : k < n) :
    St ((w.setCell ⟨g, k * 2, none⟩ (.int .i64 (-1 - (i : Int)))).setCell ⟨g, k * 2 + 1, none⟩ (.int .i64 0)) base RA rc rows i (k + 1) IA ic irows i2 k2 := by
  have hU : Upd (fun b => b = g) w ((w.setCell ⟨g, k * 2, none⟩ (.int .i64 (-1 - (i : Int)))).setCell ⟨g, k * 2 + 1, none⟩ (.int .i64 0)) := upd_cell.trans upd_cell (fun _ _ h => h)
  obtain ⟨xs, hx, -⟩ := h.r.own i _ hr
  exact ⟨own_upd h.rl hU (fun b hb e => own_types h.rl hx (by decide) (g := g) rfl (e ▸ hb)), h.r.put2 (p := fun j => .int .i64 (-1 - (j : Int))) (q := fun _ => .int .i64 0) hr hk,
    own_upd h.il hU (fun b hb e => own_types h.il hx (by decide) (g := g) rfl (e ▸ hb)), h.n.upd hU (fun r b hr2 hb e => h.n.types hx (by decide) (g := g) rfl r b hr2 hb e)⟩
theorem St.putI (h : St w base RA rc rows i k IA ic irows i2 k2) (hr : irows[i2]? = some (some ⟨g, 0, none⟩, n, c)) (hk : k2 < n) :
    St (((((w.setCell ⟨g, k2 * 5, none⟩ (.int .i64 (-1 - (i2 : Int)))).setCell ⟨g, k2 * 5 + 1, none⟩ (.int .i64 0)).setCell ⟨g, k2 * 5 + 2, none⟩ (.int .i64 0)).setCell ⟨g, k2 * 5 + 3, none⟩ (.int .i64 0)).setCell ⟨g, k2 * 5 + 4, none⟩ (.slice none 0 0)) base RA rc rows i k IA ic irows i2 (k2 + 1) := by
  have hU : Upd (fun b => b = g) w (((((w.setCell ⟨g, k2 * 5, none⟩ (.int .i64 (-1 - (i2 : Int)))).setCell ⟨g, k2 * 5 + 1, none⟩ (.int .i64 0)).setCell ⟨g, k2 * 5 + 2, none⟩ (.int .i64 0)).setCell ⟨g, k2 * 5 + 3, none⟩ (.int .i64 0)).setCell ⟨g, k2 * 5 + 4, none⟩ (.slice none 0 0)) :=
    (((upd_cell.trans upd_cell (fun _ _ h => h)).trans upd_cell (fun _ _ h => h)).trans upd_cell (fun _ _ h => h)).trans upd_cell (fun _ _ h => h)
  obtain ⟨xs, hx, -⟩ := h.n.own i2 _ hr
  exact ⟨own_upd h.rl hU (fun b hb e => own_types h.rl hx (by decide) (g := g) rfl (e ▸ hb)), h.r.upd hU (fun r b hr2 hb e => h.r.types hx (by decide) (g := g) rfl r b hr2 hb e),
    own_upd h.il hU (fun b hb e => own_types h.il hx (by decide) (g := g) rfl (e ▸ hb)), h.n.put5 (p := fun j => .int .i64 (-1 - (j : Int))) (q1 := .int .i64 0) (q2 := .int .i64 0) (q3 := .int .i64 0) (q4 := .slice none 0 0) hr hk⟩
theorem St.nextR (h : St w base RA rc rows i k IA ic irows i2 k2) {r : Row3} (hr : rows[i]? = some r) (hk : k = r.2.1) : St w base RA rc rows (i + 1) 0 IA ic irows i2 k2 := ⟨h.rl, h.r.next hr hk, h.il, h.n⟩
theorem St.nextI (h : St w base RA rc rows i k IA ic irows i2 k2) {r : Row3} (hr : irows[i2]? = some r) (hk : k2 = r.2.1) : St w base RA rc rows i k IA ic irows (i2 + 1) 0 := ⟨h.rl, h.r, h.il, h.n.next hr hk⟩
theorem St.upd (h : St w base RA rc rows i k IA ic irows i2 k2) (hU : Upd Nob w w') : St w' base RA rc rows i k IA ic irows i2 k2 :=
  ⟨own_upd h.rl hU (fun _ _ => not_nob), h.r.upd hU (fun _ _ _ _ => not_nob), own_upd h.il hU (fun _ _ => not_nob), h.n.upd hU (fun _ _ _ _ => not_nob)⟩
/-- the list's cell of a row -/
theorem list_cell {w : World} {base : Nat} {t : TypeId} {RA : Option Addr} {rc : Nat} {rows : List Row3} (h : w.ownsRow base t 1 (.slice RA rows.length rc) rows.length (rows.map rowV)) {i : Nat} {r : Row3} (hr : rows[i]? = some r) :
    ∃ g, RA = some ⟨g, 0, none⟩ ∧ base ≤ g ∧ w.cell? ⟨g, i, none⟩ = some (rowV r) ∧ w.frozen? ⟨g, i, none⟩ = false := by
  have hl := (List.getElem?_eq_some_iff.1 hr).1
  obtain ⟨g, cap, hv, hb, -⟩ := World.ownsRow.form h (by omega)
  injection hv with e1 _ e3
  subst e1 e3
  refine ⟨g, rfl, hb, ?_, World.ownsRow.frozenAt h i⟩
  rw [World.ownsRow.cellAt h i (by omega)]
  simp [hr]
end

section
variable {w w' : World} {base rc ic i k i2 k2 g n c gN cN gR : Nat} {RA IA A : Option Addr} {rows irows : List Row3} {xs : List Value}
theorem list_set {w : World} {base : Nat} {t : TypeId} {gR rc : Nat} {rows : List Row3} (h : w.ownsRow base t 1 (.slice (some ⟨gR, 0, none⟩) rows.length rc) rows.length (rows.map rowV)) (i : Nat) (r : Row3) :
    (w.setCell ⟨gR, i, none⟩ (rowV r)).ownsRow base t 1 (.slice (some ⟨gR, 0, none⟩) (rows.set i r).length rc) (rows.set i r).length ((rows.set i r).map rowV) := by
  have := (World.ownsRow.stored h i (rowV r)).1
  rw [rowV_set] at this
  rw [List.length_set]
  exact this
theorem St.appR (h : St w base (some ⟨gR, 0, none⟩) rc rows rows.length 0 IA ic irows i2 k2) (hr : rows[i]? = some (A, n, c)) (hx : PatTo (patR i) 2 n xs) (hox : w.ownsRow base 50 2 (.slice A n c) n xs) (hn : n + 2 ≤ 10000000)
    (oN : w'.ownsRow base 50 2 (.slice (some ⟨gN, 0, none⟩) (n + 2) cN) (n + 2) (xs ++ (patR i ++ patR i))) (gr : w.grownBy w' (Value.slice A n c).ownBlock) (hat : (Value.slice A n c).ownBlock = some gN ∨ w.heap.size ≤ gN) :
    St (w'.setCell ⟨gR, i, none⟩ (.slice (some ⟨gN, 0, none⟩) (n + 2) cN)) base (some ⟨gR, 0, none⟩) rc (rows.set i (some ⟨gN, 0, none⟩, n + 2, cN)) (rows.set i (some ⟨gN, 0, none⟩, n + 2, cN)).length 0 IA ic irows i2 k2 := by
  have UB := (Upd.refl (fun b => (Value.slice A n c).ownBlock = some b) w).grown gr (fun b hb _ => hb)
  have rl := own_upd h.rl UB (fun b hb hb2 => own_types h.rl hox (by decide) hb2 hb)
  have il := own_upd h.il UB (fun b hb hb2 => own_types h.il hox (by decide) hb2 hb)
  have rn := h.r.app hr hx hox.1 rfl hn oN gr hat
  have nn := h.n.upd UB (fun r b hr2 hb hb2 => h.n.types hox (by decide) hb2 r b hr2 hb rfl)
  have hU : Upd (fun b => b = gR) w' (w'.setCell ⟨gR, i, none⟩ (.slice (some ⟨gN, 0, none⟩) (n + 2) cN)) := upd_cell
  exact ⟨list_set rl i (some ⟨gN, 0, none⟩, n + 2, cN), rn.upd hU (fun r b hr2 hb e => rn.types rl (by decide) (g := gR) rfl r b hr2 hb e),
    own_upd il hU (fun b hb e => own_types il rl (by decide) (g := gR) rfl (e ▸ hb)), nn.upd hU (fun r b hr2 hb e => nn.types rl (by decide) (g := gR) rfl r b hr2 hb e)⟩
theorem St.appI (h : St w base RA rc rows i2 k2 (some ⟨gR, 0, none⟩) ic irows irows.length 0) (hr : irows[i]? = some (A, n, c)) (hx : PatTo (patI i) 5 n xs) (hox : w.ownsRow base 48 5 (.slice A n c) n xs) (hn : n + 2 ≤ 10000000)
    (oN : w'.ownsRow base 48 5 (.slice (some ⟨gN, 0, none⟩) (n + 2) cN) (n + 2) (xs ++ (patI i ++ patI i))) (gr : w.grownBy w' (Value.slice A n c).ownBlock) (hat : (Value.slice A n c).ownBlock = some gN ∨ w.heap.size ≤ gN) :
    St (w'.setCell ⟨gR, i, none⟩ (.slice (some ⟨gN, 0, none⟩) (n + 2) cN)) base RA rc rows i2 k2 (some ⟨gR, 0, none⟩) ic (irows.set i (some ⟨gN, 0, none⟩, n + 2, cN)) (irows.set i (some ⟨gN, 0, none⟩, n + 2, cN)).length 0 := by
  have UB := (Upd.refl (fun b => (Value.slice A n c).ownBlock = some b) w).grown gr (fun b hb _ => hb)
  have rl := own_upd h.rl UB (fun b hb hb2 => own_types h.rl hox (by decide) hb2 hb)
  have il := own_upd h.il UB (fun b hb hb2 => own_types h.il hox (by decide) hb2 hb)
  have rn := h.n.app hr hx hox.1 rfl hn oN gr hat
  have nn := h.r.upd UB (fun r b hr2 hb hb2 => h.r.types hox (by decide) hb2 r b hr2 hb rfl)
  have hU : Upd (fun b => b = gR) w' (w'.setCell ⟨gR, i, none⟩ (.slice (some ⟨gN, 0, none⟩) (n + 2) cN)) := upd_cell
  exact ⟨own_upd rl hU (fun b hb e => own_types rl il (by decide) (g := gR) rfl (e ▸ hb)), nn.upd hU (fun r b hr2 hb e => nn.types il (by decide) (g := gR) rfl r b hr2 hb e),
    list_set il i (some ⟨gN, 0, none⟩, n + 2, cN), rn.upd hU (fun r b hr2 hb e => rn.types il (by decide) (g := gR) rfl r b hr2 hb e)⟩
end
end Go.Proofs.YtdbdokjlcdogiaaDoor
