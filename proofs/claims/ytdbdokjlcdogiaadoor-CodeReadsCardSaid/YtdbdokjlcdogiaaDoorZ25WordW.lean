/-
  RefLr, TxtL, WordW, put together.
-/
import Derived.Test.YtdbdokjlcdogiaaDoorZ19RefJT
import Derived.Test.YtdbdokjlcdogiaaDoorZ16TxtP
import Derived.Test.YtdbdokjlcdogiaaDoorZ22Load7
import Derived.Test.YtdbdokjlcdogiaaDoorZ24LoadX

/-
  heronref10.Load from its region 9 on (the numbers, the instructions, the check), over whatever frame. Printed by tools/mkRefL.py.
-/
namespace Go.Proofs.YtdbdokjlcdogiaaDoor
open Go.RowKit
set_option linter.unusedVariables false

theorem refl_end (P : Ending → World → Prop) (w : World) (a : Act) (b : Nat) (v0 v1 v2 v3 : Value) (hd : a.defers = []) (ht : a.tmps[2]? = some (.pointer (some ⟨b, 0, none⟩))) (h3 : a.tmps[3]? = some v3) (hC : Cells w b 24 #[v0, v1, v2]) (hP : P (.returned (.tuple #[.agg #[v0, v1, v2], v3])) w) :
    bodyPost Tryd.prog Tryd.f14 P .ret a w := by
  have c0 := hC.cellv (i := 0) rfl
  have c1 := hC.cellv (i := 1) rfl
  have c2 := hC.cellv (i := 2) rfl
  exact ⟨hd, _, by simp [results, Tryd.results14, go_sem, ht, h3, c0, c1, c2], hP⟩
theorem refcheck_any {w : World} {base : Nat} {A : Option Addr} {c : Nat} {is : List PInst} {gs : List (Option Addr × Nat)} {start caps : Int} (h : ProgW w base A c is gs) (hn : ∀ x ∈ is, NumI x) (hs : In64 start) (hc : In64 caps) (hl : is.length ≤ 9000000) (e0 : Int) (he : errOf (checkB is start caps) = e0) :
    Calls Tryd.prog 28 #[.agg #[.slice A is.length c, .int .i64 start, .int .i64 caps]] w fun e w' => e = .returned (.int .i64 e0) ∧ Upd Nob w w' := by
  subst he
  exact (ref_check w _ A is.length c is start caps (h.insts hn) hs hc (by omega)).mono (fun e w' h => h)
theorem three_upd (w : World) (b : Nat) (v0 v1 v2 : Value) : Upd (fun k => k = b) w (((w.setCell ⟨b, 0, none⟩ v0).setCell ⟨b, 1, none⟩ v1).setCell ⟨b, 2, none⟩ v2) :=
  (((Upd.refl (fun k => k = b) w).setCell ⟨b, 0, none⟩ v0 (fun _ => rfl)).setCell ⟨b, 1, none⟩ v1 (fun _ => rfl)).setCell ⟨b, 2, none⟩ v2 (fun _ => rfl)
theorem three_cells {w : World} {b : Nat} {u0 u1 u2 : Value} (h : Cells w b 24 #[u0, u1, u2]) (v0 v1 v2 : Value) : Cells (((w.setCell ⟨b, 0, none⟩ v0).setCell ⟨b, 1, none⟩ v1).setCell ⟨b, 2, none⟩ v2) b 24 #[v0, v1, v2] := ((h.set_ 0 v0).set_ 1 v1).set_ 2 v2
set_option maxRecDepth 100000 in
set_option maxHeartbeats 4000000 in
theorem refl_rest (P : Ending → World → Prop) (w w6 : World) (S : Nat → Prop) (ad : Addr) (n c m : Nat) (all : List Int) (K : Code) (x1 x3 x5 x6 x7 x8 x9 x10 x11 x12 x13 x14 x15 x16 x17 x18 x19 x20 x21 x22 x23 x24 x25 x26 x27 x28 x29 x30 x31 x32 x33 x34 x35 x36 x37 x38 x39 x40 x41 x42 x43 x44 x45 x46 x47 x48 x49 x50 x51 x52 x53 x54 x55 x56 x57 x58 x59 x60 x61 x62 x63 x64 x65 x66 x67 x68 x69 x70 x71 x72 x73 x74 x75 x76 x77 x78 x79 x80 x81 x82 x83 x84 x85 x86 x87 x88 x89 x90 x91 x92 x93 x94 x95 x96 x97 x98 x99 x100 x101 x102 x103 x104 x105 x106 x107 x108 x109 x110 x111 x112 x113 x114 x115 x116 x117 x118 x119 x120 x121 x122 x123 x124 x125 x126 x127 x128 x129 x130 x131 x132 x133 x134 x135 x136 : Value)
    (hK : Tryd.f14.body = some K) (hR : Reads w6 S 1 (some ad) m (bytv all)) (hB : Bys all) (hm4 : 4 ≤ m) (hm8 : m ≤ 8388608) (hmn : m ≤ n) (hnc : n ≤ c) (hS : ∀ b, S b → b < w.heap.size) (hC : Cells w6 w.heap.size 24 #[.slice none 0 0, .int .i64 0, .int .i64 0]) (hU : Upd Nob w w6)
    (hno : bodyB (all.drop 4) = none → ∀ w', Upd Nob w w' → P (.returned (.tuple #[.agg #[.slice none 0 0, .int .i64 0, .int .i64 0], .int .i64 101])) w')
    (hyes : ∀ is start caps A c gs w', bodyB (all.drop 4) = some (is, start, caps) → ProgW w' w.heap.size A c is gs → Upd Nob w w' → P (.returned (.tuple #[.agg #[.slice A is.length c, .int .i64 start, .int .i64 caps], .int .i64 0])) w') :
    (seqAt K 6).wp Tryd.prog (bodyPost Tryd.prog Tryd.f14 P) ⟨#[.slice (some ad) n c, x1, .pointer (some ⟨w.heap.size, 0, none⟩), x3, .int .i64 (m : Nat), x5, x6, x7, x8, x9, x10, x11, x12, x13, x14, x15, x16, x17, x18, x19, x20, x21, x22, x23, x24, x25, x26, x27, x28, x29, x30, x31, x32, x33, x34, x35, x36, x37, x38, x39, x40, x41, x42, x43, x44, x45, x46, x47, x48, x49, x50, x51, x52, x53, x54, x55, x56, x57, x58, x59, x60, x61, x62, x63, x64, x65, x66, x67, x68, x69, x70, x71, x72, x73, x74, x75, x76, x77, x78, x79, x80, x81, x82, x83, x84, x85, x86, x87, x88, x89, x90, x91, x92, x93, x94, x95, x96, x97, x98, x99, x100, x101, x102, x103, x104, x105, x106, x107, x108, x109, x110, x111, x112, x113, x114, x115, x116, x117, x118, x119, x120, x121, x122, x123, x124, x125, x126, x127, x128, x129, x130, x131, x132, x133, x134, x135, x136], []⟩ w6 := by
  injection hK with hK
  subst hK
  have hall : all.length = m := by have := hR.1; simpa [bytv] using this
  have hlb : w.heap.size < w6.heap.size := hC.lt
  have k9 : (m : Int) ≤ (c : Int) := by omega
  have RC : ∃ o, o = (Obj.cells #[.slice none 0 0, .slice (some ad) m c, .int .i64 4, .bool false] 56) := ⟨_, rfl⟩
  have HR0 := hideP (show RdR ((w6.alloc (.cells #[.slice none 0 0, .slice (some ad) m c, .int .i64 4, .bool false] 56)).alloc (.cells #[.slice none 0 0, .int .i64 0, .int .i64 0] 24)) S w6.heap.size all (all.drop 4) false from
    ⟨⟨some ad, c, 4, by rw [hall]; exact (Cells.new w6 _ _).alloc _, by rw [hall]; exact (hR.alloc _).alloc _, by omega, rfl⟩, hB, by omega, fun b hb => by have := hS b hb; omega⟩)
  have HC0 := hideP ((hC.alloc (.cells #[.slice none 0 0, .slice (some ad) m c, .int .i64 4, .bool false] 56)).alloc (.cells #[.slice none 0 0, .int .i64 0, .int .i64 0] 24))
  have hq := Cells.new (w6.alloc (.cells #[.slice none 0 0, .slice (some ad) m c, .int .i64 4, .bool false] 56)) 24 #[.slice none 0 0, .int .i64 0, .int .i64 0]
  rw [World.size_alloc] at hq
  have HQ0 := hideP hq
  have HU0 := hideP ((hU.alloc (.cells #[.slice none 0 0, .slice (some ad) m c, .int .i64 4, .bool false] 56)).alloc (.cells #[.slice none 0 0, .int .i64 0, .int .i64 0] 24))
  have HS := hideP hS
  have HNO := hideP hno
  have HYES := hideP hyes
  have HEQ := hideP (refBody_eq (bs := all.drop 4) (fun x hx => hB x (List.mem_of_mem_drop hx)))
  clear hS hC hU hno hyes hR hB hq RC
  simp only [seqAt]
  go_upto_region 11 with fail
  generalize (w6.alloc (.cells #[.slice none 0 0, .slice (some ad) m c, .int .i64 4, .bool false] 56)).alloc (.cells #[.slice none 0 0, .int .i64 0, .int .i64 0] 24) = w8 at *
  generalize hrb : w6.heap.size = rb at *
  have hn1 : ¬ rb + 1 = rb := by omega
  have hn2 : ¬ w.heap.size = rb := by omega
  clear k9
  obtain ⟨caps, r1, b1, e1⟩ : ∃ v r b, nxt false (all.drop 4) = (v, r, b) := ⟨_, _, _, rfl⟩
  obtain ⟨start, r2, b2, e2⟩ : ∃ v r b, nxt b1 r1 = (v, r, b) := ⟨_, _, _, rfl⟩
  obtain ⟨k, r3, b3, e3⟩ : ∃ v r b, nxt b2 r2 = (v, r, b) := ⟨_, _, _, rfl⟩
  have HRB := hideP (show refBody (all.drop 4) = if (lpR k.toNat b3 r3).2.2 = false ∧ (lpR k.toNat b3 r3).2.1 = [] ∧ checkB (lpR k.toNat b3 r3).1 start caps = true then some ((lpR k.toNat b3 r3).1, start, caps) else none from by unfold refBody; simp only; rw [e1]; simp only; rw [e2]; simp only; rw [e3])
  have n1 := (nxt_in (b := false) HR0.out.rest_.1).1
  rw [e1] at n1
  have E1 := hideP e1
  have E2 := hideP e2
  have E3 := hideP e3
  clear e1 e2 e3
  go_upto_region 12 with (go_at_call 26; refine (next_any _ S rb all (all.drop 4) false HR0.out).mono ?_; rw [E1.out]; rintro e w9 ⟨rfl, hR9, hU9⟩; have cx9 := (HQ0.out).upd hU9 hn1; have z9 := cx9.cellv (i := 0 + 2) rfl; have f9 := cx9.frozen (0 + 2))
  have HRa := hideP (hR9.upd ((Upd.refl (fun b => b = rb + 1) w9).setCell ⟨rb + 1, 0 + 2, none⟩ (.int .i64 caps) (fun _ => rfl)) (fun (e : rb = rb + 1) => by omega) (fun b hb (e : b = rb + 1) => by have := HS.out b hb; omega))
  have HQa := hideP (cx9.set_ (0 + 2) (.int .i64 caps))
  have HCa := hideP ((HC0.out.upd hU9 hn2).far ⟨rb + 1, 0 + 2, none⟩ (.int .i64 caps) (by show w.heap.size ≠ rb + 1; omega))
  have HUa := hideP ((HU0.out.trans hU9 (fun b hb (h : b = rb) => by omega)).setCell ⟨rb + 1, 0 + 2, none⟩ (.int .i64 caps) (fun h => absurd h (by show ¬ rb + 1 < _; omega)))
  have n2 := (nxt_in (b := b1) hR9.rest_.1).1
  rw [E2.out] at n2
  clear hR9 hU9 cx9 z9 f9 HR0 HQ0 HC0 HU0
  generalize w9.setCell ⟨rb + 1, 0 + 2, none⟩ (.int .i64 caps) = wa at *
  go_upto_region 13 with (go_at_call 26; refine (next_any _ S rb all r1 b1 HRa.out).mono ?_; rw [E2.out]; rintro e w9 ⟨rfl, hR9, hU9⟩; have cx9 := (HQa.out).upd hU9 hn1; have z9 := cx9.cellv (i := 0 + 1) rfl; have f9 := cx9.frozen (0 + 1))
  have HRb := hideP (hR9.upd ((Upd.refl (fun b => b = rb + 1) w9).setCell ⟨rb + 1, 0 + 1, none⟩ (.int .i64 start) (fun _ => rfl)) (fun (e : rb = rb + 1) => by omega) (fun b hb (e : b = rb + 1) => by have := HS.out b hb; omega))
  have HQb := hideP (cx9.set_ (0 + 1) (.int .i64 start))
  have HCb := hideP ((HCa.out.upd hU9 hn2).far ⟨rb + 1, 0 + 1, none⟩ (.int .i64 start) (by show w.heap.size ≠ rb + 1; omega))
  have HUb := hideP ((HUa.out.trans hU9 (fun b hb (h : b = rb) => by omega)).setCell ⟨rb + 1, 0 + 1, none⟩ (.int .i64 start) (fun h => absurd h (by show ¬ rb + 1 < _; omega)))
  have n3 := (nxt_in (b := b2) hR9.rest_.1).1
  rw [E3.out] at n3
  clear hR9 hU9 cx9 z9 f9 HRa HQa HCa HUa
  generalize w9.setCell ⟨rb + 1, 0 + 1, none⟩ (.int .i64 start) = wb at *
  go_upto_region 14 with (go_at_call 26; refine (next_any _ S rb all r2 b2 HRb.out).mono ?_; rw [E3.out]; rintro e wc ⟨rfl, hRc, hUc⟩)
  have HRc := hideP hRc
  have HQc := hideP (HQb.out.upd hUc hn1)
  have HCc := hideP (HCb.out.upd hUc hn2)
  have HUc := hideP (HUb.out.trans hUc (fun b hb (h : b = rb) => by omega))
  have hrl := hRc.rest_.2
  have hrf := hRc.few
  clear hRc hUc HRb HQb HCb HUb
  have i1 := in64_36 n1
  have i2 := in64_36 n2
  unfold Num36 at n3
  obtain ⟨kk, hkk⟩ := Int.eq_ofNat_of_zero_le n3.1
  subst hkk
  rw [Int.toNat_natCast] at HRB
  clear n1 n2 n3
  obtain ⟨bb, hbb⟩ : ∃ bb, bb = b3 := ⟨_, rfl⟩
  obtain ⟨rr, hrr⟩ : ∃ rr, rr = r3 := ⟨_, rfl⟩
  rw [← hbb, ← hrr] at HRB
  have HBB := hideP hbb
  have HRR := hideP hrr
  clear hbb hrr
  obtain ⟨i0, hi0, hz0, hz1, hz2⟩ := info_parts finfo_inst
  go_wp2_with fail
  go_loopg [9] kk (fun gk v9 wr => ∃ (i : Nat) (is : List PInst) (gs : List (Option Addr × Nat)) (A : Option Addr) (cA : Nat) (q : List Int) (b : Bool), i + gk = kk ∧ v9 = .int .i64 (i : Int) ∧ is.length = i ∧ Cells wr (rb + 1) 24 #[.slice A i cA, .int .i64 start, .int .i64 caps] ∧ Cells wr w.heap.size 24 #[.slice none 0 0, .int .i64 0, .int .i64 0] ∧ ProgW wr (rb + 2) A cA is gs ∧ (∀ x ∈ is, NumI x) ∧ RdR wr S rb all q b ∧ lpR kk bb rr = (is ++ (lpR (kk - i) b q).1, (lpR (kk - i) b q).2) ∧ (b = false → i + q.length ≤ 8388608) ∧ i ≤ 8388609 ∧ Upd Nob w wr)
  case atStart => exact ⟨0, [], [], none, 0, r3, b3, by omega, rfl, rfl, HQc.out, HCc.out, ProgW.none_ _ _, fun x hx => by simp at hx, HRc.out, by rw [HBB.out, HRR.out]; simp, fun _ => by omega, by omega, HUc.out⟩
  case round =>
    clear HRc HQc HCc HUc hrl hrf
    obtain ⟨i, is, gs, A, cA, q, b, hk, rfl, hlen, hQ, hC, hP, hNI, hR, hL, hbd, hi8, hU⟩ := hrel
    have HK := hideP hk
    have HQ := hideP hQ
    have HC := hideP hC
    have HP := hideP hP
    have HNI := hideP hNI
    have HR := hideP hR
    have HL := hideP hL
    have HBD := hideP hbd
    have HU := hideP hU
    have hs1 := hQ.lt
    obtain ⟨LA, Lc, Lk, hrc, -, hLk, hLd⟩ := hR.at_
    have c2 := hrc.cellv (i := 0 + 2) rfl
    have c3 := hrc.cellv (i := 0 + 3) rfl
    have HRC := hideP hrc
    clear hk hQ hC hP hNI hR hL hbd hU hrc
    have hend : (i < kk → b = true) → lpR kk bb rr = (is, q, b) := fun h => by
      rw [HL.out]
      by_cases hlt : i < kk
      · rw [h hlt, lpR_bad]
        simp
      · rw [show kk - i = 0 by omega]
        simp [lpR]
    have HEND := hideP hend
    clear hend
    by_cases hgo : i < kk ∧ b = false
    · obtain ⟨hik, rfl⟩ := hgo
      obtain ⟨x, r5, b5, hX⟩ : ∃ x r5 b5, instR false q = (x, r5, b5) := ⟨_, _, _, rfl⟩
      have HX := hideP hX
      have hNX := (instR_in (b := false) HR.out.rest_.1 (by have := HR.out.rest_.2; have := HR.out.few; omega)).1
      rw [hX] at hNX
      have HNX := hideP hNX
      have q1 : (i : Int) < (kk : Int) := by omega
      have hb8 := HBD.out rfl
      clear hX hNX HEND
      go_upto_region 18 with (go_at_call 27; refine (rdInst_any wr S rb all q false HR.out (fun b hb => by have := HS.out b hb; omega)).mono ?_; rw [HX.out]; rintro e w5 ⟨B, cc, rfl, hO5, hR5, hU5⟩)
      have U6 := hU5.alloc (.cells #[.int .i64 x.op, .int .i64 x.x, .int .i64 x.y, .int .i64 x.arg, .slice B x.rs.length cc] 48)
      have HR6 := hideP (hR5.alloc (.cells #[.int .i64 x.op, .int .i64 x.x, .int .i64 x.y, .int .i64 x.arg, .slice B x.rs.length cc] 48))
      have HQ6 := hideP (HQ.out.upd U6 hn1)
      have HC6 := hideP (HC.out.upd U6 hn2)
      have HP6 := hideP (HP.out.upd U6 (fun b hb (e : b = rb) => by omega))
      have HO6 := hideP (own_upd hO5 ((Upd.refl Nob w5).alloc (.cells #[.int .i64 x.op, .int .i64 x.x, .int .i64 x.y, .int .i64 x.arg, .slice B x.rs.length cc] 48)) (fun _ _ => not_nob))
      have HU6 := hideP (HU.out.trans U6 (fun b hb (h : b = rb) => by omega))
      have HT6 := hideP (Cells.new w5 48 #[.int .i64 x.op, .int .i64 x.x, .int .i64 x.y, .int .i64 x.arg, .slice B x.rs.length cc])
      have hs6 := U6.size
      have hs5 := hU5.size
      have hPL := hideP HP.out.lt
      clear hO5 hR5 hU5 U6
      generalize hwz : w5.alloc (.cells #[.int .i64 x.op, .int .i64 x.x, .int .i64 x.y, .int .i64 x.arg, .slice B x.rs.length cc] 48) = w6 at *
      have htl := HT6.out.lt
      have p0 := HQ6.out.cellv (i := 0) rfl
      have fp := HQ6.out.frozen 0
      have t0 := HT6.out.cellv (i := 0) rfl
      have t1 := HT6.out.cellv (i := 0 + 1) rfl
      have t2 := HT6.out.cellv (i := 0 + 2) rfl
      have t3 := HT6.out.cellv (i := 0 + 3) rfl
      have t4 := HT6.out.cellv (i := 0 + 4) rfl
      subst hlen
      have P9 := HP6.out.upd ((Upd.refl Nob w6).alloc (.cells #[.int .i64 x.op, .int .i64 x.x, .int .i64 x.y, .int .i64 x.arg, .slice B x.rs.length cc] 48)) (fun _ _ => not_nob)
      go_wp2_with (at_builtin; refine wpList_append_lies _ rfl _ _ 22 rfl (rb + 2) 48 i0 _ 5 56 Tryd.underlying22 hi0 hz0 hz1 hz2 rfl (by decide) (.slice A is.length cA) is.length (flatI is gs) rfl P9.row ⟨w6.heap.size, 0, none⟩ 1 1 (instCells x B x.rs.length cc).toList rfl rfl (World.news_of_block (cs := instCells x B x.rs.length cc) (t := 48) (fr := (0, 0)) (heap_alloc_new w6 _)) (by intro u hu; simp [instCells] at hu; rcases hu with rfl | rfl | rfl | rfl | rfl <;> rfl) (by decide) (by unfold maxLen; omega) (by omega) (by simp; omega) (w6.heap.size + 1) (by simp) ?_)
      intro gN cN wN oN gr hat hltN
      have hU9 := (Upd.refl Nob w6).alloc (.cells #[.int .i64 x.op, .int .i64 x.x, .int .i64 x.y, .int .i64 x.arg, .slice B x.rs.length cc] 48)
      have X9 := HQ6.out.upd hU9 not_nob
      have O9 : (w6.alloc (.cells #[.int .i64 x.op, .int .i64 x.x, .int .i64 x.y, .int .i64 x.arg, .slice B x.rs.length cc] 48)).ownsRow (rb + 2) 50 2 (.slice B x.rs.length cc) x.rs.length (pairv x.rs) := own_base (own_upd HO6.out hU9 (fun _ _ => not_nob)) (fun b hb => by have := own_lo HO6.out hb; omega)
      have OB := fun b (hb : (Value.slice A is.length cA).ownBlock = some b) => own_lo P9.row hb
      have UB := (Upd.refl (fun b => (Value.slice A is.length cA).ownBlock = some b) (w6.alloc (.cells #[.int .i64 x.op, .int .i64 x.x, .int .i64 x.y, .int .i64 x.arg, .slice B x.rs.length cc] 48))).grown gr (fun b hb _ => hb)
      have UN := (HU6.out.trans hU9 (fun _ _ h => h)).grown gr (fun b hb h => absurd h (by have := OB b hb; omega))
      have XN := X9.upd UB (own_ne P9.row X9 (by decide))
      have PN := P9.more O9 (fun j B' cc' b hg hb hb2 => by have h1 := hPL.out j B' cc' b hg hb; have h2 := own_lo HO6.out (ownBlock_map.2 hb2); omega) oN gr
      have RN := (HR6.out.upd hU9 not_nob (fun _ _ => not_nob)).upd UB (fun h => by have := OB rb h; omega) (fun b hb h => by have h1 := OB b h; have h2 := HS.out b hb; omega)
      have CN := (HC6.out.upd hU9 not_nob).upd UB (fun h => by have := OB _ h; omega)
      have x4 : wN.cell? ⟨rb + 1, 0, none⟩ = some (.slice A is.length cA) := XN.cellv rfl
      have z4 : wN.frozen? ⟨rb + 1, 0, none⟩ = false := XN.frozen _
      have UE := (Upd.refl (fun b => b = rb + 1) wN).setCell ⟨rb + 1, 0, none⟩ (.slice (some ⟨gN, 0, none⟩) (is.length + 1) cN) (fun _ => rfl)
      have HXE := hideP (XN.set_ 0 (.slice (some ⟨gN, 0, none⟩) (is.length + 1) cN))
      have HPE := hideP (PN.upd UE (fun b hb (e : b = rb + 1) => by omega))
      have HRE := hideP (RN.upd UE (fun (e : rb = rb + 1) => by omega) (fun b hb (e : b = rb + 1) => by have := HS.out b hb; omega))
      have HCE := hideP (CN.upd UE (fun (e : w.heap.size = rb + 1) => by omega))
      have HUE := hideP (UN.trans UE (fun b hb (h : b = rb + 1) => by omega))
      have HB5 := hideP (show b5 = false → (is.length + 1) + r5.length ≤ 8388608 from fun e => by
        subst e
        have h1 := instR_less HR.out.rest_.1 (by rw [HX.out])
        rw [HX.out] at h1
        simp only at h1
        omega)
      clear oN gr hat UB UN XN PN RN CN UE X9 O9 P9 hU9
      go_wp2_with fail
      go_roundg (kk - (is.length + 1))
      case measure => have := HK.out; omega
      case rel => exact ⟨is.length + 1, is ++ [x], gs ++ [(B, cc)], some ⟨gN, 0, none⟩, cN, r5, b5, by have := HK.out; omega, by go_num, by simp, HXE.out, HCE.out, HPE.out, fun y hy => by
          rcases List.mem_append.1 hy with hy | hy
          · exact HNI.out y hy
          · obtain rfl : y = x := by simpa using hy
            exact HNX.out, HRE.out, by rw [HL.out, show kk - is.length = (kk - (is.length + 1)) + 1 by omega, lpR_step HX.out]; simp, HB5.out, by omega, HUE.out⟩
    · have HE := hideP (HEND.out (fun h => by cases b with | true => rfl | false => exact absurd ⟨h, rfl⟩ hgo))
      subst hlen
      have p0 := HQ.out.cellv (i := 0) rfl
      have p1 := HQ.out.cellv (i := 0 + 1) rfl
      have p2 := HQ.out.cellv (i := 0 + 2) rfl
      obtain ⟨e0, he0⟩ : ∃ e0, errOf (checkB is start caps) = e0 := ⟨_, rfl⟩
      have HEQ0 := he0
      by_cases hik : is.length < kk
      · have hb1 : b = true := by cases b with | true => rfl | false => exact absurd ⟨hik, rfl⟩ hgo
        subst hb1
        have q1 : (is.length : Int) < (kk : Int) := by omega
        go_upto_region 20 with (go_at_call 28; refine (refcheck_any HP.out HNI.out i2 i1 (by omega) _ HEQ0).mono ?_; rintro e wd ⟨rfl, hUd⟩)
        clear c2 c3
        have c2 := (HRC.out.upd hUd not_nob).cellv (i := 0 + 2) rfl
        have c3 := (HRC.out.upd hUd not_nob).cellv (i := 0 + 3) rfl
        have CD := HC.out.upd hUd not_nob
        have d0 := CD.cellv (i := 0) rfl
        have d1 := CD.cellv (i := 0 + 1) rfl
        have d2 := CD.cellv (i := 0 + 2) rfl
        have f0 := CD.frozen 0
        have f1 := CD.frozen (0 + 1)
        have f2 := CD.frozen (0 + 2)
        go_wp2_with fail
        refine refl_end _ _ _ _ _ _ _ _ rfl rfl rfl (three_cells CD (.slice none 0 0) (.int .i64 0) (.int .i64 0)) (HNO.out (by rw [← HEQ.out, HRB.out, HE.out]; simp only; rw [if_neg (by simp)]) _ ((HU.out.trans hUd (fun _ _ h => h)).trans (three_upd _ _ (.slice none 0 0) (.int .i64 0) (.int .i64 0)) (fun b hb (h : b = w.heap.size) => by omega)))
      have q1 : ¬ (is.length : Int) < (kk : Int) := by omega
      cases b with
      | true =>
        go_upto_region 20 with (go_at_call 28; refine (refcheck_any HP.out HNI.out i2 i1 (by omega) _ HEQ0).mono ?_; rintro e wd ⟨rfl, hUd⟩)
        clear c2 c3
        have c2 := (HRC.out.upd hUd not_nob).cellv (i := 0 + 2) rfl
        have c3 := (HRC.out.upd hUd not_nob).cellv (i := 0 + 3) rfl
        have CD := HC.out.upd hUd not_nob
        have d0 := CD.cellv (i := 0) rfl
        have d1 := CD.cellv (i := 0 + 1) rfl
        have d2 := CD.cellv (i := 0 + 2) rfl
        have f0 := CD.frozen 0
        have f1 := CD.frozen (0 + 1)
        have f2 := CD.frozen (0 + 2)
        go_wp2_with fail
        refine refl_end _ _ _ _ _ _ _ _ rfl rfl rfl (three_cells CD (.slice none 0 0) (.int .i64 0) (.int .i64 0)) (HNO.out (by rw [← HEQ.out, HRB.out, HE.out]; simp only; rw [if_neg (by simp)]) _ ((HU.out.trans hUd (fun _ _ h => h)).trans (three_upd _ _ (.slice none 0 0) (.int .i64 0) (.int .i64 0)) (fun b hb (h : b = w.heap.size) => by omega)))
      | false =>
        by_cases hq : q = []
        · have hLk2 : Lk = m := by
            have := congrArg List.length hLd
            rw [hq, List.length_drop] at this
            simp at this
            omega
          have q2 : ¬ (Lk : Int) < (m : Int) := by omega
          by_cases hck : checkB is start caps = true
          · rw [hck] at he0
            have he1 : e0 = 0 := he0.symm
            subst he1
            go_upto_region 20 with (go_at_call 28; refine (refcheck_any HP.out HNI.out i2 i1 (by omega) _ HEQ0).mono ?_; rintro e wd ⟨rfl, hUd⟩)
            clear c2 c3
            have c2 := (HRC.out.upd hUd not_nob).cellv (i := 0 + 2) rfl
            have c3 := (HRC.out.upd hUd not_nob).cellv (i := 0 + 3) rfl
            have CD := HC.out.upd hUd not_nob
            have d0 := CD.cellv (i := 0) rfl
            have d1 := CD.cellv (i := 0 + 1) rfl
            have d2 := CD.cellv (i := 0 + 2) rfl
            have f0 := CD.frozen 0
            have f1 := CD.frozen (0 + 1)
            have f2 := CD.frozen (0 + 2)
            have t0 := (HQ.out.upd hUd not_nob).cellv (i := 0) rfl
            have t1 := (HQ.out.upd hUd not_nob).cellv (i := 0 + 1) rfl
            have t2 := (HQ.out.upd hUd not_nob).cellv (i := 0 + 2) rfl
            go_wp2_with fail
            refine refl_end _ _ _ _ _ _ _ _ rfl rfl rfl (three_cells CD _ _ _) (HYES.out is start caps A cA gs _ (by rw [← HEQ.out, HRB.out, HE.out]; simp only; rw [if_pos (by simp [hq, hck])]) (((HP.out.upd hUd (fun _ _ => not_nob)).upd (three_upd _ _ _ _ _) (fun b hb (h : b = w.heap.size) => by omega)).base_ (by omega)) ((HU.out.trans hUd (fun _ _ h => h)).trans (three_upd _ _ _ _ _) (fun b hb (h : b = w.heap.size) => by omega)))
          · have hckf := (Bool.not_eq_true _).mp hck
            rw [hckf] at he0
            have he1 : e0 = 90 := he0.symm
            subst he1
            go_upto_region 20 with (go_at_call 28; refine (refcheck_any HP.out HNI.out i2 i1 (by omega) _ HEQ0).mono ?_; rintro e wd ⟨rfl, hUd⟩)
            clear c2 c3
            have c2 := (HRC.out.upd hUd not_nob).cellv (i := 0 + 2) rfl
            have c3 := (HRC.out.upd hUd not_nob).cellv (i := 0 + 3) rfl
            have CD := HC.out.upd hUd not_nob
            have d0 := CD.cellv (i := 0) rfl
            have d1 := CD.cellv (i := 0 + 1) rfl
            have d2 := CD.cellv (i := 0 + 2) rfl
            have f0 := CD.frozen 0
            have f1 := CD.frozen (0 + 1)
            have f2 := CD.frozen (0 + 2)
            go_wp2_with fail
            refine refl_end _ _ _ _ _ _ _ _ rfl rfl rfl (three_cells CD (.slice none 0 0) (.int .i64 0) (.int .i64 0)) (HNO.out (by rw [← HEQ.out, HRB.out, HE.out]; simp only; rw [if_neg (by simp [hck])]) _ ((HU.out.trans hUd (fun _ _ h => h)).trans (three_upd _ _ (.slice none 0 0) (.int .i64 0) (.int .i64 0)) (fun b hb (h : b = w.heap.size) => by omega)))
        · have hLk2 : Lk < m := by
            have h1 : 0 < q.length := List.length_pos_iff.2 hq
            have := congrArg List.length hLd
            rw [List.length_drop] at this
            omega
          have q2 : (Lk : Int) < (m : Int) := by omega
          go_upto_region 20 with (go_at_call 28; refine (refcheck_any HP.out HNI.out i2 i1 (by omega) _ HEQ0).mono ?_; rintro e wd ⟨rfl, hUd⟩)
          clear c2 c3
          have c2 := (HRC.out.upd hUd not_nob).cellv (i := 0 + 2) rfl
          have c3 := (HRC.out.upd hUd not_nob).cellv (i := 0 + 3) rfl
          have CD := HC.out.upd hUd not_nob
          have d0 := CD.cellv (i := 0) rfl
          have d1 := CD.cellv (i := 0 + 1) rfl
          have d2 := CD.cellv (i := 0 + 2) rfl
          have f0 := CD.frozen 0
          have f1 := CD.frozen (0 + 1)
          have f2 := CD.frozen (0 + 2)
          go_wp2_with fail
          refine refl_end _ _ _ _ _ _ _ _ rfl rfl rfl (three_cells CD (.slice none 0 0) (.int .i64 0) (.int .i64 0)) (HNO.out (by rw [← HEQ.out, HRB.out, HE.out]; simp only; rw [if_neg (by simp [hq])]) _ ((HU.out.trans hUd (fun _ _ h => h)).trans (three_upd _ _ (.slice none 0 0) (.int .i64 0) (.int .i64 0)) (fun b hb (h : b = w.heap.size) => by omega)))
end Go.Proofs.YtdbdokjlcdogiaaDoor

/-
  Plain law: the document's reading of words comes to the same as code's.
-/
namespace Go.Proofs.YtdbdokjlcdogiaaDoor
open Go.RowKit
set_option linter.unusedVariables false

theorem nxtT_some {ws r : List ByteArray} {n : Int} (h : wnumT ws = some (n, r)) : nxtT false ws = (n, r, false) := by
  cases ws with
  | nil => cases h
  | cons v q =>
    rw [wnumT_cons] at h
    unfold nxtT
    cases hv : numV v with
    | none => rw [hv] at h; cases h
    | some m =>
      rw [hv] at h
      simp only [Option.some.injEq, Prod.mk.injEq] at h
      obtain ⟨rfl, rfl⟩ := h
      simp [hv]
theorem nxtT_none {ws : List ByteArray} (h : wnumT ws = none) : ∃ r, nxtT false ws = (0, r, true) := by
  cases ws with
  | nil => exact ⟨[], rfl⟩
  | cons v q =>
    rw [wnumT_cons] at h
    cases hv : numV v with
    | none => exact ⟨q, by simp [nxtT, hv]⟩
    | some m => rw [hv] at h; cases h
theorem numsT_bad : ∀ (n : Nat) (r : List ByteArray), (numsT n true r).2 = (r, true)
  | 0, r => rfl
  | n + 1, r => by rw [numsT_step (show nxtT true r = (0, r, true) from rfl)]; exact numsT_bad n r
theorem rngT_some : ∀ (n : Nat) (ws : List ByteArray) (rs : List (Int × Int)) (q : List ByteArray), rangesT n ws = some (rs, q) → rngT (2 * n) false ws = (flatR rs, q, false)
  | 0, ws, rs, q, h => by
    unfold rangesT at h
    injection h with h
    injection h with h1 h2
    subst h1 h2
    rfl
  | n + 1, ws, rs, q, h => by
    rw [rangesT_more] at h
    cases h1 : wnumT ws with
    | none => rw [h1] at h; cases h
    | some a =>
      obtain ⟨lo, r1⟩ := a
      rw [h1] at h
      simp only at h
      cases h2 : wnumT r1 with
      | none => rw [h2] at h; cases h
      | some c =>
        obtain ⟨hi, r2⟩ := c
        rw [h2] at h
        simp only at h
        cases h3 : rangesT n r2 with
        | none => rw [h3] at h; cases h
        | some d =>
          obtain ⟨rs', r3⟩ := d
          rw [h3] at h
          simp only at h
          injection h with h
          injection h with e1 e2
          subst e1 e2
          rw [show 2 * (n + 1) = 2 * n + 1 + 1 by omega, rngT_step (nxtT_some h1), rngT_step (nxtT_some h2), rngT_some n r2 rs' r3 h3]
          rfl
theorem rngT_none : ∀ (n : Nat) (ws : List ByteArray), rangesT n ws = none → (rngT (2 * n) false ws).2.2 = true
  | 0, ws, h => by cases h
  | n + 1, ws, h => by
    rw [rangesT_more] at h
    rw [show 2 * (n + 1) = 2 * n + 1 + 1 by omega]
    cases h1 : wnumT ws with
    | none =>
      obtain ⟨r, hr⟩ := nxtT_none h1
      rw [rngT_step hr, rngT_bad]
    | some a =>
      obtain ⟨lo, r1⟩ := a
      rw [h1] at h
      simp only at h
      rw [rngT_step (nxtT_some h1)]
      cases h2 : wnumT r1 with
      | none =>
        obtain ⟨r, hr⟩ := nxtT_none h2
        rw [rngT_step hr, rngT_bad]
      | some c =>
        obtain ⟨hi, r2⟩ := c
        rw [h2] at h
        simp only at h
        rw [rngT_step (nxtT_some h2)]
        cases h3 : rangesT n r2 with
        | none => exact rngT_none n r2 h3
        | some d => rw [h3] at h; cases h
theorem numsT_1 {ws r : List ByteArray} {a : Int} (h : wnumT ws = some (a, r)) : numsT 1 false ws = ([a], r, false) := by rw [numsT_step (nxtT_some h)]; rfl
theorem numsT_2 {ws r r2 : List ByteArray} {a b : Int} (h : wnumT ws = some (a, r)) (h2 : wnumT r = some (b, r2)) : numsT 2 false ws = ([a, b], r2, false) := by rw [numsT_step (nxtT_some h), numsT_step (nxtT_some h2)]; rfl
theorem numsT_no {ws : List ByteArray} (n : Nat) (h : wnumT ws = none) : (numsT (n + 1) false ws).2.2 = true := by
  obtain ⟨r, hr⟩ := nxtT_none h
  rw [numsT_step hr]
  show (numsT n true r).2.2 = true
  rw [numsT_bad]
theorem numsT_no2 {ws r : List ByteArray} {a : Int} (n : Nat) (h : wnumT ws = some (a, r)) (h2 : wnumT r = none) : (numsT (n + 2) false ws).2.2 = true := by
  rw [numsT_step (nxtT_some h)]
  exact numsT_no n h2
theorem instT_cons {v : ByteArray} {o : Nat} (r : List ByteArray) (h : nameOf v = o) (h0 : o ≠ 0) (h7 : o ≤ 7) : instT false (v :: r) = if (o : Int) = 1 then
    (mkI 1 ((numsT 2 false r).1 ++ (rngT (2 * ((numsT 2 false r).1.getD 1 0).toNat) (numsT 2 false r).2.2 (numsT 2 false r).2.1).1), (rngT (2 * ((numsT 2 false r).1.getD 1 0).toNat) (numsT 2 false r).2.2 (numsT 2 false r).2.1).2)
    else (mkI o (numsT (manyI o) false r).1, (numsT (manyI o) false r).2) := by
  have e : opT false (v :: r) = (((o : Nat) : Int), r, false) := by simp [opT, h, h0]
  unfold instT
  rw [e]
  simp only
  rw [if_neg (by omega)]
theorem inst_two {v : ByteArray} {o : Nat} {r : List ByteArray} (h : nameOf v = o) (h0 : o = 2 ∨ o = 3 ∨ o = 4) :
    (∀ x q, fieldsT (o : Nat) r = some (x, q) → instT false (v :: r) = (x, q, false)) ∧ (fieldsT (o : Nat) r = none → (instT false (v :: r)).2.2 = true) := by
  have hm : manyI (o : Int) = 2 := by unfold manyI; rw [if_pos (by omega)]
  rw [instT_cons r h (by omega) (by omega), if_neg (by omega), hm]
  cases h1 : wnumT r with
  | none =>
    refine ⟨fun x q hx => ?_, fun _ => numsT_no 1 h1⟩
    rcases h0 with rfl | rfl | rfl <;> simp [fieldsT, h1] at hx
  | some a =>
    obtain ⟨a, r1⟩ := a
    cases h2 : wnumT r1 with
    | none =>
      refine ⟨fun x q hx => ?_, fun _ => numsT_no2 0 h1 h2⟩
      rcases h0 with rfl | rfl | rfl <;> simp [fieldsT, h1, h2] at hx
    | some b =>
      obtain ⟨b, r2⟩ := b
      rw [numsT_2 h1 h2]
      refine ⟨fun x q hx => ?_, fun hn => ?_⟩
      · rcases h0 with rfl | rfl | rfl
        all_goals
          simp [fieldsT, h1, h2] at hx
          obtain ⟨rfl, rfl⟩ := hx
          rfl
      · rcases h0 with rfl | rfl | rfl <;> simp [fieldsT, h1, h2] at hn
theorem inst_one {v : ByteArray} {o : Nat} {r : List ByteArray} (h : nameOf v = o) (h0 : o = 5 ∨ o = 7) :
    (∀ x q, fieldsT (o : Nat) r = some (x, q) → instT false (v :: r) = (x, q, false)) ∧ (fieldsT (o : Nat) r = none → (instT false (v :: r)).2.2 = true) := by
  have hm : manyI (o : Int) = 1 := by unfold manyI; rw [if_neg (by omega), if_pos (by omega)]
  rw [instT_cons r h (by omega) (by omega), if_neg (by omega), hm]
  cases h1 : wnumT r with
  | none =>
    refine ⟨fun x q hx => ?_, fun _ => numsT_no 0 h1⟩
    rcases h0 with rfl | rfl <;> simp [fieldsT, h1] at hx
  | some a =>
    obtain ⟨a, r1⟩ := a
    rw [numsT_1 h1]
    refine ⟨fun x q hx => ?_, fun hn => ?_⟩
    · rcases h0 with rfl | rfl
      all_goals
        simp [fieldsT, h1] at hx
        obtain ⟨rfl, rfl⟩ := hx
        rfl
    · rcases h0 with rfl | rfl <;> simp [fieldsT, h1] at hn
theorem inst_ranges {v : ByteArray} {r : List ByteArray} (h : nameOf v = 1) :
    (∀ x q, fieldsT 1 r = some (x, q) → instT false (v :: r) = (x, q, false)) ∧ (fieldsT 1 r = none → (instT false (v :: r)).2.2 = true) := by
  rw [instT_cons r h (by omega) (by omega), if_pos (by rfl)]
  cases h1 : wnumT r with
  | none =>
    refine ⟨fun x q hx => by simp [fieldsT, h1] at hx, fun _ => ?_⟩
    have h2 := numsT_no 1 h1
    obtain ⟨l, r2, b, e⟩ : ∃ l r2 b, numsT 2 false r = (l, r2, b) := ⟨_, _, _, rfl⟩
    rw [show (1 : Nat) + 1 = 2 from rfl, e] at h2
    simp only at h2
    subst h2
    rw [e]
    simp only [rngT_bad]
  | some a =>
    obtain ⟨a, r1⟩ := a
    cases h2 : wnumT r1 with
    | none =>
      refine ⟨fun x q hx => by simp [fieldsT, h1, h2] at hx, fun _ => ?_⟩
      have h3 := numsT_no2 0 h1 h2
      obtain ⟨l, r2, b, e⟩ : ∃ l r2 b, numsT 2 false r = (l, r2, b) := ⟨_, _, _, rfl⟩
      rw [show (0 : Nat) + 2 = 2 from rfl, e] at h3
      simp only at h3
      subst h3
      rw [e]
      simp only [rngT_bad]
    | some b =>
      obtain ⟨n, r2⟩ := b
      rw [numsT_2 h1 h2]
      have e3 : [a, n].getD 1 0 = n := rfl
      simp only [e3]
      cases h3 : rangesT n.toNat r2 with
      | none =>
        refine ⟨fun x q hx => by simp [fieldsT, h1, h2, h3] at hx, fun _ => rngT_none _ _ h3⟩
      | some d =>
        obtain ⟨rs, r3⟩ := d
        rw [rngT_some _ _ _ _ h3]
        refine ⟨fun x q hx => ?_, fun hn => by simp [fieldsT, h1, h2, h3] at hn⟩
        simp [fieldsT, h1, h2, h3] at hx
        obtain ⟨rfl, rfl⟩ := hx
        simp only [mkI, if_true]
        congr 2
        show pairsOf (flatR rs) = rs
        exact pairsOf_flat rs
theorem instT_fields (v : ByteArray) (r : List ByteArray) :
    (∀ x q, fieldsT (nameOf v : Nat) r = some (x, q) → instT false (v :: r) = (x, q, false)) ∧ (fieldsT (nameOf v : Nat) r = none → (instT false (v :: r)).2.2 = true) := by
  have h7 := nameOf_le v
  generalize ho : nameOf v = o at *
  have hc : o = 0 ∨ o = 1 ∨ (o = 2 ∨ o = 3 ∨ o = 4) ∨ (o = 5 ∨ o = 7) ∨ o = 6 := by omega
  rcases hc with rfl | rfl | hc | hc | rfl
  · refine ⟨fun x q hx => by simp [fieldsT] at hx, fun _ => ?_⟩
    have e : opT false (v :: r) = (0, v :: r, false) := by simp [opT, ho]
    unfold instT
    rw [e]
    simp
  · exact inst_ranges ho
  · exact inst_two ho hc
  · exact inst_one ho hc
  · rw [instT_cons r ho (by omega) (by omega), if_neg (by omega)]
    refine ⟨fun x q hx => ?_, fun hn => by simp [fieldsT] at hn⟩
    simp [fieldsT] at hx
    obtain ⟨rfl, rfl⟩ := hx
    rfl
theorem fieldsT_len {o : Nat} {v : ByteArray} {r q : List ByteArray} {x : PInst} (h : fieldsT (nameOf v : Nat) r = some (x, q)) : q.length ≤ r.length := by
  have e := (instT_fields v r).1 x q h
  have := instT_less (r := v :: r) (by rw [e])
  rw [e] at this
  simp only [List.length_cons] at this
  omega
theorem lpT_some : ∀ (f n : Nat) (ws : List ByteArray) (is : List PInst), ws.length ≤ f → instsT n ws = some is → lpT f false ws = (is, [], false)
  | f, n, [], is, hf, h => by
    have e : is = [] := by cases n <;> (unfold instsT at h; injection h with h; exact h.symm)
    rw [lpT_nil, e]
  | f, 0, v :: r, is, hf, h => by cases h
  | 0, n + 1, v :: r, is, hf, h => by simp at hf
  | f + 1, n + 1, v :: r, is, hf, h => by
    unfold instsT at h
    cases h1 : fieldsT (nameOf v : Nat) r with
    | none => rw [h1] at h; cases h
    | some a =>
      obtain ⟨x, q⟩ := a
      rw [h1] at h
      simp only at h
      cases h2 : instsT n q with
      | none => rw [h2] at h; cases h
      | some is' =>
        rw [h2] at h
        simp only at h
        injection h with h
        subst h
        have e := (instT_fields v r).1 x q h1
        have hl := instT_less (r := v :: r) (by rw [e])
        rw [e] at hl
        simp only [List.length_cons] at hl hf
        rw [lpT_step (by simp) e, lpT_some f n q is' (by omega) h2]
theorem lpT_none : ∀ (f n : Nat) (ws : List ByteArray), ws.length ≤ f → instsT n ws = none → (lpT f false ws).2.2 = true ∨ n < (lpT f false ws).1.length
  | f, n, [], hf, h => by cases n <;> cases h
  | 0, n, v :: r, hf, h => by simp at hf
  | f + 1, n, v :: r, hf, h => by
    cases h1 : fieldsT (nameOf v : Nat) r with
    | none =>
      have e := (instT_fields v r).2 h1
      obtain ⟨x, q, b, e2⟩ : ∃ x q b, instT false (v :: r) = (x, q, b) := ⟨_, _, _, rfl⟩
      rw [e2] at e
      simp only at e
      subst e
      left
      rw [lpT_step (by simp) e2, lpT_bad]
    | some a =>
      obtain ⟨x, q⟩ := a
      have e := (instT_fields v r).1 x q h1
      have hl := instT_less (r := v :: r) (by rw [e])
      rw [e] at hl
      simp only [List.length_cons] at hl hf
      rw [lpT_step (by simp) e]
      match n, h with
      | 0, h =>
        right
        simp
      | n + 1, h =>
        unfold instsT at h
        rw [h1] at h
        simp only at h
        cases h2 : instsT n q with
        | none =>
          rcases lpT_none f n q (by omega) h2 with k | k
          · exact .inl k
          · right
            simp only [List.length_cons]
            omega
        | some is' => rw [h2] at h; cases h
/-- the same -/
theorem refT_eq (ws : List ByteArray) : refT ws = readT ws := by
  match ws with
  | [] => rfl
  | [a] => rfl
  | [a, b] => rfl
  | [a, b, c] => rfl
  | a :: b :: c :: d :: r =>
    rw [refT_cons, readT_cons]
    by_cases hac : a = capsW ∧ c = startW
    · rw [if_pos hac, if_pos hac]
      cases hb : numV b with
      | none =>
        have e : numM b = -1 := by unfold numM; rw [hb]; rfl
        simp only
        rw [if_neg]
        rintro ⟨-, h⟩
        have := (fineP h).c0
        omega
      | some caps =>
        have e : numM b = caps := by unfold numM; rw [hb]; rfl
        simp only [e]
        cases hd : numV d with
        | none =>
          have e : numM d = -1 := by unfold numM; rw [hd]; rfl
          simp only
          rw [if_neg]
          rintro ⟨-, h⟩
          have := (fineP h).s0
          omega
        | some start =>
          have e : numM d = start := by unfold numM; rw [hd]; rfl
          simp only [e]
          cases hi : instsT 20000 r with
          | some is =>
            rw [lpT_some _ _ _ _ (Nat.le_refl _) hi]
            simp
          | none =>
            simp only
            rw [if_neg]
            rintro ⟨h1, h2⟩
            rcases lpT_none _ _ _ (Nat.le_refl _) hi with k | k
            · rw [k] at h1; cases h1
            · have := (fineP h2).l1
              omega
    · rw [if_neg hac, if_neg hac]
end Go.Proofs.YtdbdokjlcdogiaaDoor

/-
  code's reader of a text, as a list of words.
-/
namespace Go.Proofs.YtdbdokjlcdogiaaDoor
open Go.RowKit
set_option linter.unusedVariables false

/-- the reader at lb has the words ws left -/
structure WordR (w : World) (S : Nat → Prop) (lb : Nat) (ws : List ByteArray) : Prop where
  at_ : ∃ s k, TxtR w lb s k ∧ wordsAt s k = ws
theorem WordR.upd {F : Nat → Prop} {w w' : World} {S : Nat → Prop} {lb : Nat} {ws : List ByteArray} (h : WordR w S lb ws) (hU : Upd F w w') (h1 : ¬ F lb) (h2 : ∀ b, S b → ¬ F b) : WordR w' S lb ws := by
  obtain ⟨s, k, ht, hw⟩ := h.at_
  exact ⟨⟨s, k, ht.upd hU h1, hw⟩⟩
theorem WordR.lt {w : World} {S : Nat → Prop} {lb : Nat} {ws : List ByteArray} (h : WordR w S lb ws) : lb < w.heap.size := by
  obtain ⟨s, k, ht, hw⟩ := h.at_
  exact ht.c.lt
theorem WordR.few {w : World} {S : Nat → Prop} {lb : Nat} {ws : List ByteArray} (h : WordR w S lb ws) : ws.length ≤ 8388608 := by
  obtain ⟨s, k, ht, rfl⟩ := h.at_
  have := wordsAt_len s _ k (Nat.le_refl _) ht.le
  have := ht.few
  omega
theorem bytes_none {v : ByteArray} (h : v.size = 0) : v = ⟨#[]⟩ := by
  cases v with
  | mk d =>
    have : d = #[] := Array.eq_empty_of_size_eq_zero h
    rw [this]
def headW (ws : List ByteArray) : ByteArray := ws.headD ⟨#[]⟩
theorem headW_at {s : ByteArray} {k : Nat} (hk : k ≤ s.size) : headW (wordsAt s k) = wordV s k ∧ (wordsAt s k).tail = wordsAt s (wordEnd s (wordAt s k)) := by
  rw [wordsAt_step hk]
  by_cases h : wordAt s k < s.size
  · rw [if_pos h]
    exact ⟨rfl, rfl⟩
  · rw [if_neg h]
    have a := wordAt_le hk
    have e : wordAt s k = s.size := by omega
    refine ⟨(bytes_none (wordV_end hk h)).symm, ?_⟩
    rw [e, (at_end s).2, wordsAt_step (Nat.le_refl _), (at_end s).1, if_neg (Nat.lt_irrefl _)]
    rfl
def WordAns (w : World) (S : Nat → Prop) (lb : Nat) (ws : List ByteArray) (e : Ending) (w' : World) : Prop := e = .returned (.string (headW ws)) ∧ WordR w' S lb ws.tail ∧ Upd (fun b => b = lb) w w'
theorem tword_w (w : World) (S : Nat → Prop) (lb : Nat) (ws : List ByteArray) (h : WordR w S lb ws) : Calls Tryd.prog 43 #[.pointer (some ⟨lb, 0, none⟩)] w (WordAns w S lb ws) := by
  obtain ⟨s, k, ht, rfl⟩ := h.at_
  obtain ⟨h1, h2⟩ := headW_at ht.le
  refine (tword_any w lb s k ht).mono ?_
  rintro e w' ⟨rfl, hT, hU⟩
  refine ⟨by rw [h1]; rfl, ⟨⟨s, _, hT, by rw [h2]⟩⟩, hU⟩
def WNumAns (w : World) (S : Nat → Prop) (lb : Nat) : Option (Int × List ByteArray) → Ending → World → Prop
  | none, e, w' => e = .panicked brokenP ∧ Upd (fun b => b = lb) w w'
  | some (n, r), e, w' => e = .returned (.int .i64 n) ∧ WordR w' S lb r ∧ Upd (fun b => b = lb) w w'
theorem wnumT_at {s : ByteArray} {k : Nat} (hk : k ≤ s.size) : wnumT (wordsAt s k) = match numV (wordV s k) with
    | none => none
    | some n => some (n, wordsAt s (wordEnd s (wordAt s k))) := by
  rw [wordsAt_step hk]
  by_cases h : wordAt s k < s.size
  · rw [if_pos h]
    rfl
  · rw [if_neg h, numV_nil (wordV_end hk h)]
    rfl
theorem tnum_w (w : World) (S : Nat → Prop) (lb : Nat) (ws : List ByteArray) (h : WordR w S lb ws) : Calls Tryd.prog 44 #[.pointer (some ⟨lb, 0, none⟩)] w (WNumAns w S lb (wnumT ws)) := by
  obtain ⟨s, k, ht, rfl⟩ := h.at_
  rw [wnumT_at ht.le]
  refine (tnum_any w lb s k ht).mono ?_
  cases numV (wordV s k) with
  | none => exact fun e w' h => h
  | some n =>
    rintro e w' ⟨rfl, hT, hU⟩
    exact ⟨rfl, ⟨⟨s, _, hT, rfl⟩⟩, hU⟩
theorem tleft_w (w : World) (S : Nat → Prop) (lb : Nat) (ws : List ByteArray) (h : WordR w S lb ws) :
    ∃ L : Nat, ws.length ≤ L ∧ L ≤ 8388608 ∧ Calls Tryd.prog 95 #[.pointer (some ⟨lb, 0, none⟩)] w fun e w' => e = .returned (.int .i64 (L : Int)) ∧ w' = w.drew := by
  obtain ⟨s, k, ht, rfl⟩ := h.at_
  have := ht.few
  exact ⟨s.size - k, wordsAt_len s _ k (Nat.le_refl _) ht.le, by omega, tleft_any w lb s k ht⟩
theorem rangesT_long : ∀ (n : Nat) (ws : List ByteArray), ws.length < n → rangesT n ws = none
  | 0, ws, h => by omega
  | n + 1, ws, h => by
    rw [rangesT_more]
    cases h1 : wnumT ws with
    | none => rfl
    | some a =>
      obtain ⟨lo, r⟩ := a
      have l1 := nxtT_less (nxtT_some h1)
      simp only
      cases h2 : wnumT r with
      | none => rfl
      | some b =>
        obtain ⟨hi, r2⟩ := b
        have l2 := nxtT_less (nxtT_some h2)
        simp only
        rw [rangesT_long n r2 (by omega)]
theorem wnumT_in {ws r : List ByteArray} {n : Int} (h : wnumT ws = some (n, r)) : 0 ≤ n ∧ n < 1000000000 := by
  cases ws with
  | nil => cases h
  | cons v q =>
    rw [wnumT_cons] at h
    cases hv : numV v with
    | none => rw [hv] at h; cases h
    | some m =>
      rw [hv] at h
      simp only [Option.some.injEq, Prod.mk.injEq] at h
      rw [← h.1]
      exact numV_in hv
end Go.Proofs.YtdbdokjlcdogiaaDoor
