/-
  LoadC, LoadW, put together.
-/
import Derived.Test.YtdbdokjlcdogiaaDoorZ22Load7
import Derived.Test.YtdbdokjlcdogiaaDoorZ09OwnR

/-
  code.Load's way out by another sum.
-/
namespace Go.Proofs.YtdbdokjlcdogiaaDoor
open Go.RowKit
set_option linter.unusedVariables false

set_option maxRecDepth 100000 in
set_option maxHeartbeats 4000000 in
theorem load_sum (w : World) (S : Nat → Prop) (ad : Addr) (n m c : Nat) (bs : List Int) (h : Reads w S 1 (some ad) n (bytv bs)) (h8 : ∀ x ∈ bs, 0 ≤ x ∧ x ≤ 255) (hS : ∀ b, S b → b < w.heap.size) (hn : n ≤ 8388608) (hc : n ≤ c) (hm : n = m + 4) (hm4 : 4 ≤ m) (hh : bs.take 4 = [72, 82, 80, 71]) (hs : ¬ sumV (bs.take m) = four (bs.drop m)) : Calls Tryd.prog 15 #[.slice (some ad) n c] w (LoadAns w none 101) := by
  have HS := hideP hs
  clear hs
  have hl : ¬ (8388608 : Int) < (n : Int) := by omega
  have g8 : (8 : Int) ≤ (n : Int) := by omega
  have hce : (4 : Int) ≤ (c : Int) := by omega
  have k4 : IntKind.i64.wrap ((n : Int) - 4) = (m : Int) := by rw [IntKind.wrap_i64]; omega
  have k5 : (m : Int) ≤ (n : Int) := by omega
  have k6 : (m : Int) ≤ (c : Int) := by omega
  have k7 : ¬ c - m = 0 := by omega
  have k8 : n - m = 4 := by omega
  have HM := hideP hm
  have HH := hideP hh
  have H8 := hideP h8
  have HSS := hideP hS
  clear hm hh h8 hS
  have hmf : ∀ (fn : Fn) (first cap : Array Value) (w : World), (Instr.makeFunc fn first cap).run Tryd.prog w = .ok (.func fn first cap) w := fun _ _ _ _ => rfl
  have C0 : Cells ((w.alloc (.cells #[.slice none 0 0, .int .i64 0, .int .i64 0] 24)).alloc (.cells #[.int .i64 0] 31)) w.heap.size 24 #[.slice none 0 0, .int .i64 0, .int .i64 0] := (Cells.new _ _ _).alloc _
  have C1 := Cells.new (w.alloc (.cells #[.slice none 0 0, .int .i64 0, .int .i64 0] 24)) 31 #[.int .i64 0]
  rw [World.size_alloc] at C1
  have hU : Upd Nob w ((w.alloc (.cells #[.slice none 0 0, .int .i64 0, .int .i64 0] 24)).alloc (.cells #[.int .i64 0] 31)) := ((Upd.refl Nob w).alloc _).alloc _
  have HR := hideP (h.upd hU (fun _ _ => not_nob))
  clear h
  go_enter_defers Tryd.func15, Tryd.ntmps15
  go_upto_region 4 with fail
  generalize ((w.alloc (.cells #[.slice none 0 0, .int .i64 0, .int .i64 0] 24)).alloc (.cells #[.int .i64 0] 31)) = w2 at *
  have HC0 := hideP C0
  have HC1 := hideP C1
  have HU := hideP hU
  clear C0 C1 hU
  clear hmf
  have hcv := head_conv (c := c) HR.out H8.out (by omega)
  go_upto_region 5 with (go_at_call 31; refine (need_is _ _ (by simp [head_eq' bs H8.out, HH.out])).mono ?_; rintro e w3 ⟨rfl, hw3⟩; subst hw3)
  clear hcv
  go_region
  have HRT := hideP ((reads_take (m := m) HR.out (by omega)).upd ((Upd.refl Nob w3).drew) (fun _ _ => not_nob))
  have H8T := hideP (show ∀ x ∈ bs.take m, 0 ≤ x ∧ x ≤ 255 from fun x hx => H8.out x (List.mem_of_mem_take hx))
  go_upto_region 7 with (go_at_call 32; refine (sum_up _ S (some ad) m c (bs.take m) HRT.out H8T.out (by omega)).mono ?_; rintro e w5 ⟨rfl, hU5⟩)
  have HU5 := hideP (((Upd.refl Nob w3).drew).trans hU5 (fun _ _ h => h))
  clear hU5 HRT
  obtain ⟨t0, t1, t2, t3, ht, q0, q1, q2, q3⟩ := tail_cells (m := m) (by rw [← HM.out]; exact HR.out.upd HU5.out (fun _ _ => not_nob)) H8.out
  have HT := hideP ht
  clear ht
  refine load_reg7 _ w5 (ad.add m) (c - m) (sumV (bs.take m)) t0 t1 t2 t3 _ _ _ _ _ _ _ _ _ _ _ _ _ _ _ _ _ _ _ _ _ _ _ _ _ _ _ _ _ _ _ _ _ _ _ _ _ _ _ _ _ _ _ _ _ _ _ _ _ _ _ _ _ _ _ _ _ _ _ _ _ _ _ _ _ _ _ _ _ _ _ _ _ _ _ _ _ _ _ _ _ _ _ _ _ _ _ _ _ _ _ _ _ _ _ _ _ _ _ q0.1 q1.1 q2.1 q3.1 q0.2 q1.2 q2.2 q3.2 (fun _ => ?_) (fun h => absurd h (fun h => HS.out (by rw [HT.out, h]; rfl)))
  intros
  exact load_no _ _ _ _ _ _ _ _ _ ⟨rfl, rfl, rfl⟩ (HC0.out.upd (HU5.out.drew) not_nob) (HC1.out.upd (HU5.out.drew) not_nob) (by omega) (fun w' hv => ⟨rfl, (HU.out.trans HU5.out.drew (fun _ _ h => h)).trans hv (fun b hb h => by rcases h with h | h <;> omega)⟩)
end Go.Proofs.YtdbdokjlcdogiaaDoor

/-
  code.Load from its region 9 on (the numbers, the instructions, the check), over whatever frame. Printed by tools/mkW.py.
-/
namespace Go.Proofs.YtdbdokjlcdogiaaDoor
open Go.RowKit
set_option linter.unusedVariables false

set_option maxRecDepth 100000 in
set_option maxHeartbeats 4000000 in
theorem load_rest (P : Ending → World → Prop) (w w6 : World) (S : Nat → Prop) (ad : Addr) (m0 c0 : Nat) (body : List Int) (K : Code) (x0 x1 x5 x6 x7 x8 x9 x10 x11 x12 x13 x14 x15 x16 x17 x18 x19 x20 x21 x22 x23 x24 x25 x26 x27 x28 x29 x30 x31 x32 x33 x34 x35 x36 x37 x38 x39 x40 x41 x42 x43 x44 x45 x46 x47 x48 x49 x50 x51 x52 x53 x54 x55 x56 x57 x58 x59 x60 x61 x62 x63 x64 x65 x66 x67 x68 x69 x70 x71 x72 x73 x74 x75 x76 x77 x78 x79 x80 x81 x82 x83 x84 x85 x86 x87 x88 x89 x90 x91 x92 x93 x94 x95 x96 x97 x98 x99 : Value)
    (hK : Tryd.f15.body = some K) (hR : Reads w6 S 1 (some (ad.add 4)) (m0 - 4) (bytv body)) (hB : Bys body) (hm0 : 4 ≤ m0) (hm8 : m0 ≤ 8388608) (hmc : m0 ≤ c0) (hc4 : ¬ c0 - 4 = 0) (hS : ∀ b, S b → b < w.heap.size) (hC0 : Cells w6 w.heap.size 24 #[.slice none 0 0, .int .i64 0, .int .i64 0]) (hC1 : Cells w6 (w.heap.size + 1) 31 #[.int .i64 0]) (hU : Upd Nob w w6)
    (hno : bodyB body = none → ∀ w', Upd Nob w w' → P (.returned (.tuple #[.agg #[.slice none 0 0, .int .i64 0, .int .i64 0], .int .i64 101])) w')
    (hyes : ∀ is start caps A c gs w', bodyB body = some (is, start, caps) → ProgW w' w.heap.size A c is gs → Upd Nob w w' → P (.returned (.tuple #[.agg #[.slice A is.length c, .int .i64 start, .int .i64 caps], .int .i64 0])) w') :
    (seqAt K 7).wp Tryd.prog (bodyPostD Tryd.prog Tryd.f15 P) ⟨#[x0, x1, .pointer (some ⟨w.heap.size, 0, none⟩), .pointer (some ⟨w.heap.size + 1, 0, none⟩), .slice (some ad) m0 c0, x5, x6, x7, x8, x9, x10, x11, x12, x13, x14, x15, x16, x17, x18, x19, x20, x21, x22, x23, x24, x25, x26, x27, x28, x29, x30, x31, x32, x33, x34, x35, x36, x37, x38, x39, x40, x41, x42, x43, x44, x45, x46, x47, x48, x49, x50, x51, x52, x53, x54, x55, x56, x57, x58, x59, x60, x61, x62, x63, x64, x65, x66, x67, x68, x69, x70, x71, x72, x73, x74, x75, x76, x77, x78, x79, x80, x81, x82, x83, x84, x85, x86, x87, x88, x89, x90, x91, x92, x93, x94, x95, x96, x97, x98, x99], [{ target := .fn (.func 29) #[.pointer (some ⟨w.heap.size, 0, none⟩), .pointer (some ⟨w.heap.size + 1, 0, none⟩)], args := #[] }]⟩ w6 := by
  injection hK with hK
  subst hK
  have hlb : w.heap.size + 2 ≤ w6.heap.size := by have := hC1.lt; omega
  have k9 : (4 : Int) ≤ (m0 : Int) := by omega
  have k10 : (m0 : Int) ≤ (c0 : Int) := by omega
  have hbl : body.length = m0 - 4 := by
    have := hR.1
    simpa [bytv] using this
  have HL := hideP (show LoadR (w6.alloc (.cells #[.slice (some (ad.add 4)) (m0 - 4) (c0 - 4)] 65)) S w6.heap.size body from
    ⟨⟨some (ad.add 4), c0 - 4, by rw [hbl]; exact Cells.new w6 _ _, by rw [hbl]; exact hR.alloc _, by rw [hbl]; omega⟩, hB, by rw [hbl]; omega, fun b hb => by have := hS b hb; omega⟩)
  have HS := hideP hS
  have HC0 := hideP (hC0.alloc (.cells #[.slice (some (ad.add 4)) (m0 - 4) (c0 - 4)] 65))
  have HC1 := hideP (hC1.alloc (.cells #[.slice (some (ad.add 4)) (m0 - 4) (c0 - 4)] 65))
  have HU := hideP (hU.alloc (.cells #[.slice (some (ad.add 4)) (m0 - 4) (c0 - 4)] 65))
  have HNO := hideP hno
  have HYES := hideP hyes
  clear hS hC0 hC1 hU hno hyes hR hB hbl
  simp only [seqAt]
  go_upto_region 9 with fail
  change Code.wp _ _ _ _ (w6.alloc (.cells #[.slice (some (ad.add 4)) (m0 - 4) (c0 - 4)] 65))
  generalize w6.alloc (.cells #[.slice (some (ad.add 4)) (m0 - 4) (c0 - 4)] 65) = w8 at *
  generalize w6.heap.size = lb at *
  clear k9 k10
  have hn1 : ¬ w.heap.size = lb := by omega
  have hn2 : ¬ w.heap.size + 1 = lb := by omega
  generalize hN : numB body = N
  have HN := hideP hN
  clear hN
  cases N with
  | none =>
    go_wp2_with (go_at_call 33; refine (num_any _ S lb body HL.out).mono ?_; rw [HN.out]; rintro e w9 ⟨rfl, hU9⟩)
    exact load_no _ _ _ _ _ _ _ _ _ ⟨rfl, rfl, rfl⟩ (HC0.out.upd hU9 hn1) (HC1.out.upd hU9 hn2) (by omega) (fun w' hv => HNO.out (by unfold bodyB; rw [HN.out]) w' ((HU.out.trans hU9 (fun b hb (h : b = lb) => by omega)).trans hv (fun b hb h => by rcases h with h | h <;> omega)))
  | some xr =>
  obtain ⟨caps, r1⟩ := xr
  obtain ⟨ca, cb, -, -⟩ := numB_in HL.out.bytes HN.out
  go_upto_region 10 with (go_at_call 33; refine (num_any _ S lb body HL.out).mono ?_; rw [HN.out]; rintro e w9 ⟨rfl, hL9, hU9⟩; have cx9 := (HC0.out).upd hU9 hn1; have z9 := cx9.cellv (i := 0 + 2) rfl; have f9 := cx9.frozen (0 + 2))
  have HL9 := hideP (hL9.upd ((Upd.refl (fun b => b = w.heap.size) w9).setCell ⟨w.heap.size, 0 + 2, none⟩ (.int .i64 caps) (fun _ => rfl)) (fun e => hn1 e.symm) (fun b hb e => by have := HS.out b hb; omega))
  have HC09 := hideP (cx9.set_ (0 + 2) (.int .i64 caps))
  have HC19 := hideP ((HC1.out.upd hU9 hn2).far ⟨w.heap.size, 0 + 2, none⟩ (.int .i64 caps) (by simp))
  have HU9 := hideP ((HU.out.trans hU9 (fun b hb (h : b = lb) => by omega)).setCell ⟨w.heap.size, 0 + 2, none⟩ (.int .i64 caps) (fun h => absurd h (Nat.lt_irrefl _)))
  clear hL9 hU9 cx9 z9 f9 HL HC0 HC1 HU
  generalize w9.setCell ⟨w.heap.size, 0 + 2, none⟩ (.int .i64 caps) = wa at *
  generalize hN1 : numB r1 = N1
  have HN1 := hideP hN1
  clear hN1
  cases N1 with
  | none =>
    go_wp2_with (go_at_call 33; refine (num_any _ S lb r1 HL9.out).mono ?_; rw [HN1.out]; rintro e w9 ⟨rfl, hU9⟩)
    exact load_no _ _ _ _ _ _ _ _ _ ⟨rfl, rfl, rfl⟩ (HC09.out.upd hU9 hn1) (HC19.out.upd hU9 hn2) (by omega) (fun w' hv => HNO.out (by unfold bodyB; rw [HN.out]; simp only; rw [HN1.out]) w' ((HU9.out.trans hU9 (fun b hb (h : b = lb) => by omega)).trans hv (fun b hb h => by rcases h with h | h <;> omega)))
  | some xr =>
  obtain ⟨start, r2⟩ := xr
  obtain ⟨sa, sb, -, -⟩ := numB_in HL9.out.bytes HN1.out
  go_upto_region 11 with (go_at_call 33; refine (num_any _ S lb r1 HL9.out).mono ?_; rw [HN1.out]; rintro e w9 ⟨rfl, hL9, hU9⟩; have cx9 := (HC09.out).upd hU9 hn1; have z9 := cx9.cellv (i := 0 + 1) rfl; have f9 := cx9.frozen (0 + 1))
  have HLb := hideP (hL9.upd ((Upd.refl (fun b => b = w.heap.size) w9).setCell ⟨w.heap.size, 0 + 1, none⟩ (.int .i64 start) (fun _ => rfl)) (fun e => hn1 e.symm) (fun b hb e => by have := HS.out b hb; omega))
  have HC0b := hideP (cx9.set_ (0 + 1) (.int .i64 start))
  have HC1b := hideP ((HC19.out.upd hU9 hn2).far ⟨w.heap.size, 0 + 1, none⟩ (.int .i64 start) (by simp))
  have HUb := hideP ((HU9.out.trans hU9 (fun b hb (h : b = lb) => by omega)).setCell ⟨w.heap.size, 0 + 1, none⟩ (.int .i64 start) (fun h => absurd h (Nat.lt_irrefl _)))
  clear hL9 hU9 cx9 z9 f9 HL9 HC09 HC19 HU9
  generalize w9.setCell ⟨w.heap.size, 0 + 1, none⟩ (.int .i64 start) = wb at *
  generalize hN2 : numB r2 = N2
  have HN2 := hideP hN2
  clear hN2
  cases N2 with
  | none =>
    go_wp2_with (go_at_call 33; refine (num_any _ S lb r2 HLb.out).mono ?_; rw [HN2.out]; rintro e w9 ⟨rfl, hU9⟩)
    exact load_no _ _ _ _ _ _ _ _ _ ⟨rfl, rfl, rfl⟩ (HC0b.out.upd hU9 hn1) (HC1b.out.upd hU9 hn2) (by omega) (fun w' hv => HNO.out (by unfold bodyB; rw [HN.out]; simp only; rw [HN1.out]; simp only; rw [HN2.out]) w' ((HUb.out.trans hU9 (fun b hb (h : b = lb) => by omega)).trans hv (fun b hb h => by rcases h with h | h <;> omega)))
  | some xr =>
  obtain ⟨n, r3⟩ := xr
  obtain ⟨na, nb, -, -⟩ := numB_in HLb.out.bytes HN2.out
  have HB := hideP (show bodyB body = if n ≤ 20000 then (match instsF n.toNat r3 with | none => none | some (is, q) => if q = [] ∧ checkB is start caps = true then some (is, start, caps) else none) else none from by unfold bodyB; rw [HN.out]; simp only; rw [HN1.out]; simp only; rw [HN2.out]; rfl)
  go_upto_region 12 with (go_at_call 33; refine (num_any _ S lb r2 HLb.out).mono ?_; rw [HN2.out]; rintro e wc ⟨rfl, hLc, hUc⟩)
  have HLc := hideP hLc
  have HC0c := hideP (HC0b.out.upd hUc hn1)
  have HC1c := hideP (HC1b.out.upd hUc hn2)
  have HUc := hideP (HUb.out.trans hUc (fun b hb (h : b = lb) => by omega))
  clear hLc hUc HLb HC0b HC1b HUb
  by_cases hn : ¬ n ≤ 20000
  · go_wp2_with (go_at_call 31; refine (need_not _ _ (by first | rfl | exact decide_eq_false (by omega))).mono ?_; rintro e w7 ⟨rfl, hw7⟩; subst hw7)
    exact load_no _ _ _ _ _ _ _ _ _ ⟨rfl, rfl, rfl⟩ (HC0c.out) (HC1c.out) (by omega) (fun w' hv => HNO.out (by rw [HB.out, if_neg (by omega)]) w' ((HUc.out).trans hv (fun b hb h => by rcases h with h | h <;> omega)))
  have hn : n ≤ 20000 := by omega
  go_upto_region 13 with (go_at_call 31; refine (need_is _ _ (by first | rfl | exact decide_eq_true (by omega))).mono ?_; rintro e w7 ⟨rfl, hw7⟩; subst hw7)
  obtain ⟨m, rfl⟩ := Int.eq_ofNat_of_zero_le na
  have HB2 := hideP (HB.out.trans (by rw [if_pos hn, Int.toNat_natCast]))
  have hm : m ≤ 20000 := by omega
  clear HB hn na nb
  go_wp2_with fail
  go_loopg [77] m (fun gk v77 wr => ∃ (i : Nat) (is : List PInst) (gs : List (Option Addr × Nat)) (A : Option Addr) (c : Nat) (q : List Int), i + gk = m ∧ v77 = .int .i64 (i : Int) ∧ is.length = i ∧ Cells wr w.heap.size 24 #[.slice A i c, .int .i64 start, .int .i64 caps] ∧ Cells wr (w.heap.size + 1) 31 #[.int .i64 0] ∧ ProgW wr (lb + 1) A c is gs ∧ (∀ x ∈ is, NumI x) ∧ LoadR wr S lb q ∧ instsF m r3 = (instsF (m - i) q).map (fun p => (is ++ p.1, p.2)) ∧ Upd Nob w wr)
  case atStart => exact ⟨0, [], [], none, 0, r3, by omega, rfl, rfl, HC0c.out, HC1c.out, ProgW.none_ _ _, fun x hx => by simp at hx, HLc.out, by simp, HUc.out⟩
  case round =>
    obtain ⟨i, is, gs, A, c, q, hk, rfl, hlen, hC0, hC1, hP, hNI, hL, hI, hU⟩ := hrel
    have HC0 := hideP hC0
    have HC1 := hideP hC1
    have HP := hideP hP
    have HNI := hideP hNI
    have HL := hideP hL
    have HI := hideP hI
    have HU := hideP hU
    have HK := hideP hk
    have HLEN := hideP hlen
    by_cases hlt : ¬ i < m
    · obtain rfl : i = m := by omega
      have hlen0 := hlen
      have c0 := hC0.cellv (i := 0) rfl
      have c1 := hC0.cellv (i := 1) rfl
      have c2 := hC0.cellv (i := 2) rfl
      have d0 := hC1.cellv (i := 0) rfl
      have f0 := hC0.frozen 0
      have f1 := hC0.frozen 1
      have f2 := hC0.frozen 2
      have g0 := hC1.frozen 0
      clear hC0 hC1 hP hNI hL hI hU hk hlen
      go_upto_region 17 with fail
      have HB3 := hideP (HB2.out.trans (by rw [HI.out, Nat.sub_self]; simp [instsF] : _ = if q = [] ∧ checkB is start caps = true then some (is, start, caps) else none))
      have hin := in64_small ca cb
      have hst := in64_small sa sb
      subst hlen0
      cases q with
      | cons y q =>
        have hq : ¬ (((y :: q).length : Int) = 0) := by simp only [List.length_cons]; omega
        go_wp2_with (first | (go_at_call 36; refine (left_any _ S lb (y :: q) HL.out).mono ?_; rintro e w9 ⟨rfl, hw9⟩; subst hw9) | (go_at_call 31; refine (need_not _ _ (by first | rfl | exact decide_eq_false (by omega))).mono ?_; rintro e w7 ⟨rfl, hw7⟩; subst hw7))
        exact load_no _ _ _ _ _ _ _ _ _ ⟨rfl, rfl, rfl⟩ HC0.out HC1.out (by omega) (fun w' hv => HNO.out (by rw [HB3.out, if_neg (by simp)]) w' (HU.out.trans hv (fun b hb h => by rcases h with h | h <;> omega)))
      | nil =>
        by_cases hb : ¬ checkB is start caps = true
        · go_wp2_with (first | (go_at_call 36; refine (left_any _ S lb [] HL.out).mono ?_; rintro e w9 ⟨rfl, hw9⟩; subst hw9) | (go_at_call 37; refine (check_not HP.out HNI.out hst hin hm hb).mono ?_; rintro e w9 ⟨rfl, hU9⟩) | (go_at_call 31; refine (need_not _ _ (by first | rfl | exact decide_eq_false (by omega))).mono ?_; rintro e w7 ⟨rfl, hw7⟩; subst hw7))
          exact load_no _ _ _ _ _ _ _ _ _ ⟨rfl, rfl, rfl⟩ (HC0.out.upd hU9 not_nob) (HC1.out.upd hU9 not_nob) (by omega) (fun w' hv => HNO.out (by rw [HB3.out, if_neg (fun h => hb h.2)]) w' ((HU.out.trans hU9 (fun _ _ h => h)).trans hv (fun b hb h => by rcases h with h | h <;> omega)))
        have hb := Classical.not_not.1 hb
        go_upto_region 18 with (first | (go_at_call 36; refine (left_any _ S lb [] HL.out).mono ?_; rintro e w9 ⟨rfl, hw9⟩; subst hw9) | (go_at_call 37; refine (check_yes HP.out HNI.out hst hin hm hb).mono ?_; rintro e w9 ⟨rfl, hU9⟩) | (go_at_call 31; refine (need_is _ _ (by first | rfl | exact decide_eq_true (by omega))).mono ?_; rintro e w7 ⟨rfl, hw7⟩; subst hw7))
        have cy := HC0.out.upd hU9 not_nob
        have cz := HC1.out.upd hU9 not_nob
        have y0 := cy.cellv (i := 0) rfl
        have y1 := cy.cellv (i := 1) rfl
        have y2 := cy.cellv (i := 2) rfl
        have z0 := cz.cellv (i := 0) rfl
        have fy0 := cy.frozen 0
        have fy1 := cy.frozen 1
        have fy2 := cy.frozen 2
        have fz0 := cz.frozen 0
        clear c0 c1 c2 d0 f0 f1 f2 g0
        go_wp2_with fail
        have cp := (((cy.set_ 0 (.slice A is.length c)).set_ 1 (.int .i64 start)).set_ 2 (.int .i64 caps)).far ⟨w.heap.size + 1, 0, none⟩ (.int .i64 0) (by simp)
        have ce := (((cz.far ⟨w.heap.size, 0, none⟩ (.slice A is.length c) (by simp)).far ⟨w.heap.size, 1, none⟩ (.int .i64 start) (by simp)).far ⟨w.heap.size, 2, none⟩ (.int .i64 caps) (by simp)).set_ 0 (.int .i64 0)
        exact load_yes _ _ _ _ _ _ _ _ _ ⟨rfl, rfl, rfl⟩ cp ce (HYES.out is start caps A c gs _ (by rw [HB3.out]; simp [hb]) (((HP.out.upd hU9 (fun _ _ => not_nob)).upd (upd_four _ _ _ _ _ _ _) (fun b hb h => by rcases h with h | h <;> omega)).base_ (by omega)) ((HU.out.trans hU9 (fun _ _ h => h)).trans (upd_four _ _ _ _ _ _ _) (fun b hb h => by rcases h with h | h <;> omega)))
    have hlt : i < m := by omega
    have g1 : (i : Int) < (m : Int) := by omega
    clear hC0 hC1 hP hNI hL hI hU hk
    subst hlen
    have hms : m - is.length = (m - (is.length + 1)) + 1 := by omega
    go_upto_region 15 with fail
    refine load_reg15 _ wr S _ _ lb (lb + 1) c A is gs q _ _ _ _ _ _ _ _ _ _ _ _ _ _ _ _ _ _ _ _ _ _ _ _ _ _ _ _ _ _ _ _ _ _ _ _ _ _ _ _ _ _ _ _ _ _ _ _ _ _ _ _ _ _ _ _ _ _ _ _ _ _ _ _ _ _ _ _ _ _ _ _ _ _ _ _ _ _ _ _ _ _ _ _ _ _ _ _ _ _ _ _ _ _ _ _ _ _ _ HL.out HC0.out HP.out HS.out hn1 (by omega) (by omega) (by obtain ⟨_, _, hcl, _⟩ := HL.out.at_; have := hcl.lt; omega) (by omega) (fun hop a w' hd hU2 => ?_) (fun x r hop _ _ _ _ _ _ _ _ _ _ A' c' gs' w' hC2 hP2 hL2 hU2 => ?_)
    · exact load_no _ a _ _ _ _ _ _ w' hd (HC0.out.upd hU2 hn1) (HC1.out.upd hU2 hn2) (by omega) (fun w2 hv => HNO.out (by rw [HB2.out, HI.out, hms, instsF_step, hop]; rfl) w2 ((HU.out.trans hU2 (fun b hb (h : b = lb) => by omega)).trans hv (fun b hb h => by rcases h with h | h <;> omega)))
    · go_wp2_with fail
      go_roundg (m - (is.length + 1))
      case measure => have := HK.out; omega
      case rel => exact ⟨is.length + 1, is ++ [x], gs', A', c', r, by have := HK.out; omega, by go_num, by simp, hC2, HC1.out.upd hU2 (by omega), hP2, fun y hy => by
          rcases List.mem_append.1 hy with hy | hy
          · exact HNI.out y hy
          · obtain rfl : y = x := by simpa using hy
            exact opF_in HL.out.bytes HL.out.few hop, hL2, by
          rw [HI.out, hms, instsF_step, hop]
          simp only
          cases instsF (m - (is.length + 1)) r with
          | none => rfl
          | some p => simp, HU.out.trans hU2 (fun b hb h => by rcases h with h | h | h <;> omega)⟩
end Go.Proofs.YtdbdokjlcdogiaaDoor
