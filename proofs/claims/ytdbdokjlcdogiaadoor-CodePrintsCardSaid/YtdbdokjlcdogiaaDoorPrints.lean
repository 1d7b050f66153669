/-
  The walk of heronlaw10.CodePrints.
-/
import Derived.Test.YtdbdokjlcdogiaaDoorAwake
import Derived.Test.YtdbdokjlcdogiaaDoorTurnP
namespace Go.Proofs.YtdbdokjlcdogiaaDoor
open Go.RowKit
set_option linter.unusedVariables false

/-- what comes in with a program -/
def FitI (is : List PInst) : Prop := ∀ x ∈ is, In64I x ∧ In64s x.rs ∧ x.rs.length * 16 ≤ 140737488351232
theorem InstsR.fit {w : World} {S : Nat → Prop} {A : Option Addr} {n : Nat} {is : List PInst} (h : InstsR w S A n is) (hI : ∀ x ∈ is, x.rs.length * 16 ≤ 140737488351232) : FitI is := fun x hx => by
  obtain ⟨i, hi⟩ := List.mem_iff_getElem?.1 hx
  obtain ⟨ad, g, o, B, m, c, _, _, _, _, hR, hI2, _⟩ := h.at_ i x hi
  exact ⟨hI2, hR.i, hI x hx⟩
theorem fit_turn {is : List PInst} (h : FitI is) : FitI (is.map turnI) := fun y hy => by
  obtain ⟨x, hx, rfl⟩ := List.mem_map.1 hy
  obtain ⟨h1, h2, h3⟩ := h x hx
  unfold turnI
  by_cases h7 : x.op = 7
  · rw [if_pos h7]
    have k0 : In64 0 := by unfold In64; omega
    have k6 : In64 6 := by unfold In64; omega
    exact ⟨⟨k6, k0, k0, k0⟩, (fun z hz => by cases hz), Nat.zero_le _⟩
  · rw [if_neg h7]
    have hl : (turnR x.rs.length x.rs).length = x.rs.length := turnR_len (Nat.le_refl _)
    refine ⟨⟨h1.1, h1.2, h1.3, h1.4⟩, (fun z hz => ?_), by simp only [hl]; exact h3⟩
    simp only [turnR, List.drop_length, List.append_nil, List.mem_map, List.mem_range] at hz
    obtain ⟨j, hj, rfl⟩ := hz
    constructor <;> (unfold In64; simp only; omega)
theorem FitI.to {is : List PInst} (h : FitI is) : ∀ x ∈ is, In64I x ∧ In64s x.rs ∧ x.rs.length ≤ 140737488355328 := fun x hx => ⟨(h x hx).1, (h x hx).2.1, by have := (h x hx).2.2; omega⟩
theorem FitI.sz {is : List PInst} (h : FitI is) : ∀ x ∈ is, x.rs.length * 16 ≤ 140737488351232 := fun x hx => (h x hx).2.2
/-- the lists of a lent program are new -/
theorem LentM.low {w : World} {base ga : Nat} {is : List PInst} {gr : Nat → Nat} {cs : Array Value} (h : LentM w base ga is gr cs) : ∀ b, OfLent ga gr is.length b → base ≤ b := by
  rintro b (rfl | ⟨i, hi, rfl⟩)
  · exact h.l.low
  · exact own_lo (h.l.done i _ hi (List.getElem?_eq_getElem hi)).2 rfl

set_option maxRecDepth 100000 in
set_option maxHeartbeats 4000000 in
theorem prints_any (w : World) (A0 A1 : Option Addr) (n0 c0 n1 c1 : Nat) (is0 is1 : List PInst) (st0 cp0 st1 cp1 : Int) (S0 S1 : Nat → Prop) (h0 : InstsR w S0 A0 n0 is0) (h1 : InstsR w S1 A1 n1 is1)
    (hst0 : In64 st0) (hcp0 : In64 cp0) (hst1 : In64 st1) (hcp1 : In64 cp1) (hn0 : n0 * 56 ≤ 140737488351232) (hn1 : n1 * 56 ≤ 140737488351232) (hr0 : ∀ x ∈ is0, x.rs.length * 16 ≤ 140737488351232) (hpt : PowTab w) (hwt : WordTab w) :
    Calls Tryd.prog 3 #[.agg #[.slice A0 n0 c0, .int .i64 st0, .int .i64 cp0], .agg #[.slice A1 n1 c1, .int .i64 st1, .int .i64 cp1]] w fun e w' => e = .returned (.bool true) ∧ Upd Nob w w' := by
  obtain rfl : is0.length = n0 := h0.len
  obtain rfl : is1.length = n1 := h1.len
  have HF := hideP (h0.fit hr0)
  have HPT := hideP (show ∀ w', Upd Nob w w' → PowTab w' ∧ WordTab w' from fun w' hv => ⟨hpt.upd hv, hwt.upd hv⟩)
  have H0 := hideP h0
  have H1 := hideP h1
  have C1 : Cells ((w.alloc (.cells #[.slice A0 is0.length c0, .int .i64 st0, .int .i64 cp0] 24)).alloc (.cells #[.slice A1 is1.length c1, .int .i64 st1, .int .i64 cp1] 24)) w.heap.size 24 #[.slice A0 is0.length c0, .int .i64 st0, .int .i64 cp0] := (Cells.new _ _ _).alloc _
  have C2 := Cells.new (w.alloc (.cells #[.slice A0 is0.length c0, .int .i64 st0, .int .i64 cp0] 24)) 24 #[.slice A1 is1.length c1, .int .i64 st1, .int .i64 cp1]
  rw [World.size_alloc] at C2
  have hU : Upd Nob w ((w.alloc (.cells #[.slice A0 is0.length c0, .int .i64 st0, .int .i64 cp0] 24)).alloc (.cells #[.slice A1 is1.length c1, .int .i64 st1, .int .i64 cp1] 24)) := ((Upd.refl Nob w).alloc _).alloc _
  clear h0 h1 hpt hwt hr0
  go_enter Tryd.func3, Tryd.ntmps3
  go_upto_region 1 with fail
  generalize ((w.alloc (.cells #[.slice A0 is0.length c0, .int .i64 st0, .int .i64 cp0] 24)).alloc (.cells #[.slice A1 is1.length c1, .int .i64 st1, .int .i64 cp1] 24)) = w2 at *
  have HC1 := hideP C1
  have HC2 := hideP C2
  have HU2 := hideP hU
  have hw2 := C2.lt
  clear C1 C2 hU
  have HSL := hideP (show ∀ w', Upd Nob w2 w' → (w'.cell? ⟨w.heap.size, 0, none⟩ = some (.slice A0 is0.length c0) ∧ w'.cell? ⟨w.heap.size, 0 + 1, none⟩ = some (.int .i64 st0) ∧ w'.cell? ⟨w.heap.size, 0 + 2, none⟩ = some (.int .i64 cp0)) ∧ (w'.cell? ⟨w.heap.size + 1, 0, none⟩ = some (.slice A1 is1.length c1) ∧ w'.cell? ⟨w.heap.size + 1, 0 + 1, none⟩ = some (.int .i64 st1) ∧ w'.cell? ⟨w.heap.size + 1, 0 + 2, none⟩ = some (.int .i64 cp1)) from fun w' hv => ⟨⟨(HC1.out.upd hv not_nob).cellv rfl, (HC1.out.upd hv not_nob).cellv rfl, (HC1.out.upd hv not_nob).cellv rfl⟩, ⟨(HC2.out.upd hv not_nob).cellv rfl, (HC2.out.upd hv not_nob).cellv rfl, (HC2.out.upd hv not_nob).cellv rfl⟩⟩)
  go_upto_region 2 with (go_at_call 7; refine (awake_any _ (HPT.out _ HU2.out).1 (HPT.out _ HU2.out).2).mono ?_; rintro e w3 ⟨rfl, hU3⟩)
  have HU3 := hideP hU3
  clear hU3
  obtain ⟨⟨a0, a1, a2⟩, ⟨b0, b1, b2⟩⟩ := HSL.out w3 HU3.out
  go_upto_region 3 with (go_at_call 8; refine (great_any _ S0 A0 is0.length c0 is0 st0 cp0 (H0.out.upd (HU2.out.trans HU3.out (fun _ _ h => h)) (fun _ _ => not_nob)) (by omega)).mono ?_; rintro e w4 ⟨⟨g0, rfl⟩, hU4⟩)
  clear a0 a1 a2 b0 b1 b2
  have HU4 := hideP (HU3.out.trans hU4 (fun _ _ h => h))
  clear hU4 HU3
  obtain ⟨⟨a0, a1, a2⟩, ⟨b0, b1, b2⟩⟩ := HSL.out w4 HU4.out
  go_upto_region 4 with (go_at_call 8; refine (great_any _ S1 A1 is1.length c1 is1 st1 cp1 (H1.out.upd (HU2.out.trans HU4.out (fun _ _ h => h)) (fun _ _ => not_nob)) (by omega)).mono ?_; rintro e w5 ⟨⟨g1, rfl⟩, hU5⟩)
  clear a0 a1 a2 b0 b1 b2
  have HU5 := hideP (HU4.out.trans hU5 (fun _ _ h => h))
  clear hU5 HU4
  cases g0
  case true =>
    go_wp2_with fail
    go_ret
    exact ⟨rfl, HU2.out.trans HU5.out (fun _ _ h => h)⟩
  cases g1
  case true =>
    go_wp2_with fail
    go_ret
    exact ⟨rfl, HU2.out.trans HU5.out (fun _ _ h => h)⟩
  obtain ⟨⟨a0, a1, a2⟩, ⟨b0, b1, b2⟩⟩ := HSL.out w5 HU5.out
  go_upto_region 6 with fail
  go_upto_region 7 with (go_at_call 9; refine (lentProg_any _ S0 A0 is0.length c0 is0 st0 cp0 (H0.out.upd (HU2.out.trans HU5.out (fun _ _ h => h)) (fun _ _ => not_nob)) hn0 HF.out.sz).mono ?_; rintro e w6 ⟨ga, gr, cs, rfl, hL, hm, hU6⟩)
  clear a0 a1 a2 b0 b1 b2
  have hUa := (Upd.refl Nob w6).alloc (.cells #[.slice (some ⟨ga, 0, none⟩) is0.length (is0.length + 1), .int .i64 st0, .int .i64 cp0] 24)
  have HC3 := hideP (Cells.new w6 24 #[.slice (some ⟨ga, 0, none⟩) is0.length (is0.length + 1), .int .i64 st0, .int .i64 cp0])
  have HM := hideP ((⟨hL, hm⟩ : LentM w6 w5.heap.size ga is0 gr cs).old hUa (fun _ _ => not_nob))
  have HU6 := hideP (HU5.out.trans (hU6.trans hUa (fun _ _ h => h)) (fun _ _ h => h))
  have HLT := hideP (show ∀ b, OfLent ga gr is0.length b → w6.heap.size ≠ b from fun b hb => by
    rcases hb with rfl | ⟨i, hi, rfl⟩
    · have := hL.blk.lt; omega
    · have := hL.lt (Nat.le_refl _) hi; omega)
  have hw56 := hU6.size
  clear hL hm hU6 hUa
  generalize w6.heap.size = pb at *
  generalize w6.alloc (.cells #[.slice (some ⟨ga, 0, none⟩) is0.length (is0.length + 1), .int .i64 st0, .int .i64 cp0] 24) = w7 at *
  have HSI := hideP (show ∀ w', Upd Nob w7 w' → w'.cell? ⟨pb, 0, none⟩ = some (.slice (some ⟨ga, 0, none⟩) is0.length (is0.length + 1)) ∧ w'.cell? ⟨pb, 0 + 1, none⟩ = some (.int .i64 st0) ∧ w'.cell? ⟨pb, 0 + 2, none⟩ = some (.int .i64 cp0) from fun w' hv => ⟨(HC3.out.upd hv not_nob).cellv rfl, (HC3.out.upd hv not_nob).cellv rfl, (HC3.out.upd hv not_nob).cellv rfl⟩)
  have HUA := hideP (HU2.out.trans HU6.out (fun _ _ h => h))
  obtain ⟨⟨a0, a1, a2⟩, ⟨b0, b1, b2⟩⟩ := HSL.out w7 HU6.out
  obtain ⟨d0, d1, d2⟩ := HSI.out w7 (Upd.refl _ _)
  have HIN := hideP (HM.out.l.insts HF.out.to)
  go_upto_region 8 with (go_at_call 10; refine (says_any _ _ S0 (some ⟨ga, 0, none⟩) A0 is0.length (is0.length + 1) c0 is0 st0 cp0 HIN.out (H0.out.upd HUA.out (fun _ _ => not_nob)) hst0 hcp0 (by omega) (HPT.out _ HUA.out).1 (HPT.out _ HUA.out).2).mono ?_; rintro e w8 ⟨rfl, hU8⟩)
  clear a0 a1 a2 b0 b1 b2 d0 d1 d2
  have HU8 := hideP hU8
  clear hU8
  obtain ⟨⟨a0, a1, a2⟩, ⟨b0, b1, b2⟩⟩ := HSL.out w8 (HU6.out.trans HU8.out (fun _ _ h => h))
  obtain ⟨d0, d1, d2⟩ := HSI.out w8 HU8.out
  have HUB := hideP (HUA.out.trans HU8.out (fun _ _ h => h))
  go_upto_region 9 with (go_at_call 10; refine (says_any _ S1 S1 A1 A1 is1.length c1 c1 is1 st1 cp1 (H1.out.upd HUB.out (fun _ _ => not_nob)) (H1.out.upd HUB.out (fun _ _ => not_nob)) hst1 hcp1 (by omega) (HPT.out _ HUB.out).1 (HPT.out _ HUB.out).2).mono ?_; rintro e w9 ⟨rfl, hU9⟩)
  clear a0 a1 a2 b0 b1 b2 d0 d1 d2
  have HU9 := hideP (HU8.out.trans hU9 (fun _ _ h => h))
  clear hU9
  obtain ⟨⟨a0, a1, a2⟩, ⟨b0, b1, b2⟩⟩ := HSL.out w9 (HU6.out.trans HU9.out (fun _ _ h => h))
  obtain ⟨d0, d1, d2⟩ := HSI.out w9 HU9.out
  have HUC := hideP (HUA.out.trans HU9.out (fun _ _ h => h))
  go_upto_region 10 with (go_at_call 10; refine (says_any _ _ S0 (some ⟨ga, 0, none⟩) A0 is0.length (is0.length + 1) c0 is0 st0 cp0 (HIN.out.upd HU9.out (fun _ _ => not_nob)) (H0.out.upd HUC.out (fun _ _ => not_nob)) hst0 hcp0 (by omega) (HPT.out _ HUC.out).1 (HPT.out _ HUC.out).2).mono ?_; rintro e w10 ⟨rfl, hU10⟩)
  clear a0 a1 a2 b0 b1 b2 d0 d1 d2
  have HU10 := hideP (HU9.out.trans hU10 (fun _ _ h => h))
  clear hU10
  obtain ⟨⟨a0, a1, a2⟩, ⟨b0, b1, b2⟩⟩ := HSL.out w10 (HU6.out.trans HU10.out (fun _ _ h => h))
  obtain ⟨d0, d1, d2⟩ := HSI.out w10 HU10.out
  have HUD := hideP (HUA.out.trans HU10.out (fun _ _ h => h))
  go_upto_region 11 with (go_at_call 11; refine (sameProg_any _ _ S0 (some ⟨ga, 0, none⟩) A0 is0.length (is0.length + 1) c0 is0 st0 cp0 (HIN.out.upd HU10.out (fun _ _ => not_nob)) (H0.out.upd HUD.out (fun _ _ => not_nob)) (by omega)).mono ?_; rintro e w11 ⟨rfl, hU11⟩)
  clear a0 a1 a2 b0 b1 b2 d0 d1 d2
  have HU11 := hideP (HU10.out.trans hU11 (fun _ _ h => h))
  clear hU11
  obtain ⟨⟨a0, a1, a2⟩, ⟨b0, b1, b2⟩⟩ := HSL.out w11 (HU6.out.trans HU11.out (fun _ _ h => h))
  obtain ⟨d0, d1, d2⟩ := HSI.out w11 HU11.out
  go_upto_region 12 with (go_at_call 12; refine (keptProg_any _ w5.heap.size ga is0 gr cs st0 cp0 (HM.out.old HU11.out (fun _ _ => not_nob)) hn0 HF.out.sz).mono ?_; rintro e w12 ⟨rfl, hU12⟩)
  clear a0 a1 a2 b0 b1 b2 d0 d1 d2
  have HU12 := hideP (HU11.out.trans hU12 (fun _ _ h => h))
  clear hU12
  obtain ⟨d0, d1, d2⟩ := HSI.out w12 HU12.out
  go_upto_region 14 with fail
  go_upto_region 15 with (go_at_call 13; refine (turnedProg_any _ w5.heap.size ga is0 gr cs st0 cp0 (HM.out.old HU12.out (fun _ _ => not_nob)) hn0 HF.out.sz).mono ?_; rintro e w13 ⟨rfl, ⟨cs2, hT⟩, hU13⟩)
  clear d0 d1 d2
  have HC13 := hideP ((HC3.out.upd HU12.out not_nob).upd hU13 (fun hb => HLT.out pb hb rfl))
  have HUE := hideP ((HUA.out.trans HU12.out (fun _ _ h => h)).trans hU13 (fun b hb h => by
    have h1 := HM.out.low b h
    have h2 := (HU2.out.trans HU5.out (fun _ _ h => h)).size
    omega))
  have hlen : (is0.map turnI).length = is0.length := List.length_map _
  have HFT := hideP (fit_turn HF.out)
  have HTI := hideP (hT.insts HFT.out.to)
  rw [hlen] at HTI
  have hp13 := HC13.out.lt
  have HTB := hideP (show ∀ b, (b = ga ∨ ∃ i, i < (is0.map turnI).length ∧ b = gr i) → b < w13.heap.size from fun b hb => by
    rcases hb with rfl | ⟨i, hi, rfl⟩
    · exact hT.blk.lt
    · exact hT.lt i hi)
  have hqw : w.heap.size ≤ w13.heap.size := HUE.out.size
  clear hT hU13
  have HUq := hideP ((Upd.refl Nob w13).alloc (.cells #[.slice none 0 0, .int .i64 0, .int .i64 0] 24))
  have HQ := hideP (Cells.new w13 24 #[.slice none 0 0, .int .i64 0, .int .i64 0])
  have HIq := hideP (HC13.out.upd HUq.out not_nob)
  go_upto_region 16 with fail
  generalize w13.alloc (.cells #[.slice none 0 0, .int .i64 0, .int .i64 0] 24) = w14 at *
  generalize w13.heap.size = qb at *
  have d0 : w14.cell? ⟨pb, 0, none⟩ = some (.slice (some ⟨ga, 0, none⟩) is0.length (is0.length + 1)) := HIq.out.cellv rfl
  have d1 : w14.cell? ⟨pb, 0 + 1, none⟩ = some (.int .i64 st0) := HIq.out.cellv rfl
  have d2 : w14.cell? ⟨pb, 0 + 2, none⟩ = some (.int .i64 cp0) := HIq.out.cellv rfl
  go_upto_region 17 with (go_at_call 9; refine (lentProg_any _ _ (some ⟨ga, 0, none⟩) is0.length (is0.length + 1) (is0.map turnI) st0 cp0 (HTI.out.upd HUq.out (fun _ _ => not_nob)) hn0 HFT.out.sz).mono ?_; rintro e w15 ⟨gb, gr2, cs3, rfl, hL2, hm2, hU15⟩; have hq15 := HQ.out.upd hU15 not_nob; have q0 := hq15.cellv (i := 0) rfl; have q1 := hq15.cellv (i := 0 + 1) rfl; have q2 := hq15.cellv (i := 0 + 2) rfl; have y0 := hq15.frozen 0; have y1 := hq15.frozen (0 + 1); have y2 := hq15.frozen (0 + 2))
  have CQ : Cells (((w15.setCell ⟨qb, 0, none⟩ (.slice (some ⟨gb, 0, none⟩) is0.length (is0.length + 1))).setCell ⟨qb, 1, none⟩ (.int .i64 st0)).setCell ⟨qb, 2, none⟩ (.int .i64 cp0)) qb 24 #[.slice (some ⟨gb, 0, none⟩) is0.length (is0.length + 1), .int .i64 st0, .int .i64 cp0] := ((hq15.set_ 0 (.slice (some ⟨gb, 0, none⟩) is0.length (is0.length + 1))).set_ 1 (.int .i64 st0)).set_ 2 (.int .i64 cp0)
  have hUs : Upd (fun b => b = qb) w15 (((w15.setCell ⟨qb, 0, none⟩ (.slice (some ⟨gb, 0, none⟩) is0.length (is0.length + 1))).setCell ⟨qb, 1, none⟩ (.int .i64 st0)).setCell ⟨qb, 2, none⟩ (.int .i64 cp0)) := (((Upd.refl (fun b => b = qb) w15).setCell _ _ (fun _ => rfl)).setCell _ _ (fun _ => rfl)).setCell _ _ (fun _ => rfl)
  have hbq : ∀ b, (b = gb ∨ ∃ i, i < (is0.map turnI).length ∧ b = gr2 i) → ¬ b = qb := by
    intro b hb e
    have hl14 := HQ.out.lt
    have hlo := (⟨hL2, hm2⟩ : LentM w15 w14.heap.size gb (is0.map turnI) gr2 cs3).low b hb
    omega
  have hI15 := hL2.insts HFT.out.to
  rw [hlen] at hI15
  have HI15 := hideP (hI15.upd hUs (by rw [hlen] at hbq; exact hbq))
  have HTq := hideP ((HTI.out.upd (HUq.out.trans hU15 (fun _ _ h => h)) (fun _ _ => not_nob)).upd hUs (fun b hb e => by
    have h1 := HTB.out b (by rw [hlen]; exact hb)
    omega))
  have CP := (HIq.out.upd hU15 not_nob).upd hUs (show ¬ pb = qb by omega)
  have HUZ := hideP ((HUE.out.trans (HUq.out.trans hU15 (fun _ _ h => h)) (fun _ _ h => h)).trans hUs (fun b hb h => by
    omega))
  clear q0 q1 q2 y0 y1 y2 d0 d1 d2 hUs hU15 hL2 hI15 hbq hq15
  generalize (((w15.setCell ⟨qb, 0, none⟩ (.slice (some ⟨gb, 0, none⟩) is0.length (is0.length + 1))).setCell ⟨qb, 1, none⟩ (.int .i64 st0)).setCell ⟨qb, 2, none⟩ (.int .i64 cp0)) = w16 at *
  have d0 : w16.cell? ⟨pb, 0, none⟩ = some (.slice (some ⟨ga, 0, none⟩) is0.length (is0.length + 1)) := CP.cellv rfl
  have d1 : w16.cell? ⟨pb, 0 + 1, none⟩ = some (.int .i64 st0) := CP.cellv rfl
  have d2 : w16.cell? ⟨pb, 0 + 2, none⟩ = some (.int .i64 cp0) := CP.cellv rfl
  have q0 : w16.cell? ⟨qb, 0, none⟩ = some (.slice (some ⟨gb, 0, none⟩) is0.length (is0.length + 1)) := CQ.cellv rfl
  have q1 : w16.cell? ⟨qb, 0 + 1, none⟩ = some (.int .i64 st0) := CQ.cellv rfl
  have q2 : w16.cell? ⟨qb, 0 + 2, none⟩ = some (.int .i64 cp0) := CQ.cellv rfl
  go_wp2_with (go_at_call 10; refine (says_any _ _ _ (some ⟨ga, 0, none⟩) (some ⟨gb, 0, none⟩) is0.length (is0.length + 1) (is0.length + 1) (is0.map turnI) st0 cp0 HTq.out HI15.out hst0 hcp0 (by omega) (HPT.out _ HUZ.out).1 (HPT.out _ HUZ.out).2).mono ?_; rintro e w17 ⟨rfl, hU17⟩)
  go_ret
  exact ⟨rfl, HUZ.out.trans hU17 (fun _ _ h => h)⟩
end Go.Proofs.YtdbdokjlcdogiaaDoor
