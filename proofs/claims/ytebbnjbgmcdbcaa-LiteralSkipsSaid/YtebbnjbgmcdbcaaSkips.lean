/-
  The walk of heronlaw15.LiteralSkips.
-/
import Derived.Test.YtebbnjbgmcdbcaaRefRun
import Derived.Test.YtebbnjbgmcdbcaaSkipsP
import Derived.Test.YtebbnjbgmcdbcaaAwake
import Derived.Test.YtebbnjbgmcdbcaaLent
namespace Go.Proofs.Ytebbnjbgmcdbcaa
open Go.RowKit
set_option linter.unusedVariables false

def capsOf (fo : Option (List Int × Int)) : List Int := match fo with | none => [] | some x => x.1
def whOf (fo : Option (List Int × Int)) : Int := match fo with | none => 0 | some x => x.2
theorem FoundR.reads {w : World} {m : Nat} {fo : Option (List Int × Int)} {A : Option Addr} {fn : Nat} {wh : Int} (h : FoundR w m fo A fn wh) : Reads w (IntB w) 1 A fn (intv (capsOf fo)) ∧ fn ≤ m ∧ wh = whOf fo := by
  rcases h with ⟨rfl, rfl, rfl⟩ | ⟨caps, rfl, rfl, h1, h2⟩
  · exact ⟨.nil_, Nat.zero_le _, rfl⟩
  · exact ⟨h2, Nat.le_refl _, rfl⟩

set_option maxRecDepth 100000 in
set_option maxHeartbeats 8000000 in
theorem literalSkips_any (w : World) (S : Nat → Prop) (A : Option Addr) (n c : Nat) (is : List PInst) (start caps : Int) (T : Option Addr) (tn tc : Nat) (text : List Int) (a : Int)
    (h : InstsR w S A n is) (hs : In64 start) (hc : In64 caps) (hn : n ≤ 140737488355328) (ht : TextR w S T tn text) (ha : In64 a) :
    Calls Try.prog 6 #[.agg #[.slice A n c, .int .i64 start, .int .i64 caps], .slice T tn tc, .int .i64 a] w fun e w' => e = .returned (.bool true) ∧ Upd Nob w w' := by
  obtain rfl : is.length = n := h.len
  obtain rfl : text.length = tn := ht.len
  have C0 : Cells (w.alloc (.cells #[.slice A is.length c, .int .i64 start, .int .i64 caps] 27)) w.heap.size 27 #[.slice A is.length c, .int .i64 start, .int .i64 caps] := Cells.new _ _ _
  have hU := (Upd.refl Nob w).alloc (.cells #[.slice A is.length c, .int .i64 start, .int .i64 caps] 27)
  have H := hideP h.lower
  have HT := hideP ht.lower
  have h64 := ht.n
  clear h ht
  go_enter Try.func6, Try.ntmps6
  go_upto_region 1 with fail
  generalize w.alloc (.cells #[.slice A is.length c, .int .i64 start, .int .i64 caps] 27) = w1 at *
  generalize w.heap.size = b0 at C0
  have HC0 := hideP C0
  have HU1 := hideP hU
  clear C0 hU
  go_wp2_with fail
  refine (awake_any w1).mono ?_
  rintro e w2 ⟨rfl, hU2⟩
  have HC2 := hideP (HC0.out.upd hU2 not_nob)
  have HU2 := hideP (HU1.out.trans hU2 (fun _ _ h => h))
  have e0 : w2.cell? ⟨b0, 0, none⟩ = some (.slice A is.length c) := HC2.out.cellv rfl
  have e1 : w2.cell? ⟨b0, 0 + 1, none⟩ = some (.int .i64 start) := HC2.out.cellv rfl
  have e2 : w2.cell? ⟨b0, 0 + 2, none⟩ = some (.int .i64 caps) := HC2.out.cellv rfl
  clear hU2
  go_wp2_with fail
  refine (ref_check _ _ A is.length c is start caps (H.out.upd HU2.out (fun _ _ => not_nob)) hs hc hn).mono ?_
  rintro e w3 ⟨rfl, hU3⟩
  have HC3 := hideP (HC2.out.upd hU3 not_nob)
  have HU3 := hideP (HU2.out.trans hU3 (fun _ _ h => h))
  have e0 : w3.cell? ⟨b0, 0, none⟩ = some (.slice A is.length c) := HC3.out.cellv rfl
  have e1 : w3.cell? ⟨b0, 0 + 1, none⟩ = some (.int .i64 start) := HC3.out.cellv rfl
  have e2 : w3.cell? ⟨b0, 0 + 2, none⟩ = some (.int .i64 caps) := HC3.out.cellv rfl
  clear hU3
  rcases hv : checkB is start caps with _ | _
  · have hE : errOf false = 90 := rfl
    clear hv
    go_wp2_with fail
    go_ret
    exact ⟨rfl, HU3.out⟩
  have hE : errOf true = 0 := rfl
  by_cases hlow : a < 0
  · go_wp2_with fail
    go_ret
    exact ⟨rfl, HU3.out⟩
  by_cases hhigh : (text.length : Int) < a
  · go_wp2_with fail
    go_ret
    exact ⟨rfl, HU3.out⟩
  by_cases hlong : (1000 : Int) < (text.length : Int)
  · go_wp2_with fail
    go_ret
    exact ⟨rfl, HU3.out⟩
  obtain ⟨a0, rfl⟩ : ∃ k : Nat, a = (k : Int) := Int.eq_ofNat_of_zero_le (by omega)
  obtain ⟨k1, k2, k3, k4⟩ := skips_plain (text := text) (a := a0) hv (by omega)
  obtain ⟨⟨n1, n2, s0, s1, m0, m1⟩, -⟩ := vcheck hv
  have hans : ∀ (i : Nat) (b : Bool), i ≤ text.length → ansF is start caps text (i : Int) b = (runF is start.toNat caps.toNat text i b, 0) := fun i b hi => by
    unfold ansF
    rw [if_neg (by omega), if_neg (by rw [hv]; exact Bool.noConfusion), if_neg (by omega)]
    rfl
  have HAN := hideP hans
  have HK2 := hideP k2
  have HK3 := hideP k3
  have HK4 := hideP k4
  clear hans k2 k3 k4
  go_wp2_with fail
  refine (prefix_any w3 _ A is.length c is start caps (H.out.upd HU3.out (fun _ _ => not_nob)) hs hc hn).mono ?_
  rintro e w4 ⟨RA, rfl, hRow, hU4⟩
  have HU4 := hideP (HU3.out.trans hU4 (fun _ _ h => h))
  have HC4 := hideP (HC3.out.upd hU4 not_nob)
  have hrowlen : (prefixOf is start caps).1.length ≤ 4194304 := by omega
  generalize hP : (prefixOf is start caps).1 = P at *
  generalize hW : (prefixOf is start caps).2 = whole at *
  clear hU4 hP hW
  go_wp2_with fail
  refine (new_any w4 _ RA P.length P.length P hRow.reads hrowlen).mono ?_
  rintro e w5 ⟨fb, bb, FA, fc, back, rfl, hF5, hT5, hU5⟩
  have HU5 := hideP (HU4.out.trans hU5 (fun _ _ h => h))
  have HC5 := hideP (HC4.out.upd hU5 not_nob)
  have HF5 := hideP hF5
  have HTb := hideP hT5
  have e0 : w5.cell? ⟨b0, 0, none⟩ = some (.slice A is.length c) := HC5.out.cellv rfl
  have e1 : w5.cell? ⟨b0, 0 + 1, none⟩ = some (.int .i64 start) := HC5.out.cellv rfl
  have e2 : w5.cell? ⟨b0, 0 + 2, none⟩ = some (.int .i64 caps) := HC5.out.cellv rfl
  have k1' : ¬ (is.length : Int) < (P.length : Int) := by omega
  clear hF5 hT5 hU5 hRow
  go_wp2_with fail
  refine (ref_run w5 _ A is.length c is start caps T text.length tc text (a0 : Int) true (H.out.upd HU5.out (fun _ _ => not_nob)) hs hc hn (HT.out.upd HU5.out (fun _ _ => not_nob)) ha).mono ?_
  rw [HAN.out a0 true (by omega)]
  rintro e w6 ⟨XA, xn, xc, xw, rfl, hX6, hU6⟩
  simp only at hX6
  generalize hx : (runF is start.toNat caps.toNat text a0 true).1 = xo at *
  generalize hxs : (runF is start.toNat caps.toNat text a0 true).2 = xs at *
  have CX := Cells.new w6 52 #[.bool xo.isSome, .slice XA xn xc, .int .i64 xw, .int .i64 (xs : Int)]
  have hU7 := (Upd.refl Nob w6).alloc (.cells #[.bool xo.isSome, .slice XA xn xc, .int .i64 xw, .int .i64 (xs : Int)] 52)
  have HCX := hideP CX
  have HU7 := hideP ((HU5.out.trans hU6 (fun _ _ h => h)).trans hU7 (fun _ _ h => h))
  have HC7 := hideP ((HC5.out.upd hU6 not_nob).upd hU7 not_nob)
  have HF7 := hideP ((HF5.out.upd hU6 (fun _ _ => not_nob)).upd hU7 (fun _ _ => not_nob))
  clear hx hxs CX hU6 hU7 hX6
  go_wp2_with fail
  generalize w6.alloc (.cells #[.bool xo.isSome, .slice XA xn xc, .int .i64 xw, .int .i64 (xs : Int)] 52) = w7 at *
  generalize w6.heap.size = xb at *
  refine (next_any w7 _ fb bb FA fc P back HF7.out HTb.out hrowlen _ T text.length tc text (HT.out.upd HU7.out (fun _ _ => not_nob)).r (by omega) (a0 : Int) ha).mono ?_
  rintro e w8 ⟨rfl, q8, rfl⟩
  have x0 : (w7.drewN q8).cell? ⟨xb, 0, none⟩ = some (.bool xo.isSome) := HCX.out.cellv rfl
  have HU8 := hideP (HU7.out.drewN q8)
  have HC8 := hideP (HC7.out.drewN q8)
  have HF8 := hideP (HF7.out.drewN q8)
  have ho1 := hideP (show xo.isSome = true → (nextOf P text (a0 : Int) == (a0 : Int)) = true from fun h => by rw [HK2.out h]; exact beq_self_eq_true _)
  have ho2 := hideP (show whole = true → (nextOf P text (a0 : Int) == (a0 : Int)) = xo.isSome from fun h => by
    rw [Bool.eq_iff_iff, beq_iff_eq]
    exact (HK3.out h).symm)
  generalize w7.drewN q8 = w8 at *
  have hni : In64 (nextOf P text (a0 : Int)) := by
    rcases HK4.out with ⟨h, -⟩ | ⟨i, h, hi, -⟩
    · rw [h]; unfold In64; omega
    · rw [h]; unfold In64; omega
  have HNI := hideP hni
  clear hni
  generalize hnx : nextOf P text (a0 : Int) = nx at *
  go_upto_region 11 with fail
  generalize xo.isSome = ok at *
  generalize hst : (nx == (a0 : Int)) = stn at *
  clear hst
  go_cut [97] from 83 to 96 (fun v97 wc => v97 = .bool false ∧ w8 = wc)
  case first =>
    rcases ok with _ | _ <;> rcases stn with _ | _ <;> rcases whole with _ | _
    all_goals first
      | (exfalso; exact Bool.noConfusion (ho1.out rfl))
      | (exfalso; exact Bool.noConfusion (ho2.out rfl))
      | (go_wp2_with fail
         go_meet
         exact ⟨rfl, rfl⟩)
  case rest =>
    obtain ⟨rfl, rfl⟩ := hcut
    have e0 : w8.cell? ⟨b0, 0, none⟩ = some (.slice A is.length c) := HC8.out.cellv rfl
    have e1 : w8.cell? ⟨b0, 0 + 1, none⟩ = some (.int .i64 start) := HC8.out.cellv rfl
    have e2 : w8.cell? ⟨b0, 0 + 2, none⟩ = some (.int .i64 caps) := HC8.out.cellv rfl
    go_wp2_with fail
    refine (ref_run w8 _ A is.length c is start caps T text.length tc text (a0 : Int) false (H.out.upd HU8.out (fun _ _ => not_nob)) hs hc hn (HT.out.upd HU8.out (fun _ _ => not_nob)) ha).mono ?_
    rw [HAN.out a0 false (by omega)]
    rintro e w9 ⟨YA, yn, yc, yw, rfl, hY9, hU9⟩
    simp only at hY9
    generalize hy : (runF is start.toNat caps.toNat text a0 false).1 = yo at *
    generalize hys : (runF is start.toNat caps.toNat text a0 false).2 = ys at *
    have CY := Cells.new w9 52 #[.bool yo.isSome, .slice YA yn yc, .int .i64 yw, .int .i64 (ys : Int)]
    have hU10 := (Upd.refl Nob w9).alloc (.cells #[.bool yo.isSome, .slice YA yn yc, .int .i64 yw, .int .i64 (ys : Int)] 52)
    have HCY := hideP CY
    have HU10 := hideP ((HU8.out.trans hU9 (fun _ _ h => h)).trans hU10 (fun _ _ h => h))
    have HC10 := hideP ((HC8.out.upd hU9 not_nob).upd hU10 not_nob)
    have HF10 := hideP ((HF8.out.upd hU9 (fun _ _ => not_nob)).upd hU10 (fun _ _ => not_nob))
    have HY10 := hideP (hY9.keep (IntKeep.of hU10 (fun _ _ => not_nob)))
    clear hy hys CY hU9 hU10 hY9
    go_wp2_with fail
    generalize w9.alloc (.cells #[.bool yo.isSome, .slice YA yn yc, .int .i64 yw, .int .i64 (ys : Int)] 52) = w10 at *
    generalize w9.heap.size = yb at *
    refine (next_any w10 _ fb bb FA fc P back HF10.out HTb.out hrowlen _ T text.length tc text (HT.out.upd HU10.out (fun _ _ => not_nob)).r (by omega) (a0 : Int) ha).mono ?_
    rw [hnx]
    rintro e w11 ⟨rfl, q11, rfl⟩
    have HU11 := hideP (HU10.out.drewN q11)
    have HC11 := hideP (HC10.out.drewN q11)
    have HCY11 := hideP (HCY.out.drewN q11)
    have HY11 := hideP (HY10.out.keep (IntKeep.of ((Upd.refl Nob w10).drewN q11) (fun _ _ => not_nob)))
    generalize w10.drewN q11 = w11 at *
    have y0 : w11.cell? ⟨yb, 0, none⟩ = some (.bool yo.isSome) := HCY11.out.cellv rfl
    have y1 : w11.cell? ⟨yb, 0 + 1, none⟩ = some (.slice YA yn yc) := HCY11.out.cellv rfl
    have y2 : w11.cell? ⟨yb, 0 + 2, none⟩ = some (.int .i64 yw) := HCY11.out.cellv rfl
    have y3 : w11.cell? ⟨yb, 0 + 3, none⟩ = some (.int .i64 (ys : Int)) := HCY11.out.cellv rfl
    go_upto_region 16 with fail
    have CZ := Cells.new w11 52 #[.bool yo.isSome, .slice YA yn yc, .int .i64 yw, .int .i64 (ys : Int)]
    have hU12 := (Upd.refl Nob w11).alloc (.cells #[.bool yo.isSome, .slice YA yn yc, .int .i64 yw, .int .i64 (ys : Int)] 52)
    have HCZ := hideP CZ
    have HU12 := hideP (HU11.out.trans hU12 (fun _ _ h => h))
    have HC12 := hideP (HC11.out.upd hU12 not_nob)
    have HCY12 := hideP (HCY11.out.upd hU12 not_nob)
    have HY12 := hideP (HY11.out.keep (IntKeep.of hU12 (fun _ _ => not_nob)))
    have hyl := HCY11.out.lt
    clear CZ hU12 y0 y1 y2 y3
    generalize w11.alloc (.cells #[.bool yo.isSome, .slice YA yn yc, .int .i64 yw, .int .i64 (ys : Int)] 52) = w12 at *
    have hzy : yb ≠ w11.heap.size := by omega
    have hzl : w.heap.size ≤ w11.heap.size := HU11.out.size
    generalize w11.heap.size = zb at *
    obtain ⟨hyr, hyn, hyw⟩ := HY12.out.reads
    have HYR := hideP hyr
    clear hyr
    rcases HK4.out with ⟨rfl, rfl⟩ | ⟨i, rfl, hi, hyz⟩
    · have y0 : w12.cell? ⟨yb, 0, none⟩ = some (.bool false) := HCY12.out.cellv rfl
      have y1 : w12.cell? ⟨yb, 0 + 1, none⟩ = some (.slice YA yn yc) := HCY12.out.cellv rfl
      have y2 : w12.cell? ⟨yb, 0 + 2, none⟩ = some (.int .i64 yw) := HCY12.out.cellv rfl
      have z0 : w12.cell? ⟨zb, 0, none⟩ = some (.bool false) := HCZ.out.cellv rfl
      have z1 : w12.cell? ⟨zb, 0 + 1, none⟩ = some (.slice YA yn yc) := HCZ.out.cellv rfl
      have z2 : w12.cell? ⟨zb, 0 + 2, none⟩ = some (.int .i64 yw) := HCZ.out.cellv rfl
      go_wp2_with fail
      refine (same_any w12 _ _ YA YA yn yn yc yc _ _ HYR.out HYR.out (by omega)).mono ?_
      rintro e w13 ⟨he, q13, rfl⟩
      rw [decide_eq_true rfl] at he
      subst he
      have y0 : (w12.drewN q13).cell? ⟨yb, 0, none⟩ = some (.bool false) := HCY12.out.cellv rfl
      have y2 : (w12.drewN q13).cell? ⟨yb, 0 + 2, none⟩ = some (.int .i64 yw) := HCY12.out.cellv rfl
      have z0 : (w12.drewN q13).cell? ⟨zb, 0, none⟩ = some (.bool false) := HCZ.out.cellv rfl
      have z2 : (w12.drewN q13).cell? ⟨zb, 0 + 2, none⟩ = some (.int .i64 yw) := HCZ.out.cellv rfl
      go_wp2_with fail
      go_ret
      exact ⟨rfl, HU12.out.drewN _⟩
    · have e0 : w12.cell? ⟨b0, 0, none⟩ = some (.slice A is.length c) := HC12.out.cellv rfl
      have e1 : w12.cell? ⟨b0, 0 + 1, none⟩ = some (.int .i64 start) := HC12.out.cellv rfl
      have e2 : w12.cell? ⟨b0, 0 + 2, none⟩ = some (.int .i64 caps) := HC12.out.cellv rfl
      have HYZ := hideP hyz
      clear hyz
      go_wp2_with fail
      refine (ref_run w12 _ A is.length c is start caps T text.length tc text (i : Int) false (H.out.upd HU12.out (fun _ _ => not_nob)) hs hc hn (HT.out.upd HU12.out (fun _ _ => not_nob)) HNI.out).mono ?_
      rw [HAN.out i false hi]
      rintro e w13 ⟨ZA, zn, zc, zw, rfl, hZ13, hU13⟩
      simp only at hZ13
      generalize hz : (runF is start.toNat caps.toNat text i false).1 = zo at *
      generalize hzs : (runF is start.toNat caps.toNat text i false).2 = zs at *
      clear hz hzs
      obtain rfl := HYZ.out
      have HYRk := hideP (HY12.out.keep (IntKeep.of hU13 (fun _ _ => not_nob)))
      have HCY13 := hideP (HCY12.out.upd hU13 not_nob)
      have HCZ13 := hideP (HCZ.out.upd hU13 not_nob)
      have HU13 := hideP (HU12.out.trans hU13 (fun _ _ h => h))
      have HZ13 := hideP hZ13
      clear hU13 hZ13
      have p0 : w13.frozen? ⟨zb, 0, none⟩ = false := HCZ13.out.frozen 0
      have p1 : w13.frozen? ⟨zb, 0 + 1, none⟩ = false := HCZ13.out.frozen 1
      have p2 : w13.frozen? ⟨zb, 0 + 2, none⟩ = false := HCZ13.out.frozen 2
      have p3 : w13.frozen? ⟨zb, 0 + 3, none⟩ = false := HCZ13.out.frozen 3
      have z0 : w13.cell? ⟨zb, 0, none⟩ = some (.bool yo.isSome) := HCZ13.out.cellv rfl
      have z1 : w13.cell? ⟨zb, 0 + 1, none⟩ = some (.slice YA yn yc) := HCZ13.out.cellv rfl
      have z2 : w13.cell? ⟨zb, 0 + 2, none⟩ = some (.int .i64 yw) := HCZ13.out.cellv rfl
      have z3 : w13.cell? ⟨zb, 0 + 3, none⟩ = some (.int .i64 (ys : Int)) := HCZ13.out.cellv rfl
      have hCS := (((HCZ13.out.set_ 0 (.bool yo.isSome)).set_ (0 + 1) (.slice ZA zn zc)).set_ (0 + 2) (.int .i64 zw)).set_ (0 + 3) (.int .i64 (zs : Int))
      have hUS : Upd (fun k => k = zb) w13 ((((w13.setCell ⟨zb, 0, none⟩ (.bool yo.isSome)).setCell ⟨zb, 0 + 1, none⟩ (.slice ZA zn zc)).setCell ⟨zb, 0 + 2, none⟩ (.int .i64 zw)).setCell ⟨zb, 0 + 3, none⟩ (.int .i64 (zs : Int))) :=
        ((((Upd.refl (fun k => k = zb) w13).setCell ⟨zb, 0, none⟩ _ (fun _ => rfl)).setCell ⟨zb, 0 + 1, none⟩ _ (fun _ => rfl)).setCell ⟨zb, 0 + 2, none⟩ _ (fun _ => rfl)).setCell ⟨zb, 0 + 3, none⟩ _ (fun _ => rfl)
      have hnot : ∀ k, IntB w13 k → ¬ k = zb := by
        rintro k ⟨cs, fr, hk⟩ rfl
        have hC := HCZ13.out
        unfold Cells at hC
        rw [hC] at hk
        injection hk with hk
        injection hk with _ hk
        revert hk
        decide
      have HYS := hideP (HYRk.out.keep (IntKeep.of hUS hnot))
      have HZS := hideP (HZ13.out.keep (IntKeep.of hUS hnot))
      have HCYS := hideP (HCY13.out.upd hUS hzy)
      have HCZS := hideP hCS
      have HUS := hideP (HU13.out.trans hUS (fun k hk e => absurd hk (by omega)))
      clear hCS hUS hnot
      go_upto_region 18 with fail
      generalize (((w13.setCell ⟨zb, 0, none⟩ (.bool yo.isSome)).setCell ⟨zb, 0 + 1, none⟩ (.slice ZA zn zc)).setCell ⟨zb, 0 + 2, none⟩ (.int .i64 zw)).setCell ⟨zb, 0 + 3, none⟩ (.int .i64 (zs : Int)) = w14 at *
      obtain ⟨gr, -, -⟩ := HYS.out.reads
      obtain ⟨hr, hrn, hrw⟩ := HZS.out.reads
      have hww : yw = zw := hyw.trans hrw.symm
      subst hww
      have GR := hideP gr
      have HR := hideP hr
      clear gr hr p0 p1 p2 p3 z0 z1 z2 z3
      have y1 : w14.cell? ⟨yb, 0 + 1, none⟩ = some (.slice YA yn yc) := HCYS.out.cellv rfl
      have z1 : w14.cell? ⟨zb, 0 + 1, none⟩ = some (.slice ZA zn zc) := HCZS.out.cellv rfl
      go_wp2_with fail
      refine (same_any w14 _ _ YA ZA yn zn yc zc _ _ GR.out HR.out (by omega)).mono ?_
      rintro e w15 ⟨he, q15, rfl⟩
      rw [decide_eq_true rfl] at he
      subst he
      have y0 : (w14.drewN q15).cell? ⟨yb, 0, none⟩ = some (.bool yo.isSome) := HCYS.out.cellv rfl
      have y2 : (w14.drewN q15).cell? ⟨yb, 0 + 2, none⟩ = some (.int .i64 yw) := HCYS.out.cellv rfl
      have z0 : (w14.drewN q15).cell? ⟨zb, 0, none⟩ = some (.bool yo.isSome) := HCZS.out.cellv rfl
      have z2 : (w14.drewN q15).cell? ⟨zb, 0 + 2, none⟩ = some (.int .i64 yw) := HCZS.out.cellv rfl
      generalize yo.isSome = yok at *
      rcases yok with _ | _
      · go_wp2_with fail
        go_ret
        exact ⟨rfl, HUS.out.drewN _⟩
      · go_wp2_with fail
        go_ret
        exact ⟨rfl, HUS.out.drewN _⟩
end Go.Proofs.Ytebbnjbgmcdbcaa
