/-
  The walk of heronlaw11.PikeSteps.
-/
import Derived.Test.YtnkefclbchpafaaSame
import Derived.Test.YtnkefclbchpafaaStepsP
namespace Go.Proofs.Ytnkefclbchpafaa
open Go.RowKit
set_option linter.unusedVariables false

theorem okB_yes {is : List PInst} {start caps : Int} {text : List Int} {a : Int} (h : okB is start caps text a = true) : checkB is start caps = true ∧ text.length ≤ 4194304 ∧ 0 ≤ a ∧ a ≤ text.length := by
  unfold okB at h
  rw [Bool.and_eq_true] at h
  exact ⟨h.1, of_decide_eq_true h.2⟩
theorem ansF_in {is : List PInst} {start caps : Int} {text : List Int} (hc : checkB is start caps = true) (hl : text.length ≤ 4194304) {i : Nat} (hi : i ≤ text.length) (b : Bool) : ansF is start caps text (i : Int) b = (runF is start.toNat caps.toNat text i b, 0) := by
  unfold ansF
  rw [if_neg (by omega), if_neg (by rw [hc]; exact Bool.noConfusion), if_neg (by omega)]
  rfl

set_option maxRecDepth 100000 in
set_option maxHeartbeats 8000000 in
theorem pikeSteps_any (w : World) (S : Nat → Prop) (A : Option Addr) (n c : Nat) (is : List PInst) (start caps : Int) (T : Option Addr) (tn tc : Nat) (text : List Int) (a : Int) (anchored : Bool)
    (h : InstsR w S A n is) (hs : In64 start) (hc : In64 caps) (hn : n ≤ 140737488355328) (ht : TextR w S T tn text) (ha : In64 a) :
    Calls Try.prog 6 #[.agg #[.slice A n c, .int .i64 start, .int .i64 caps], .agg #[.slice T tn tc, .int .i64 a, .bool anchored]] w fun e w' => e = .returned (.bool true) ∧ Upd Nob w w' := by
  obtain rfl : is.length = n := h.len
  obtain rfl : text.length = tn := ht.len
  have hsz : (w.alloc (.cells #[.slice A is.length c, .int .i64 start, .int .i64 caps] 27)).heap.size = w.heap.size + 1 := by simp
  have C0 := (Cells.new w 27 #[.slice A is.length c, .int .i64 start, .int .i64 caps]).alloc (.cells #[.slice T text.length tc, .int .i64 a, .bool anchored] 30)
  have C1 := Cells.new (w.alloc (.cells #[.slice A is.length c, .int .i64 start, .int .i64 caps] 27)) 30 #[.slice T text.length tc, .int .i64 a, .bool anchored]
  rw [hsz] at C1
  have hU := ((Upd.refl Nob w).alloc (.cells #[.slice A is.length c, .int .i64 start, .int .i64 caps] 27)).alloc (.cells #[.slice T text.length tc, .int .i64 a, .bool anchored] 30)
  have H := hideP h
  have HT := hideP ht
  have h64 := ht.n
  clear h ht
  go_enter Try.func6, Try.ntmps6
  go_upto_region 1 with fail
  generalize (w.alloc (.cells #[.slice A is.length c, .int .i64 start, .int .i64 caps] 27)).alloc (.cells #[.slice T text.length tc, .int .i64 a, .bool anchored] 30) = w1 at *
  generalize w.heap.size = pb at C0 C1
  have HC0 := hideP C0
  have HC1 := hideP C1
  have HU1 := hideP hU
  clear C0 C1 hU hsz
  go_wp2_with fail
  refine (awake_any w1).mono ?_
  rintro e w2 ⟨rfl, hU2⟩
  have HC0 := hideP (HC0.out.upd hU2 not_nob)
  have HC1 := hideP (HC1.out.upd hU2 not_nob)
  have HU2 := hideP (HU1.out.trans hU2 (fun _ _ h => h))
  have e0 : w2.cell? ⟨pb, 0, none⟩ = some (.slice A is.length c) := HC0.out.cellv rfl
  have e1 : w2.cell? ⟨pb, 0 + 1, none⟩ = some (.int .i64 start) := HC0.out.cellv rfl
  have e2 : w2.cell? ⟨pb, 0 + 2, none⟩ = some (.int .i64 caps) := HC0.out.cellv rfl
  have x0 : w2.cell? ⟨pb + 1, 0, none⟩ = some (.slice T text.length tc) := HC1.out.cellv rfl
  have x1 : w2.cell? ⟨pb + 1, 0 + 1, none⟩ = some (.int .i64 a) := HC1.out.cellv rfl
  have x2 : w2.cell? ⟨pb + 1, 0 + 2, none⟩ = some (.bool anchored) := HC1.out.cellv rfl
  clear hU2
  go_wp2_with fail
  refine (may_law w2 S A is.length c is start caps T text.length tc text a anchored (H.out.upd HU2.out (fun _ _ => not_nob)) hs hc hn (HT.out.upd HU2.out (fun _ _ => not_nob)) ha).mono ?_
  rintro e w3 ⟨rfl, hU3⟩
  have HC0 := hideP (HC0.out.upd hU3 not_nob)
  have HC1 := hideP (HC1.out.upd hU3 not_nob)
  have HU3 := hideP (HU2.out.trans hU3 (fun _ _ h => h))
  have e0 : w3.cell? ⟨pb, 0, none⟩ = some (.slice A is.length c) := HC0.out.cellv rfl
  have e1 : w3.cell? ⟨pb, 0 + 1, none⟩ = some (.int .i64 start) := HC0.out.cellv rfl
  have e2 : w3.cell? ⟨pb, 0 + 2, none⟩ = some (.int .i64 caps) := HC0.out.cellv rfl
  have x0 : w3.cell? ⟨pb + 1, 0, none⟩ = some (.slice T text.length tc) := HC1.out.cellv rfl
  have x1 : w3.cell? ⟨pb + 1, 0 + 1, none⟩ = some (.int .i64 a) := HC1.out.cellv rfl
  clear hU3
  generalize hok : okB is start caps text a = ok
  have HOK := hideP hok
  clear hok
  go_wp2_with fail
  refine (pk_run w3 S A is.length c is start caps T text.length tc text a false (H.out.upd HU3.out (fun _ _ => not_nob)) hs hc hn (HT.out.upd HU3.out (fun _ _ => not_nob)) ha).mono ?_
  generalize hans : ansF is start caps text a false = ans
  obtain ⟨⟨fo, steps⟩, er⟩ := ans
  have HANS := hideP hans
  clear hans
  rintro e w4 ⟨FA, fn, fc, rfl, rfl, -, ho4, hU4⟩
  have hrd := Reads.of_own ho4
  have CF := Cells.new w4 33 #[.bool fo.isSome, .slice FA (capsOf fo).length fc, .int .i64 (whOf fo), .int .i64 (steps : Int)]
  have hU5 := (Upd.refl Nob w4).alloc (.cells #[.bool fo.isSome, .slice FA (capsOf fo).length fc, .int .i64 (whOf fo), .int .i64 (steps : Int)] 33)
  have HF := hideP CF
  have HRD := hideP (hrd.upd hU5 (fun _ _ => not_nob))
  have HC0 := hideP ((HC0.out.upd hU4 not_nob).upd hU5 not_nob)
  have HC1 := hideP ((HC1.out.upd hU4 not_nob).upd hU5 not_nob)
  have HU5 := hideP ((HU3.out.trans hU4 (fun _ _ h => h)).trans hU5 (fun _ _ h => h))
  clear ho4 hU4 hU5 hrd CF e0 e1 e2 x0 x1 x2
  simp only
  go_upto_region 4 with fail
  have hfbl := HF.out.lt
  generalize w4.alloc (.cells #[.bool fo.isSome, .slice FA (capsOf fo).length fc, .int .i64 (whOf fo), .int .i64 (steps : Int)] 33) = w5 at *
  generalize w4.heap.size = fb at *
  have e0 : w5.cell? ⟨pb, 0, none⟩ = some (.slice A is.length c) := HC0.out.cellv rfl
  have e1 : w5.cell? ⟨pb, 0 + 1, none⟩ = some (.int .i64 start) := HC0.out.cellv rfl
  have e2 : w5.cell? ⟨pb, 0 + 2, none⟩ = some (.int .i64 caps) := HC0.out.cellv rfl
  have x0 : w5.cell? ⟨pb + 1, 0, none⟩ = some (.slice T text.length tc) := HC1.out.cellv rfl
  have x1 : w5.cell? ⟨pb + 1, 0 + 1, none⟩ = some (.int .i64 a) := HC1.out.cellv rfl
  have f0 : w5.cell? ⟨fb, 0, none⟩ = some (.bool fo.isSome) := HF.out.cellv rfl
  have f3 : w5.cell? ⟨fb, 0 + 3, none⟩ = some (.int .i64 (steps : Int)) := HF.out.cellv rfl
  rcases ok with _ | _
  · have her : er ≠ 0 := by
      have := okB_ans (b := false) HOK.out
      rw [HANS.out] at this
      exact this
    have her2 : (er != 0) = true := bne_iff_ne.2 her
    go_wp2_with fail
    go_ret
    exact ⟨rfl, HU5.out⟩
  obtain ⟨hck, hl4, ha0, ha1⟩ := okB_yes HOK.out
  obtain ⟨a0, rfl⟩ : ∃ k : Nat, a = (k : Int) := Int.eq_ofNat_of_zero_le ha0
  have hrun := HANS.out
  rw [ansF_in hck hl4 (by omega)] at hrun
  injection hrun with hrun her
  subst her
  by_cases hlong : (200 : Int) < (text.length : Int)
  · clear hrun hck
    go_wp2_with fail
    go_ret
    exact ⟨rfl, HU5.out⟩
  obtain ⟨⟨n1, n2, s0, s1, m0, m1⟩, hmay⟩ := vcheck hck
  have hst : start.toNat < is.length := by omega
  obtain ⟨hs1, hs2⟩ := run_steps (m := caps.toNat) (text := text) (i := a0) false hst (by omega)
  rw [hrun] at hs1 hs2
  simp only at hs1 hs2
  have hprod : is.length * (text.length - a0 + 1) ≤ 20000 * 201 := Nat.mul_le_mul (by omega) (by omega)
  have HR := hideP (inside_of hmay)
  have HRUN := hideP hrun
  have HCK := hideP hck
  clear hrun hck hmay
  generalize hP : is.length * (text.length - a0 + 1) = P at *
  have hPi : (is.length : Int) * ((text.length : Int) - (a0 : Int) + 1) = (P : Int) := by rw [← hP]; push_cast [Int.ofNat_sub (show a0 ≤ text.length by omega)]; rfl
  clear hP
  go_upto_region 7 with fail
  go_wp2_with fail
  clear e0 e1 e2 x0 x1 f0 f3 hPi hs1 hs2 hprod
  go_loopg [10, 11, 12, 13] (text.length + 1 - a0) (fun gk v10 v11 v12 v13 wr => ∃ i : Nat, i + gk = text.length + 1 ∧ a0 ≤ i ∧ v10 = .int .i64 (i : Int) ∧ Upd Nob w5 wr ∧ ∀ k, a0 ≤ k → k < i → ¬ Hits is text k start.toNat)
  case atStart => exact ⟨a0, by omega, Nat.le_refl _, rfl, Upd.refl _ _, fun k h1 h2 => absurd h1 (by omega)⟩
  case round =>
    obtain ⟨i, hi, hai, rfl, hUr, hno⟩ := hrel
    have HUr := hideP hUr
    have HNO := hideP hno
    have HFr := hideP (HF.out.upd hUr not_nob)
    have HC0r := hideP (HC0.out.upd hUr not_nob)
    have HC1r := hideP (HC1.out.upd hUr not_nob)
    have HUw := hideP (HU5.out.trans hUr (fun _ _ h => h))
    have HRDr := hideP (HRD.out.upd hUr (fun _ _ => not_nob))
    clear hUr hno
    have f0 : wr.cell? ⟨fb, 0, none⟩ = some (.bool fo.isSome) := HFr.out.cellv rfl
    have e0 : wr.cell? ⟨pb, 0, none⟩ = some (.slice A is.length c) := HC0r.out.cellv rfl
    have e1 : wr.cell? ⟨pb, 0 + 1, none⟩ = some (.int .i64 start) := HC0r.out.cellv rfl
    have e2 : wr.cell? ⟨pb, 0 + 2, none⟩ = some (.int .i64 caps) := HC0r.out.cellv rfl
    have x0 : wr.cell? ⟨pb + 1, 0, none⟩ = some (.slice T text.length tc) := HC1r.out.cellv rfl
    by_cases hlt : i ≤ text.length
    rotate_left
    · have g1 : ¬ (i : Int) ≤ (text.length : Int) := by omega
      have hfo : fo = none := by
        have h1 := run_none (m := caps.toNat) HR.out hst (by omega) (fun k h1 h2 => HNO.out k h1 (by omega))
        rw [HRUN.out] at h1
        exact h1
      have f0' : wr.cell? ⟨fb, 0, none⟩ = some (.bool false) := by rw [f0, hfo]; rfl
      clear f0 hfo
      go_wp2_with fail
      go_ret
      exact ⟨rfl, HUw.out⟩
    have g1 : (i : Int) ≤ (text.length : Int) := by omega
    have hIi : In64 (i : Int) := by unfold In64; omega
    go_wp2_with fail
    refine (pk_run wr S A is.length c is start caps T text.length tc text (i : Int) true (H.out.upd HUw.out (fun _ _ => not_nob)) hs hc hn (HT.out.upd HUw.out (fun _ _ => not_nob)) hIi).mono ?_
    rw [ansF_in HCK.out hl4 hlt]
    obtain ⟨t1, t2⟩ := run_steps (m := caps.toNat) (text := text) (i := i) true hst hlt
    have hiff := run_iff (text := text) (m := caps.toNat) HR.out hst hlt
    have hle := fun hh => run_least (text := text) (m := caps.toNat) HR.out hst hai hlt hh HNO.out
    rw [HRUN.out] at hle
    simp only at hle
    generalize hgr : runF is start.toNat caps.toNat text i true = gr at *
    obtain ⟨go_, gs⟩ := gr
    simp only at t1 t2 hiff hle
    have hprod : is.length * (text.length - i + 1) ≤ 20000 * 201 := Nat.mul_le_mul (by omega) (by omega)
    generalize hP : is.length * (text.length - i + 1) = P2 at *
    have hPi : (is.length : Int) * ((text.length : Int) - (i : Int) + 1) = (P2 : Int) := by rw [← hP]; push_cast [Int.ofNat_sub (show i ≤ text.length by omega)]; rfl
    have HLE := hideP hle
    have HIFF := hideP hiff
    clear hP hgr hle hiff
    rintro e w6 ⟨GA, gn, gc, rfl, rfl, hgn, ho6, hU6⟩
    have hrd := Reads.of_own ho6
    have CG := Cells.new w6 33 #[.bool go_.isSome, .slice GA (capsOf go_).length gc, .int .i64 (whOf go_), .int .i64 (gs : Int)]
    have hU7 := (Upd.refl Nob w6).alloc (.cells #[.bool go_.isSome, .slice GA (capsOf go_).length gc, .int .i64 (whOf go_), .int .i64 (gs : Int)] 33)
    have HG := hideP CG
    have HRDg := hideP (hrd.upd hU7 (fun _ _ => not_nob))
    have HFr := hideP ((HFr.out.upd hU6 not_nob).upd hU7 not_nob)
    have HC0r := hideP ((HC0r.out.upd hU6 not_nob).upd hU7 not_nob)
    have HRDr := hideP ((HRDr.out.upd hU6 (fun _ _ => not_nob)).upd hU7 (fun _ _ => not_nob))
    have HUw := hideP ((HUw.out.trans hU6 (fun _ _ h => h)).trans hU7 (fun _ _ h => h))
    have HUr := hideP ((HUr.out.trans hU6 (fun _ _ h => h)).trans hU7 (fun _ _ h => h))
    clear ho6 hU6 hU7 hrd CG e0 e1 e2 x0 f0
    simp only
    go_upto_region 13 with fail
    generalize w6.alloc (.cells #[.bool go_.isSome, .slice GA (capsOf go_).length gc, .int .i64 (whOf go_), .int .i64 (gs : Int)] 33) = w7 at *
    generalize w6.heap.size = gb at *
    have g3 : w7.cell? ⟨gb, 0 + 3, none⟩ = some (.int .i64 (gs : Int)) := HG.out.cellv rfl
    have e0 : w7.cell? ⟨pb, 0, none⟩ = some (.slice A is.length c) := HC0r.out.cellv rfl
    go_upto_region 15 with fail
    clear g3 e0 hPi t1 t2 hprod
    rcases go_ with _ | gv
    · have g0 : w7.cell? ⟨gb, 0, none⟩ = some (.bool false) := HG.out.cellv rfl
      have hnh : ¬ Hits is text i start.toNat := fun hh => by
        have := HIFF.out.2 hh
        cases this
      have HNH := hideP hnh
      clear hnh
      go_wp2_with fail
      go_roundg (text.length - i)
      case measure => omega
      case rel => exact ⟨i + 1, by omega, by omega, by go_num, HUr.out, fun k h1 h2 => if e : k = i then by rw [e]; exact HNH.out else HNO.out k h1 (by omega)⟩
    · have hfe : fo = some gv := HLE.out (HIFF.out.1 rfl)
      subst hfe
      have g0 : w7.cell? ⟨gb, 0, none⟩ = some (.bool true) := HG.out.cellv rfl
      have g1c : w7.cell? ⟨gb, 0 + 1, none⟩ = some (.slice GA (capsOf (some gv)).length gc) := HG.out.cellv rfl
      have f1c : w7.cell? ⟨fb, 0 + 1, none⟩ = some (.slice FA (capsOf (some gv)).length fc) := HFr.out.cellv rfl
      have hcl : (capsOf (some gv)).length ≤ 140737488355328 := Nat.le_trans hgn (by omega)
      go_wp2_with fail
      refine (same_any w7 _ _ FA GA _ _ fc gc _ _ HRDr.out HRDg.out hcl).mono ?_
      rintro e w8 ⟨he, q8, rfl⟩
      rw [decide_eq_true rfl] at he
      subst he
      have f0 : (w7.drewN q8).cell? ⟨fb, 0, none⟩ = some (.bool true) := HFr.out.cellv rfl
      have f2 : (w7.drewN q8).cell? ⟨fb, 0 + 2, none⟩ = some (.int .i64 (whOf (some gv))) := HFr.out.cellv rfl
      have g2 : (w7.drewN q8).cell? ⟨gb, 0 + 2, none⟩ = some (.int .i64 (whOf (some gv))) := HG.out.cellv rfl
      go_wp2_with fail
      go_ret
      exact ⟨rfl, HUw.out.drewN _⟩
end Go.Proofs.Ytnkefclbchpafaa
