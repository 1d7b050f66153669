/-
  RfRight, put together.
-/
import Derived.Test.YtlaofcgllchedaaZ02TreeP

/-
  The walks of heronref01.Domain, Right, heronref09.may (printed by gen_refmay.py).
-/
namespace Go.Proofs.Ytlaofcgllchedaa
open Go.RowKit
set_option linter.unusedVariables false

theorem drew_two (w : World) (a b : Nat) : ∃ q, (w.drewN a).drewN b = w.drewN q := ⟨_, World.drewN_drewN _ _ _⟩
theorem add_zero_R (a : Addr) : a.add 0 = a := by simp [Addr.add]
theorem drew_same {w w' : World} (h : w = w') : ∃ q, w' = w.drewN q := ⟨0, h.symm⟩

set_option maxHeartbeats 400000 in
theorem ref_domain (w : World) (r : Int) (hr : In64 r) : Calls Try.prog 53 #[.int .i64 r] w fun e w' => e = .returned (.bool (domB r)) ∧ w = w' := by
  have h1 := hr.1
  have h2 := hr.2
  rcases (by omega : r < 0 ∨ 1114111 < r ∨ (0 ≤ r ∧ r < 55296) ∨ (55296 ≤ r ∧ r ≤ 57343) ∨ (57343 < r ∧ r ≤ 1114111)) with h | h | ⟨h, h'⟩ | ⟨h, h'⟩ | ⟨h, h'⟩
  · rw [show domB r = false from decide_eq_false (by omega)]
    have t1 : decide (r ≤ 55295) = decide (r < 55296) := by apply decide_eq_decide.2; omega
    have t2 : decide (57344 ≤ r) = decide (57343 < r) := by apply decide_eq_decide.2; omega
    go_enter Try.func53, Try.ntmps53
    go_wp2
    go_ret
    exact ⟨congrArg Ending.returned (congrArg Value.bool (by first | rfl | (simp <;> omega))), rfl⟩
  · rw [show domB r = false from decide_eq_false (by omega)]
    have t1 : decide (r ≤ 55295) = decide (r < 55296) := by apply decide_eq_decide.2; omega
    have t2 : decide (57344 ≤ r) = decide (57343 < r) := by apply decide_eq_decide.2; omega
    go_enter Try.func53, Try.ntmps53
    go_wp2
    go_ret
    exact ⟨congrArg Ending.returned (congrArg Value.bool (by first | rfl | (simp <;> omega))), rfl⟩
  · rw [show domB r = true from decide_eq_true (by omega)]
    have t1 : decide (r ≤ 55295) = decide (r < 55296) := by apply decide_eq_decide.2; omega
    have t2 : decide (57344 ≤ r) = decide (57343 < r) := by apply decide_eq_decide.2; omega
    go_enter Try.func53, Try.ntmps53
    go_wp2
    go_ret
    exact ⟨congrArg Ending.returned (congrArg Value.bool (by first | rfl | (simp <;> omega))), rfl⟩
  · rw [show domB r = false from decide_eq_false (by omega)]
    have t1 : decide (r ≤ 55295) = decide (r < 55296) := by apply decide_eq_decide.2; omega
    have t2 : decide (57344 ≤ r) = decide (57343 < r) := by apply decide_eq_decide.2; omega
    go_enter Try.func53, Try.ntmps53
    go_wp2
    go_ret
    exact ⟨congrArg Ending.returned (congrArg Value.bool (by first | rfl | (simp <;> omega))), rfl⟩
  · rw [show domB r = true from decide_eq_true (by omega)]
    have t1 : decide (r ≤ 55295) = decide (r < 55296) := by apply decide_eq_decide.2; omega
    have t2 : decide (57344 ≤ r) = decide (57343 < r) := by apply decide_eq_decide.2; omega
    go_enter Try.func53, Try.ntmps53
    go_wp2
    go_ret
    exact ⟨congrArg Ending.returned (congrArg Value.bool (by first | rfl | (simp <;> omega))), rfl⟩

set_option maxRecDepth 100000 in
set_option maxHeartbeats 8000000 in
theorem ref_right (w : World) (S : Nat → Prop) (A : Option Addr) (n c : Nat) (rs : List (Int × Int)) (h : RangesR w S A n rs) :
    Calls Try.prog 32 #[.slice A n c] w fun e w' => e = .returned (.bool (rightB rs)) ∧ ∃ q, w' = w.drewN q := by
  have hn := h.n
  obtain rfl : rs.length = n := h.len
  by_cases hbig : 5000 < rs.length
  · have hv : rightB rs = false := by unfold rightB; rw [decide_eq_false (by omega)]; rfl
    rw [hv]; clear hv
    go_enter Try.func32, Try.ntmps32
    go_wp2
    go_ret
    exact ⟨rfl, 0, rfl⟩
  have hv : rightB rs = rightFrom (prevOf rs 0) (rs.drop 0) := by unfold rightB; rw [decide_eq_true (by omega)]; rfl
  have H := hideP h
  have HV := hideP hv
  clear h hv
  go_enter Try.func32, Try.ntmps32
  go_wp2_with fail
  go_loopg [3] rs.length (fun gk v3 wr => ∃ k q : Nat, k + gk = rs.length ∧ v3 = .int .i64 (k : Int) ∧ rightB rs = rightFrom (prevOf rs k) (rs.drop k) ∧ (∀ y, prevOf rs k = some y → 0 ≤ y.2 ∧ y.2 ≤ 1114111) ∧ wr = w.drewN q)
  case atStart => exact ⟨0, 0, by omega, rfl, HV.out, fun y h => (by cases h), rfl⟩
  case round =>
    obtain ⟨k, q, hk, rfl, hq, hpv, rfl⟩ := hrel
    have HQ := hideP hq
    have HPV := hideP hpv
    clear hq hpv
    by_cases hlt : k < rs.length
    · obtain ⟨ad, x, g, o, rfl, hx, i1, i2, hadd, c0, c1, -⟩ := H.out.at1 hlt
      have HX := hideP hx
      clear hx
      obtain ⟨lo, hi⟩ := x
      simp only at c0 c1 i1 i2
      have hstep := rightFrom_drop HX.out
      have b1 := i1.1
      have b2 := i1.2
      have b3 := i2.1
      have b4 := i2.2
      have kr : (k : Int) < (rs.length : Int) := by omega
      have hprev : ∀ j, k = j + 1 → ∃ y g' o', rs[j]? = some y ∧ ad.add (j * 2) = ⟨g', o', none⟩ ∧ w.cell? ⟨g', o' + 1, none⟩ = some (.int .i64 y.2) := by
        rintro j rfl
        obtain ⟨ad', y, g', o', e1, hy, _, h2, hadd', _, c1', _⟩ := H.out.at1 (k := j) (by omega)
        injection e1 with e1
        subst e1
        exact ⟨y, g', o', hy, hadd', c1'⟩
      have HP := hideP hprev
      clear hprev
      rcases hlo : domB lo with _ | _
      · have hv : rightB rs = false := by rw [HQ.out, hstep]; simp [rangeB, hlo]
        rcases hhi : domB hi with _ | _
        · skip
          have HV1 := hideP hv
          clear hv hstep
          go_wp2_with (go_at_call 53; refine (ref_domain _ _ (by assumption)).mono ?_; rintro e w1 ⟨he, rfl⟩; simp only [hlo, hhi] at he; subst he)
          go_quiet (fail)
          go_wp2_with fail
          go_ret
          exact ⟨congrArg Ending.returned (congrArg Value.bool HV1.out.symm), by first | exact ⟨_, rfl⟩ | exact drew_two _ _ _⟩
        · skip
          have HV1 := hideP hv
          clear hv hstep
          go_wp2_with (go_at_call 53; refine (ref_domain _ _ (by assumption)).mono ?_; rintro e w1 ⟨he, rfl⟩; simp only [hlo, hhi] at he; subst he)
          go_quiet (fail)
          go_wp2_with fail
          go_ret
          exact ⟨congrArg Ending.returned (congrArg Value.bool HV1.out.symm), by first | exact ⟨_, rfl⟩ | exact drew_two _ _ _⟩
      rcases hhi : domB hi with _ | _
      · have hv : rightB rs = false := by rw [HQ.out, hstep]; simp [rangeB, hhi]
        have HV1 := hideP hv
        clear hv hstep
        go_wp2_with (go_at_call 53; refine (ref_domain _ _ (by assumption)).mono ?_; rintro e w1 ⟨he, rfl⟩; simp only [hlo, hhi] at he; subst he)
        go_quiet (fail)
        go_wp2_with fail
        go_ret
        exact ⟨congrArg Ending.returned (congrArg Value.bool HV1.out.symm), by first | exact ⟨_, rfl⟩ | exact drew_two _ _ _⟩
      by_cases hle : hi < lo
      · have hv : rightB rs = false := by rw [HQ.out, hstep]; simp [rangeB]; omega
        have HV1 := hideP hv
        clear hv hstep
        go_wp2_with (go_at_call 53; refine (ref_domain _ _ (by assumption)).mono ?_; rintro e w1 ⟨he, rfl⟩; simp only [hlo, hhi] at he; subst he)
        go_quiet (fail)
        go_wp2_with fail
        go_ret
        exact ⟨congrArg Ending.returned (congrArg Value.bool HV1.out.symm), by first | exact ⟨_, rfl⟩ | exact drew_two _ _ _⟩
      have hhb : 0 ≤ hi ∧ hi ≤ 1114111 := by
        have := of_decide_eq_true hhi
        omega
      by_cases hst : lo < 55296 ∧ 57343 < hi
      · have hv : rightB rs = false := by rw [HQ.out, hstep]; simp [rangeB]; omega
        have hlo2 : lo ≤ 55295 := by omega
        have hhi2 : 57344 ≤ hi := by omega
        have hleb : decide (hi < lo) = false := decide_eq_false hle
        have HV1 := hideP hv
        clear hv hstep
        go_wp2_with (go_at_call 53; refine (ref_domain _ _ (by assumption)).mono ?_; rintro e w1 ⟨he, rfl⟩; simp only [hlo, hhi] at he; subst he)
        go_quiet (fail)
        go_wp2_with fail
        go_ret
        exact ⟨congrArg Ending.returned (congrArg Value.bool HV1.out.symm), by first | exact ⟨_, rfl⟩ | exact drew_two _ _ _⟩
      have hleb : decide (hi < lo) = false := decide_eq_false hle
      have HST := hideP hstep
      clear hstep
      go_upto_region 8 with (go_at_call 53; refine (ref_domain _ _ (by assumption)).mono ?_; rintro e w1 ⟨he, rfl⟩; simp only [hlo, hhi] at he; subst he)
      go_cut [61] from 27 to 60 (fun v61 wc => v61 = .bool false ∧ ∃ q, wc = w.drewN q)
      case first =>
        by_cases hlo1 : lo < 55296
        · have hlo2 : lo ≤ 55295 := by omega
          have hhi2 : decide (57344 ≤ hi) = false := decide_eq_false (by omega)
          go_quiet (fail)
          go_wp2_with fail
          go_meet
          exact ⟨rfl, by first | exact ⟨_, rfl⟩ | exact drew_two _ _ _⟩
        · have hlo2 : decide (lo ≤ 55295) = false := decide_eq_false (by omega)
          go_quiet (fail)
          go_wp2_with fail
          go_meet
          exact ⟨rfl, by first | exact ⟨_, rfl⟩ | exact drew_two _ _ _⟩
      case rest =>
        obtain ⟨rfl, q1, rfl⟩ := hcut
        have hstep := HST.out
        by_cases hk0 : k = 0
        · subst hk0
          have hv : rightB rs = rightFrom (prevOf rs (0 + 1)) (rs.drop (0 + 1)) := by
            rw [HQ.out, hstep, show rangeB (prevOf rs 0) (lo, hi) = true from ?_, Bool.true_and]
            simp [rangeB, gapB, prevOf, hlo, hhi]
            omega
          have hadd0 : ad = ⟨g, o, none⟩ := by rw [Nat.zero_mul, add_zero_R] at hadd; exact hadd
          subst hadd0
          clear hadd
          have HV1 := hideP hv
          clear hv hstep
          go_wp2_with fail
          go_quiet (fail)
          go_wp2_with fail
          go_roundg (rs.length - (0 + 1))
          case measure => omega
          case rel => exact ⟨0 + 1, _, by omega, by go_num, HV1.out, fun y h => (by rw [show prevOf rs (0 + 1) = some (lo, hi) from HX.out] at h; injection h with h; subst h; exact hhb), by first | rfl | exact World.drewN_drewN _ _ _⟩
        · obtain ⟨j, hj⟩ : ∃ j, k = j + 1 := ⟨k - 1, by omega⟩
          obtain ⟨y, g', o', hy, hadd', c1'⟩ := HP.out j hj
          have hyb := HPV.out y (by rw [hj]; exact hy)
          have y1 := hyb.1
          have y2 := hyb.2
          have hkj : (k : Int) - 1 = (j : Int) := by omega
          have hjl : (j : Int) < (rs.length : Int) := by omega
          have hwj : IntKind.i64.wrap (j : Int) = (j : Int) := by rw [IntKind.wrap_i64]; omega
          have hpk : prevOf rs k = some y := by rw [hj]; exact hy
          have hk1 : 0 < k := by omega
          have hodd : ¬ (lo = 57344 ∧ y.2 = 55295 ∧ lo < y.2 + 2) := by omega
          by_cases hgap : lo < y.2 + 2
          · have hv : rightB rs = false := by rw [HQ.out, hstep, hpk]; simp [rangeB, gapB]; omega
            by_cases h7 : lo = 57344
            · have h7b : (lo == 57344) = true := by simpa using h7
              have h8b : (y.2 == 55295) = false := beq_eq_false_iff_ne.2 (by omega)
              clear hj hy hyb hpk hodd h7
              have HV1 := hideP hv
              clear hv hstep
              go_wp2_with fail
              go_quiet (fail)
              go_wp2_with fail
              go_ret
              exact ⟨congrArg Ending.returned (congrArg Value.bool HV1.out.symm), by first | exact ⟨_, rfl⟩ | exact drew_two _ _ _⟩
            · have h7b : (lo == 57344) = false := by simpa using h7
              clear hj hy hyb hpk hodd
              have HV1 := hideP hv
              clear hv hstep
              go_wp2_with fail
              go_quiet (fail)
              go_wp2_with fail
              go_ret
              exact ⟨congrArg Ending.returned (congrArg Value.bool HV1.out.symm), by first | exact ⟨_, rfl⟩ | exact drew_two _ _ _⟩
          · have hv : rightB rs = rightFrom (prevOf rs (k + 1)) (rs.drop (k + 1)) := by
              rw [HQ.out, hstep, show rangeB (prevOf rs k) (lo, hi) = true from ?_, Bool.true_and]
              rw [hpk]
              simp [rangeB, gapB, hlo, hhi]
              omega
            clear hj hy hyb hpk hodd
            have hgb : decide (lo < y.2 + 2) = false := decide_eq_false hgap
            have HV1 := hideP hv
            clear hv hstep
            go_wp2_with fail
            go_quiet (fail)
            go_wp2_with fail
            go_roundg (rs.length - (k + 1))
            case measure => omega
            case rel => exact ⟨k + 1, _, by omega, by go_num, HV1.out, fun y h => (by rw [show prevOf rs (k + 1) = some (lo, hi) from HX.out] at h; injection h with h; subst h; exact hhb), by first | rfl | exact World.drewN_drewN _ _ _⟩
    · have hkn : k = rs.length := by omega
      have hv : rightB rs = true := by rw [HQ.out, hkn, List.drop_length]; rfl
      have HV1 := hideP hv
      clear hk hv
      subst hkn
      go_wp2
      go_ret
      exact ⟨congrArg Ending.returned (congrArg Value.bool HV1.out.symm), q, rfl⟩
end Go.Proofs.Ytlaofcgllchedaa
