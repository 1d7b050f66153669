/-
  The walks of the reference's word, At.
-/
import Derived.Test.YtmcagnahpgjilaaFlip
namespace Go.Proofs.Ytmcagnahpgjilaa
open Go.RowKit
set_option linter.unusedVariables false

theorem refWord_yes (x : Int) (w : World) (h : wordB x = true) (hx : In64 x) : Calls Try.prog 18 #[.int .i64 x] w fun e w' => e = .returned (.bool true) ∧ w = w' := by
  have h' : 97 ≤ x ∧ x ≤ 122 ∨ 65 ≤ x ∧ x ≤ 90 ∨ 48 ≤ x ∧ x ≤ 57 ∨ x = 95 := by simpa [wordB] using h
  clear h
  obtain ⟨hx1, hx2⟩ := hx
  rcases h' with ⟨h1, h2⟩ | ⟨h1, h2⟩ | ⟨h1, h2⟩ | rfl
  all_goals
    go_enter Try.func18, Try.ntmps18
    go_wp2
    go_ret
    exact ⟨rfl, rfl⟩
theorem refWord_no (x : Int) (w : World) (h : wordB x = false) (hx : In64 x) : Calls Try.prog 18 #[.int .i64 x] w fun e w' => e = .returned (.bool false) ∧ w = w' := by
  have h' : ¬ (97 ≤ x ∧ x ≤ 122 ∨ 65 ≤ x ∧ x ≤ 90 ∨ 48 ≤ x ∧ x ≤ 57 ∨ x = 95) := by simpa [wordB] using h
  clear h
  obtain ⟨hx1, hx2⟩ := hx
  rcases (by omega : x < 48 ∨ (57 < x ∧ x < 65) ∨ (90 < x ∧ x < 95) ∨ (95 < x ∧ x < 97) ∨ 122 < x) with h1 | ⟨h1, h2⟩ | ⟨h1, h2⟩ | ⟨h1, h2⟩ | h1
  all_goals
    clear h'
    have h9 : (x == 95) = false := by simp; omega
    go_enter Try.func18, Try.ntmps18
    go_wp2
    go_ret
    refine ⟨ret_bool ?_, rfl⟩
    first | rfl | (simp; omega)
theorem refWord (x : Int) (w : World) (hx : In64 x) : Calls Try.prog 18 #[.int .i64 x] w fun e w' => e = .returned (.bool (wordB x)) ∧ w = w' := by
  cases h : wordB x
  · exact refWord_no x w h hx
  · exact refWord_yes x w h hx

theorem part6 (xs : List Int) (i : Nat) : part xs i 6 = bitv (firstB i) 1 + bitv (beginB xs i) 4 + (bitv (lastB xs i) 2 + bitv (endB xs i) 8) + (if edgeB xs i = true then 16 else 32) := by
  have h : ∀ b : Bool, bitv b 16 + bitv (!b) 32 = if b = true then 16 else 32 := by intro b; cases b <;> rfl
  have e : part xs i 6 = ((((((0 + bitv (firstB i) 1) + bitv (lastB xs i) 2) + bitv (beginB xs i) 4) + bitv (endB xs i) 8) + bitv (edgeB xs i) 16) + bitv (!edgeB xs i) 32) := rfl
  rw [e, ← h]
  omega
theorem bitv_bd (b : Bool) (v : Int) (hv : 0 ≤ v) : 0 ≤ bitv b v ∧ bitv b v ≤ v := by unfold bitv; split <;> omega

set_option maxHeartbeats 2000000 in
theorem refAt_in (w : World) (S : Nat → Prop) (A : Option Addr) (n c i : Nat) (xs : List Int) (hx : TextR w S A n xs) (hi : i ≤ n) :
    Calls Try.prog 12 #[.slice A n c, .int .i64 (i : Int)] w fun e w' => e = .returned (.int .i64 (part xs i 6)) ∧ w = w' := by
  have hm := hx.n
  have hl := hx.len
  go_enter Try.func12, Try.ntmps12
  go_upto_if 17 with fail
  go_cut [5, 6] (fun v5 v6 wc => w = wc ∧ v5 = .int .i64 (bitv (firstB i) 1 + bitv (beginB xs i) 4) ∧ v6 = .bool (aheadB xs i))
  case first =>
    by_cases h0 : i = 0
    · subst h0
      go_wp2_with fail
      go_meet
      exact ⟨rfl, rfl, rfl⟩
    · obtain ⟨j, rfl⟩ : ∃ j, i = j + 1 := ⟨i - 1, by omega⟩
      have hq : firstB (j + 1) = false := by simp [firstB]
      obtain ⟨ad, x, rfl, hxk, hxi, hxc⟩ := hx.at_ (k := j) (by omega)
      have ha : aheadB xs (j + 1) = wordB x := by simp [aheadB, hxk]
      have hc := hxc w (Upd.refl _ _)
      have hne : (((j : Int) + 1) == 0) = false := by simp; omega
      have HA := hide ha
      have HQ := hide hq
      have HX := hide hxk
      clear h0 ha hq hxk hxc hx
      by_cases h10 : x = 10
      · have hb : beginB xs (j + 1) = true := by unfold beginB; simp [HX.out, h10]
        have HB := hide hb
        clear hb
        subst h10
        go_wp2_with (go_at_call 18; refine (refWord 10 w hxi).mono ?_; rintro e w' ⟨rfl, rfl⟩)
        go_meet
        exact ⟨rfl, by rw [HQ.out, HB.out]; rfl, by rw [HA.out]⟩
      · have hb : beginB xs (j + 1) = false := by unfold beginB; simp [HX.out, h10]
        have HB := hide hb
        clear hb
        have h10' : (x == 10) = false := by simpa using h10
        go_wp2_with (go_at_call 18; refine (refWord x w hxi).mono ?_; rintro e w' ⟨rfl, rfl⟩)
        go_meet
        exact ⟨rfl, by rw [HQ.out, HB.out]; rfl, by rw [HA.out]⟩
  case rest =>
    obtain ⟨rfl, rfl, rfl⟩ := hcut
    have b1 := bitv_bd (firstB i) 1 (by omega)
    have b2 := bitv_bd (beginB xs i) 4 (by omega)
    generalize hs1 : bitv (firstB i) 1 + bitv (beginB xs i) 4 = s1
    have HS1 := hide hs1
    have b3 : 0 ≤ s1 ∧ s1 ≤ 5 := by omega
    clear hs1 b1 b2
    go_upto_if 38 with fail
    go_cut [5, 7] (fun v5 v7 wc => w = wc ∧ v5 = .int .i64 (s1 + (bitv (lastB xs i) 2 + bitv (endB xs i) 8)) ∧ v7 = .bool (behindB xs i))
    case first =>
      by_cases h0 : i = n
      · have hq : lastB xs i = true := by simp [lastB, hl, h0]
        have he : endB xs i = true := by simp [endB, hl, h0]
        have hb : behindB xs i = false := by
          have : xs[i]? = none := List.getElem?_eq_none (by omega)
          simp [behindB, this]
        have HQ := hide hq
        have HE := hide he
        have HB := hide hb
        clear hq he hb hx
        subst h0
        go_wp2_with fail
        go_meet
        exact ⟨rfl, by rw [HQ.out, HE.out]; simp [bitv]; omega, by rw [HB.out]⟩
      · have hq : lastB xs i = false := by simp [lastB, hl, h0]
        obtain ⟨ad, x, rfl, hxk, hxi, hxc⟩ := hx.at_ (k := i) (by omega)
        have ha : behindB xs i = wordB x := by simp [behindB, hxk]
        have hc := hxc w (Upd.refl _ _)
        have hne : ((i : Int) == (n : Int)) = false := by simp; omega
        have HA := hide ha
        have HQ := hide hq
        have HX := hide hxk
        clear ha hq hxk hxc hx
        by_cases h10 : x = 10
        · have hb : endB xs i = true := by unfold endB; simp [HX.out, h10]
          have HB := hide hb
          clear hb
          subst h10
          go_wp2_with (go_at_call 18; refine (refWord 10 w hxi).mono ?_; rintro e w' ⟨rfl, rfl⟩)
          go_meet
          exact ⟨rfl, by rw [HQ.out, HB.out]; simp [bitv], by rw [HA.out]⟩
        · have hb : endB xs i = false := by unfold endB; simp [HX.out, h10, hl, h0]
          have HB := hide hb
          clear hb
          have h10' : (x == 10) = false := by simpa using h10
          go_wp2_with (go_at_call 18; refine (refWord x w hxi).mono ?_; rintro e w' ⟨rfl, rfl⟩)
          go_meet
          exact ⟨rfl, by rw [HQ.out, HB.out]; simp [bitv], by rw [HA.out]⟩
    case rest =>
      obtain ⟨rfl, rfl, rfl⟩ := hcut
      have b1 := bitv_bd (lastB xs i) 2 (by omega)
      have b2 := bitv_bd (endB xs i) 8 (by omega)
      have he : edgeB xs i = (aheadB xs i != behindB xs i) := rfl
      have hp := part6 xs i
      rw [HS1.out] at hp
      generalize hs2 : bitv (lastB xs i) 2 + bitv (endB xs i) 8 = s2 at *
      rw [he] at hp
      have HP := hide hp
      have b4 : 0 ≤ s2 ∧ s2 ≤ 10 := by omega
      clear hs2 b1 b2 he hp hx
      generalize aheadB xs i = a at *
      generalize behindB xs i = b at *
      cases a <;> cases b
      all_goals
        go_wp2_with fail
        go_ret
        exact ⟨ret_int (by rw [HP.out]; simp; try omega), rfl⟩
end Go.Proofs.Ytmcagnahpgjilaa
