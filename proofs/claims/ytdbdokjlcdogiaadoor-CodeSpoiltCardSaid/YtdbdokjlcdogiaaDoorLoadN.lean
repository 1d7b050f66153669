/-
  The walk of (*loader).num.
-/
import Derived.Test.YtdbdokjlcdogiaaDoorLoader
namespace Go.Proofs.YtdbdokjlcdogiaaDoor
open Go.RowKit
set_option linter.unusedVariables false

/-- a number out of at most f more bytes -/
def numF : Nat → Int → Int → Bool → List Int → Option (Int × List Int)
  | 0, _, _, _, _ => none
  | _ + 1, _, _, _, [] => none
  | f + 1, n, step, first, x :: r => if x < 128 then (if 0 < x ∨ first = true then some (n + x % 128 * step, r) else none) else numF f (n + x % 128 * step) (step * 128) false r
def numB (bs : List Int) : Option (Int × List Int) := numF 4 0 1 true bs
def NumAns (w : World) (S : Nat → Prop) (lb : Nat) : Option (Int × List Int) → Ending → World → Prop
  | none, e, w' => e = .panicked brokenP ∧ Upd (fun b => b = lb) w w'
  | some (n, r), e, w' => e = .returned (.int .i64 n) ∧ LoadR w' S lb r ∧ Upd (fun b => b = lb) w w'
theorem wraps_i64 (n : Int) (h₀ : 0 ≤ n) (h₁ : n < 2 ^ 63) : IntKind.i64.wrap n = n := by rw [IntKind.wrap_i64]; omega
theorem and_127 {x : Int} (h0 : 0 ≤ x) (h1 : x ≤ 255) : bits .and .i64 x 127 = x % 128 := bits_mask .i64 63 (by decide) wraps_i64 7 (by decide) x h0 (by omega)
theorem or_join {n y : Int} (i : Nat) (h0 : 0 ≤ n) (h1 : n < 2 ^ i) (hi : i ≤ 28) (hy0 : 0 ≤ y) (hy : y % 2 ^ i = 0) (hy1 : y < 2 ^ 63) : bits .or .i64 n y = n + y := by
  obtain ⟨a, rfl⟩ := Int.eq_ofNat_of_zero_le h0
  obtain ⟨b, rfl⟩ := Int.eq_ofNat_of_zero_le hy0
  have h28 : (2 : Int) ^ i ≤ 2 ^ 28 := by exact_mod_cast Nat.pow_le_pow_right (by decide : 0 < 2) hi
  have hx := bits_join .i64 63 (by decide) wraps_i64 i (b : Int) (a : Int) hy0 hy hy1 h0 h1 (by omega)
  have hb : b < 2 ^ 63 := by exact_mod_cast hy1
  have ha : a < 2 ^ 63 := by
    have : (a : Int) < 2 ^ 63 := by omega
    exact_mod_cast this
  rw [(bits_nat .i64 63 (by decide) wraps_i64 b a hb ha).2] at hx
  rw [(bits_nat .i64 63 (by decide) wraps_i64 a b ha hb).2, Nat.or_comm a b, hx, Int.add_comm]

set_option maxRecDepth 100000 in
set_option maxHeartbeats 4000000 in
theorem num_any (w : World) (S : Nat → Prop) (lb : Nat) (bs : List Int) (h : LoadR w S lb bs) :
    Calls Tryd.prog 33 #[.pointer (some ⟨lb, 0, none⟩)] w (NumAns w S lb (numB bs)) := by
  have HL := hideP h
  generalize hP : NumAns w S lb (numB bs) = P
  have HPn := hideP (show ∀ w', numB bs = none → Upd (fun b => b = lb) w w' → P (.panicked brokenP) w' from fun w' h1 h2 => by rw [← hP, h1]; exact ⟨rfl, h2⟩)
  have HPs := hideP (show ∀ n r w', numB bs = some (n, r) → LoadR w' S lb r → Upd (fun b => b = lb) w w' → P (.returned (.int .i64 n)) w' from fun n r w' h1 h2 h3 => by rw [← hP, h1]; exact ⟨rfl, h2, h3⟩)
  clear h hP
  go_enter Tryd.func33, Tryd.ntmps33
  go_wp2_with fail
  go_loopg [3, 4] 4 (fun gk v3 v4 wr => ∃ (i : Nat) (n : Int) (r : List Int), i + gk = 4 ∧ v4 = .int .i64 (i : Int) ∧ v3 = .int .i64 n ∧ 0 ≤ n ∧ n < 128 ^ i ∧ LoadR wr S lb r ∧ numF (4 - i) n (128 ^ i) (decide (i = 0)) r = numB bs ∧ Upd (fun b => b = lb) w wr)
  case atStart => exact ⟨0, 0, bs, by omega, rfl, rfl, by omega, by decide, HL.out, rfl, Upd.refl _ _⟩
  case round =>
    obtain ⟨i, n, r, hk, rfl, rfl, hn0, hn1, hL, hF, hU⟩ := hrel
    have HU := hideP hU
    have hi : i = 0 ∨ i = 1 ∨ i = 2 ∨ i = 3 ∨ i = 4 := by omega
    rcases hi with rfl | rfl | rfl | rfl | rfl
    · have HF := hideP hF
      have HLr := hideP hL
      cases r with
      | nil =>
        clear hF hL hU hk
        go_wp2_with (first | (go_at_call 31; refine (need_is _ _ (by rfl)).mono ?_; rintro e w2 ⟨he, hw2⟩; subst he hw2) | (go_at_call 35; refine (byte_any _ S lb [] HLr.out).mono ?_; rintro e w3 ⟨rfl, hU3⟩))
        exact ⟨rfl, HPn.out _ HF.out.symm (HU.out.trans hU3 (fun _ _ h => h))⟩
      | cons x r =>
        have hx := hL.bytes x (by simp)
        have hn2 : n < 1 := by simpa using hn1
        have hA := and_127 hx.1 hx.2
        have hO : bits .or .i64 n (x % 128) = n + x % 128 := or_join 0 hn0 (by omega) (by omega) (by omega) (by omega) (by omega)
        clear hF hL hU hn1
        by_cases hlt : x < 128
        · go_wp2_with (first | (go_at_call 31; refine (need_is _ _ (by rfl)).mono ?_; rintro e w2 ⟨he, hw2⟩; subst he hw2) | (go_at_call 35; refine (byte_any _ S lb (x :: r) HLr.out).mono ?_; rintro e w3 ⟨rfl, hL3, hU3⟩))
          all_goals exact HPs.out _ _ _ (HF.out.symm.trans (by simp [numF, hlt])) hL3 (HU.out.trans hU3 (fun _ _ h => h))
        · go_wp2_with (first | (go_at_call 31; refine (need_is _ _ (by rfl)).mono ?_; rintro e w2 ⟨he, hw2⟩; subst he hw2) | (go_at_call 35; refine (byte_any _ S lb (x :: r) HLr.out).mono ?_; rintro e w3 ⟨rfl, hL3, hU3⟩))
          go_roundg (4 - 1)
          case measure => omega
          case rel => exact ⟨1, n + x % 128, r, by omega, rfl, rfl, by omega, by omega, hL3, (by first | (rw [← HF.out, numF, if_neg (show ¬ x < 128 by omega)]; first | rfl | (simp; done)) | (rw [← HF.out]; simp [numF, show ¬ x < 128 by omega])), HU.out.trans hU3 (fun _ _ h => h)⟩
    · have HF := hideP hF
      have HLr := hideP hL
      cases r with
      | nil =>
        clear hF hL hU hk
        go_wp2_with (first | (go_at_call 31; refine (need_is _ _ (by rfl)).mono ?_; rintro e w2 ⟨he, hw2⟩; subst he hw2) | (go_at_call 35; refine (byte_any _ S lb [] HLr.out).mono ?_; rintro e w3 ⟨rfl, hU3⟩))
        exact ⟨rfl, HPn.out _ HF.out.symm (HU.out.trans hU3 (fun _ _ h => h))⟩
      | cons x r =>
        have hx := hL.bytes x (by simp)
        have hn2 : n < 128 := by simpa using hn1
        have hA := and_127 hx.1 hx.2
        have hO : bits .or .i64 n (x % 128 * 128) = n + x % 128 * 128 := or_join 7 hn0 (by omega) (by omega) (by omega) (by omega) (by omega)
        clear hF hL hU hn1
        by_cases hlt : x < 128
        · by_cases hx0 : 0 < x
          · go_wp2_with (first | (go_at_call 31; refine (need_is _ _ (by rfl)).mono ?_; rintro e w2 ⟨he, hw2⟩; subst he hw2) | (go_at_call 31; refine (need_is _ _ (by first | rfl | exact decide_eq_true (by omega))).mono ?_; rintro e w2 ⟨he, hw2⟩; subst he hw2) | (go_at_call 35; refine (byte_any _ S lb (x :: r) HLr.out).mono ?_; rintro e w3 ⟨rfl, hL3, hU3⟩))
            exact HPs.out _ _ _ (HF.out.symm.trans (by simp [numF, hlt, hx0])) hL3 (HU.out.trans hU3 (fun _ _ h => h))
          · go_wp2_with (first | (go_at_call 31; refine (need_is _ _ (by rfl)).mono ?_; rintro e w2 ⟨he, hw2⟩; subst he hw2) | (go_at_call 31; refine (need_not _ _ (by first | rfl | exact decide_eq_false (by omega))).mono ?_; rintro e w4 ⟨he, hw4⟩; subst he hw4) | (go_at_call 35; refine (byte_any _ S lb (x :: r) HLr.out).mono ?_; rintro e w3 ⟨rfl, hL3, hU3⟩))
            exact ⟨rfl, HPn.out _ (by rw [← HF.out]; simp [numF, show x < 128 by omega, show ¬ 0 < x by omega]) (HU.out.trans hU3 (fun _ _ h => h))⟩
        · go_wp2_with (first | (go_at_call 31; refine (need_is _ _ (by rfl)).mono ?_; rintro e w2 ⟨he, hw2⟩; subst he hw2) | (go_at_call 35; refine (byte_any _ S lb (x :: r) HLr.out).mono ?_; rintro e w3 ⟨rfl, hL3, hU3⟩))
          go_roundg (4 - 2)
          case measure => omega
          case rel => exact ⟨2, n + x % 128 * 128, r, by omega, rfl, rfl, by omega, by omega, hL3, (by first | (rw [← HF.out, numF, if_neg (show ¬ x < 128 by omega)]; first | rfl | (simp; done)) | (rw [← HF.out]; simp [numF, show ¬ x < 128 by omega])), HU.out.trans hU3 (fun _ _ h => h)⟩
    · have HF := hideP hF
      have HLr := hideP hL
      cases r with
      | nil =>
        clear hF hL hU hk
        go_wp2_with (first | (go_at_call 31; refine (need_is _ _ (by rfl)).mono ?_; rintro e w2 ⟨he, hw2⟩; subst he hw2) | (go_at_call 35; refine (byte_any _ S lb [] HLr.out).mono ?_; rintro e w3 ⟨rfl, hU3⟩))
        exact ⟨rfl, HPn.out _ HF.out.symm (HU.out.trans hU3 (fun _ _ h => h))⟩
      | cons x r =>
        have hx := hL.bytes x (by simp)
        have hn2 : n < 16384 := by simpa using hn1
        have hA := and_127 hx.1 hx.2
        have hO : bits .or .i64 n (x % 128 * 16384) = n + x % 128 * 16384 := or_join 14 hn0 (by omega) (by omega) (by omega) (by omega) (by omega)
        clear hF hL hU hn1
        by_cases hlt : x < 128
        · by_cases hx0 : 0 < x
          · go_wp2_with (first | (go_at_call 31; refine (need_is _ _ (by rfl)).mono ?_; rintro e w2 ⟨he, hw2⟩; subst he hw2) | (go_at_call 31; refine (need_is _ _ (by first | rfl | exact decide_eq_true (by omega))).mono ?_; rintro e w2 ⟨he, hw2⟩; subst he hw2) | (go_at_call 35; refine (byte_any _ S lb (x :: r) HLr.out).mono ?_; rintro e w3 ⟨rfl, hL3, hU3⟩))
            exact HPs.out _ _ _ (HF.out.symm.trans (by simp [numF, hlt, hx0])) hL3 (HU.out.trans hU3 (fun _ _ h => h))
          · go_wp2_with (first | (go_at_call 31; refine (need_is _ _ (by rfl)).mono ?_; rintro e w2 ⟨he, hw2⟩; subst he hw2) | (go_at_call 31; refine (need_not _ _ (by first | rfl | exact decide_eq_false (by omega))).mono ?_; rintro e w4 ⟨he, hw4⟩; subst he hw4) | (go_at_call 35; refine (byte_any _ S lb (x :: r) HLr.out).mono ?_; rintro e w3 ⟨rfl, hL3, hU3⟩))
            exact ⟨rfl, HPn.out _ (by rw [← HF.out]; simp [numF, show x < 128 by omega, show ¬ 0 < x by omega]) (HU.out.trans hU3 (fun _ _ h => h))⟩
        · go_wp2_with (first | (go_at_call 31; refine (need_is _ _ (by rfl)).mono ?_; rintro e w2 ⟨he, hw2⟩; subst he hw2) | (go_at_call 35; refine (byte_any _ S lb (x :: r) HLr.out).mono ?_; rintro e w3 ⟨rfl, hL3, hU3⟩))
          go_roundg (4 - 3)
          case measure => omega
          case rel => exact ⟨3, n + x % 128 * 16384, r, by omega, rfl, rfl, by omega, by omega, hL3, (by first | (rw [← HF.out, numF, if_neg (show ¬ x < 128 by omega)]; first | rfl | (simp; done)) | (rw [← HF.out]; simp [numF, show ¬ x < 128 by omega])), HU.out.trans hU3 (fun _ _ h => h)⟩
    · have HF := hideP hF
      have HLr := hideP hL
      cases r with
      | nil =>
        clear hF hL hU hk
        go_wp2_with (first | (go_at_call 31; refine (need_is _ _ (by rfl)).mono ?_; rintro e w2 ⟨he, hw2⟩; subst he hw2) | (go_at_call 35; refine (byte_any _ S lb [] HLr.out).mono ?_; rintro e w3 ⟨rfl, hU3⟩))
        exact ⟨rfl, HPn.out _ HF.out.symm (HU.out.trans hU3 (fun _ _ h => h))⟩
      | cons x r =>
        have hx := hL.bytes x (by simp)
        have hn2 : n < 2097152 := by simpa using hn1
        have hA := and_127 hx.1 hx.2
        have hO : bits .or .i64 n (x % 128 * 2097152) = n + x % 128 * 2097152 := or_join 21 hn0 (by omega) (by omega) (by omega) (by omega) (by omega)
        clear hF hL hU hn1
        by_cases hlt : x < 128
        · by_cases hx0 : 0 < x
          · go_wp2_with (first | (go_at_call 31; refine (need_is _ _ (by rfl)).mono ?_; rintro e w2 ⟨he, hw2⟩; subst he hw2) | (go_at_call 31; refine (need_is _ _ (by first | rfl | exact decide_eq_true (by omega))).mono ?_; rintro e w2 ⟨he, hw2⟩; subst he hw2) | (go_at_call 35; refine (byte_any _ S lb (x :: r) HLr.out).mono ?_; rintro e w3 ⟨rfl, hL3, hU3⟩))
            exact HPs.out _ _ _ (HF.out.symm.trans (by simp [numF, hlt, hx0])) hL3 (HU.out.trans hU3 (fun _ _ h => h))
          · go_wp2_with (first | (go_at_call 31; refine (need_is _ _ (by rfl)).mono ?_; rintro e w2 ⟨he, hw2⟩; subst he hw2) | (go_at_call 31; refine (need_not _ _ (by first | rfl | exact decide_eq_false (by omega))).mono ?_; rintro e w4 ⟨he, hw4⟩; subst he hw4) | (go_at_call 35; refine (byte_any _ S lb (x :: r) HLr.out).mono ?_; rintro e w3 ⟨rfl, hL3, hU3⟩))
            exact ⟨rfl, HPn.out _ (by rw [← HF.out]; simp [numF, show x < 128 by omega, show ¬ 0 < x by omega]) (HU.out.trans hU3 (fun _ _ h => h))⟩
        · go_wp2_with (first | (go_at_call 31; refine (need_is _ _ (by rfl)).mono ?_; rintro e w2 ⟨he, hw2⟩; subst he hw2) | (go_at_call 35; refine (byte_any _ S lb (x :: r) HLr.out).mono ?_; rintro e w3 ⟨rfl, hL3, hU3⟩))
          go_roundg (4 - 4)
          case measure => omega
          case rel => exact ⟨4, n + x % 128 * 2097152, r, by omega, rfl, rfl, by omega, by omega, hL3, (by first | (rw [← HF.out, numF, if_neg (show ¬ x < 128 by omega)]; first | rfl | (simp; done)) | (rw [← HF.out]; simp [numF, show ¬ x < 128 by omega])), HU.out.trans hU3 (fun _ _ h => h)⟩
    · have HF := hideP hF
      clear hF hL hU hk
      go_wp2_with (first | (go_at_call 31; refine (need_not _ _ (by rfl)).mono ?_; rintro e w2 ⟨he, hw2⟩; subst he hw2))
      exact ⟨rfl, HPn.out _ HF.out.symm HU.out⟩
end Go.Proofs.YtdbdokjlcdogiaaDoor
