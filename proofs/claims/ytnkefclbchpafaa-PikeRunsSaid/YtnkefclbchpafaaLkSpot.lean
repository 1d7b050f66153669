/-
  The walks of look's assertions, of Word, and of the row of assertions.
-/
import Derived.Test.YtnkefclbchpafaaRefLook
import Derived.Test.YtnkefclbchpafaaRefRight
namespace Go.Proofs.Ytnkefclbchpafaa
open Go.RowKit
set_option linter.unusedVariables false

theorem add_succ_ (a : Addr) (j : Nat) : a.add (j + 1) = ⟨a.block, a.off + (j + 1), none⟩ := by simp [Addr.add]
theorem word_yes (x : Int) (w : World) (h : wordB x = true) (hx : In64 x) : Calls Try.prog 98 #[.int .i64 x] w fun e w' => e = .returned (.bool true) ∧ w = w' := by
  have h' : 97 ≤ x ∧ x ≤ 122 ∨ 65 ≤ x ∧ x ≤ 90 ∨ 48 ≤ x ∧ x ≤ 57 ∨ x = 95 := by simpa [wordB] using h
  clear h
  obtain ⟨hx1, hx2⟩ := hx
  rcases h' with ⟨h1, h2⟩ | ⟨h1, h2⟩ | ⟨h1, h2⟩ | rfl
  all_goals
    go_enter Try.func98, Try.ntmps98
    go_wp2
    go_ret
    exact ⟨rfl, rfl⟩
theorem word_no (x : Int) (w : World) (h : wordB x = false) (hx : In64 x) : Calls Try.prog 98 #[.int .i64 x] w fun e w' => e = .returned (.bool false) ∧ w = w' := by
  have h' : ¬ (97 ≤ x ∧ x ≤ 122 ∨ 65 ≤ x ∧ x ≤ 90 ∨ 48 ≤ x ∧ x ≤ 57 ∨ x = 95) := by simpa [wordB] using h
  clear h
  obtain ⟨hx1, hx2⟩ := hx
  rcases (by omega : x < 48 ∨ (57 < x ∧ x < 65) ∨ (90 < x ∧ x < 95) ∨ (95 < x ∧ x < 97) ∨ 122 < x) with h1 | ⟨h1, h2⟩ | ⟨h1, h2⟩ | ⟨h1, h2⟩ | h1
  all_goals
    clear h'
    have h9 : (x == 95) = false := by simp; omega
    go_enter Try.func98, Try.ntmps98
    go_wp2
    go_ret
    refine ⟨ret_bool ?_, rfl⟩
    first | rfl | (simp; omega)
theorem word_any (x : Int) (w : World) (hx : In64 x) : Calls Try.prog 98 #[.int .i64 x] w fun e w' => e = .returned (.bool (wordB x)) ∧ w = w' := by
  cases h : wordB x
  · exact word_no x w h hx
  · exact word_yes x w h hx

section
variable (w : World) (S : Nat → Prop) (A : Option Addr) (n c i : Nat) (xs : List Int)
theorem first_any (v : Value) : Calls Try.prog 89 #[.agg #[v, .int .i64 (i : Int)]] w fun e w' => e = .returned (.bool (firstB i)) ∧ Upd Nob w w' := by
  by_cases h : i = 0
  · subst h
    go_enter Try.func89, Try.ntmps89
    go_wp2
    go_ret
    exact ⟨rfl, (Upd.refl _ _).alloc _⟩
  · have hb : ((i : Int) == 0) = false := by simp; omega
    have hf : firstB i = false := by simp [firstB, h]
    have HF := hideP hf
    clear hf
    go_enter Try.func89, Try.ntmps89
    go_wp2
    go_ret
    exact ⟨ret_bool HF.out.symm, (Upd.refl _ _).alloc _⟩
theorem last_any (hn : xs.length = n) (hi : i ≤ n) (hm : n ≤ 17592186044416) : Calls Try.prog 90 #[.agg #[.slice A n c, .int .i64 (i : Int)]] w fun e w' => e = .returned (.bool (lastB xs i)) ∧ Upd Nob w w' := by
  by_cases h : i = n
  · have hf : lastB xs i = true := by simp [lastB, hn, h]
    have HF := hideP hf
    clear hf
    subst h
    go_enter Try.func90, Try.ntmps90
    go_wp2
    go_ret
    exact ⟨ret_bool HF.out.symm, (Upd.refl _ _).alloc _⟩
  · have hb : ((i : Int) == (n : Int)) = false := by simp; omega
    have hf : lastB xs i = false := by simp [lastB, hn, h]
    have HF := hideP hf
    clear hf
    go_enter Try.func90, Try.ntmps90
    go_wp2
    go_ret
    exact ⟨ret_bool HF.out.symm, (Upd.refl _ _).alloc _⟩
theorem begin_any (h : TextR w S A n xs) (hi : i ≤ n) : Calls Try.prog 91 #[.agg #[.slice A n c, .int .i64 (i : Int)]] w fun e w' => e = .returned (.bool (beginB xs i)) ∧ Upd Nob w w' := by
  have hm := h.n
  have hl := h.len
  by_cases h0 : i = 0
  · subst h0
    have hf : beginB xs 0 = true := by simp [beginB]
    have HF := hideP hf
    have hq : firstB 0 = true := by simp [firstB]
    have HQ := hideP hq
    clear hf hq
    go_enter Try.func91, Try.ntmps91
    go_wp2_with fail
    refine (first_any _ 0 _).mono ?_
    rintro e w1 ⟨he, hU1⟩
    rw [HQ.out] at he
    subst he
    go_wp2
    go_ret
    exact ⟨ret_bool HF.out.symm, ((Upd.refl _ _).alloc _).trans hU1 (fun _ _ h => h)⟩
  · obtain ⟨j, rfl⟩ : ∃ j, i = j + 1 := ⟨i - 1, by omega⟩
    have hq : firstB (j + 1) = false := by simp [firstB]
    have HQ := hideP hq
    clear hq
    obtain ⟨ad, x, rfl, hx, hc⟩ := h.r.int1 (k := j) (by omega)
    have hf : beginB xs (j + 1) = (x == 10) := by
      unfold beginB
      simp [hx]
      rw [Bool.eq_iff_iff]; simp
    have HF := hideP hf
    have hcell : ∀ W, Upd Nob w W → W.cell? (ad.add j) = some (.int .i64 x) := by
      intro W hW
      obtain ⟨ad', x', e1, e2, h2⟩ := (h.r.upd hW (fun _ _ => not_nob)).int1 (k := j) (by omega)
      injection e1 with e1
      rw [hx] at e2
      injection e2 with e2
      subst e1; subst e2
      exact h2
    have HC := hideP hcell
    clear hf hcell hx hc h
    go_enter Try.func91, Try.ntmps91
    go_wp2_with fail
    refine (first_any _ (j + 1) _).mono ?_
    rintro e w1 ⟨he, hU1⟩
    rw [HQ.out] at he
    subst he
    have hU := ((Upd.refl Nob w).alloc (.cells #[.slice (some ad) n c, .int .i64 ((j : Int) + 1)] 127)).trans hU1 (fun _ _ h => h)
    have hc1 := HC.out w1 hU
    have hC1 := (Cells.new w 127 #[.slice (some ad) n c, .int .i64 ((j : Int) + 1)]).upd hU1 not_nob
    have e0 : w1.cell? ⟨w.heap.size, 0, none⟩ = some (.slice (some ad) n c) := hC1.cellv rfl
    have e1 : w1.cell? ⟨w.heap.size, 1, none⟩ = some (.int .i64 ((j : Int) + 1)) := hC1.cellv rfl
    go_wp2
    go_ret
    exact ⟨ret_bool HF.out.symm, hU⟩
theorem end_any (h : TextR w S A n xs) (hi : i ≤ n) : Calls Try.prog 92 #[.agg #[.slice A n c, .int .i64 (i : Int)]] w fun e w' => e = .returned (.bool (endB xs i)) ∧ Upd Nob w w' := by
  have hm := h.n
  have hl := h.len
  by_cases h0 : i = n
  · have hf : endB xs i = true := by simp [endB, h0, hl]
    have HF := hideP hf
    have hq : lastB xs i = true := by simp [lastB, h0, hl]
    have HQ := hideP hq
    clear hf hq
    subst h0
    go_enter Try.func92, Try.ntmps92
    go_wp2_with fail
    refine (last_any _ A i c i xs hl (Nat.le_refl _) hm).mono ?_
    rintro e w1 ⟨he, hU1⟩
    rw [HQ.out] at he
    subst he
    go_wp2
    go_ret
    exact ⟨ret_bool HF.out.symm, ((Upd.refl _ _).alloc _).trans hU1 (fun _ _ h => h)⟩
  · have hq : lastB xs i = false := by simp [lastB, hl, h0]
    have HQ := hideP hq
    clear hq
    obtain ⟨ad, x, rfl, hx, hc⟩ := h.r.int1 (k := i) (by omega)
    have hf : endB xs i = (x == 10) := by
      unfold endB
      simp [hx, hl, h0]
      rw [Bool.eq_iff_iff]; simp
    have HF := hideP hf
    have hcell : ∀ W, Upd Nob w W → W.cell? (ad.add i) = some (.int .i64 x) := by
      intro W hW
      obtain ⟨ad', x', e1, e2, h2⟩ := (h.r.upd hW (fun _ _ => not_nob)).int1 (k := i) (by omega)
      injection e1 with e1
      rw [hx] at e2
      injection e2 with e2
      subst e1; subst e2
      exact h2
    have HC := hideP hcell
    clear hf hcell hx hc h
    go_enter Try.func92, Try.ntmps92
    go_wp2_with fail
    refine (last_any _ (some ad) n c i xs hl hi hm).mono ?_
    rintro e w1 ⟨he, hU1⟩
    rw [HQ.out] at he
    subst he
    have hU := ((Upd.refl Nob w).alloc (.cells #[.slice (some ad) n c, .int .i64 (i : Int)] 127)).trans hU1 (fun _ _ h => h)
    have hc1 := HC.out w1 hU
    have hC1 := (Cells.new w 127 #[.slice (some ad) n c, .int .i64 (i : Int)]).upd hU1 not_nob
    have e0 : w1.cell? ⟨w.heap.size, 0, none⟩ = some (.slice (some ad) n c) := hC1.cellv rfl
    have e1 : w1.cell? ⟨w.heap.size, 1, none⟩ = some (.int .i64 (i : Int)) := hC1.cellv rfl
    go_wp2
    go_ret
    exact ⟨ret_bool HF.out.symm, hU⟩

set_option maxHeartbeats 1000000 in
theorem edge_any (h : TextR w S A n xs) (hi : i ≤ n) : Calls Try.prog 93 #[.agg #[.slice A n c, .int .i64 (i : Int)]] w fun e w' => e = .returned (.bool (wedgeB xs i)) ∧ Upd Nob w w' := by
  have hm := h.n
  have hl := h.len
  have hres : wedgeB xs i = (aheadB xs i != behindB xs i) := rfl
  have HR := hideP hres
  clear hres
  by_cases h0 : i = 0
  · subst h0
    have HQ1 : Hid (firstB 0 = true) := rfl
    have HA : Hid (aheadB xs 0 = false) := rfl
    by_cases h1 : n = 0
    · have hq : lastB xs 0 = true := by simp [lastB, hl, h1]
      have hb : behindB xs 0 = false := by
        have : xs = [] := List.eq_nil_of_length_eq_zero (by omega)
        simp [behindB, this]
      have HQ2 := hideP hq
      have HB := hideP hb
      clear hq hb h h1
      have hC0 := Cells.new w 127 #[.slice A n c, .int .i64 0]
      have hU0 := (Upd.refl Nob w).alloc (.cells #[.slice A n c, .int .i64 0] 127)
      go_enter Try.func93, Try.ntmps93
      go_wp2_with fail
      refine (first_any _ 0 _).mono ?_
      rintro e w1 ⟨he, hU1⟩
      rw [HQ1.out] at he
      subst he
      have hC1 := hC0.upd hU1 not_nob
      have hU2 := hU0.trans hU1 (fun _ _ h => h)
      have e0 : w1.cell? ⟨w.heap.size, 0, none⟩ = some (.slice A n c) := hC1.cellv rfl
      have e1 : w1.cell? ⟨w.heap.size, 1, none⟩ = some (.int .i64 0) := hC1.cellv rfl
      go_wp2_with fail
      refine (last_any _ A n c 0 xs hl (by omega) hm).mono ?_
      rintro e w2 ⟨he, hU3⟩
      rw [HQ2.out] at he
      subst he
      clear e0 e1
      have hC2 := hC1.upd hU3 not_nob
      have hU4 := hU2.trans hU3 (fun _ _ h => h)
      have e0 : w2.cell? ⟨w.heap.size, 0, none⟩ = some (.slice A n c) := hC2.cellv rfl
      have e1 : w2.cell? ⟨w.heap.size, 1, none⟩ = some (.int .i64 0) := hC2.cellv rfl
      go_wp2
      go_ret
      exact ⟨ret_bool (by rw [HR.out, HA.out, HB.out]; first | rfl | simp), hU4⟩

    · have hq : lastB xs 0 = false := by simp [lastB, hl]; omega
      have HQ2 := hideP hq
      obtain ⟨ad, y, rfl, hyk, hyi, hyc⟩ := h.at_ (k := 0) (by omega)
      have hb : behindB xs 0 = wordB y := by simp [behindB, hyk]
      have HB := hideP hb
      have HY := hideP hyc
      clear hq hb h hyk hyc
      have hC0 := Cells.new w 127 #[.slice (some ad) n c, .int .i64 0]
      have hU0 := (Upd.refl Nob w).alloc (.cells #[.slice (some ad) n c, .int .i64 0] 127)
      go_enter Try.func93, Try.ntmps93
      go_wp2_with fail
      refine (first_any _ 0 _).mono ?_
      rintro e w1 ⟨he, hU1⟩
      rw [HQ1.out] at he
      subst he
      have hC1 := hC0.upd hU1 not_nob
      have hU2 := hU0.trans hU1 (fun _ _ h => h)
      have e0 : w1.cell? ⟨w.heap.size, 0, none⟩ = some (.slice (some ad) n c) := hC1.cellv rfl
      have e1 : w1.cell? ⟨w.heap.size, 1, none⟩ = some (.int .i64 0) := hC1.cellv rfl
      go_wp2_with fail
      refine (last_any _ (some ad) n c 0 xs hl (by omega) hm).mono ?_
      rintro e w2 ⟨he, hU3⟩
      rw [HQ2.out] at he
      subst he
      clear e0 e1
      have hC2 := hC1.upd hU3 not_nob
      have hU4 := hU2.trans hU3 (fun _ _ h => h)
      have e0 : w2.cell? ⟨w.heap.size, 0, none⟩ = some (.slice (some ad) n c) := hC2.cellv rfl
      have e1 : w2.cell? ⟨w.heap.size, 1, none⟩ = some (.int .i64 0) := hC2.cellv rfl
      have hy1 := HY.out w2 hU4
      rw [add_zero_R] at hy1
      go_wp2_with fail
      refine (word_any y _ hyi).mono ?_
      rintro e w' ⟨rfl, rfl⟩
      go_wp2
      go_ret
      exact ⟨ret_bool (by rw [HR.out, HA.out, HB.out]; first | rfl | simp), hU4⟩

  · obtain ⟨j, rfl⟩ : ∃ j, i = j + 1 := ⟨i - 1, by omega⟩
    have HQ1 : Hid (firstB (j + 1) = false) := by simp [firstB, Hid]
    obtain ⟨ad, x, rfl, hxk, hxi, hxc⟩ := h.at_ (k := j) (by omega)
    have ha : aheadB xs (j + 1) = wordB x := by simp [aheadB, hxk]
    have HA := hideP ha
    have HX := hideP hxc
    clear ha hxk hxc h0
    by_cases h1 : j + 1 = n
    · have hq : lastB xs (j + 1) = true := by simp [lastB, hl, h1]
      have hb : behindB xs (j + 1) = false := by
        have : xs[j + 1]? = none := List.getElem?_eq_none (by omega)
        simp [behindB, this]
      have HQ2 := hideP hq
      have HB := hideP hb
      clear hq hb h h1
      have hC0 := Cells.new w 127 #[.slice (some ad) n c, .int .i64 ((j : Int) + 1)]
      have hU0 := (Upd.refl Nob w).alloc (.cells #[.slice (some ad) n c, .int .i64 ((j : Int) + 1)] 127)
      go_enter Try.func93, Try.ntmps93
      go_wp2_with fail
      refine (first_any _ (j + 1) _).mono ?_
      rintro e w1 ⟨he, hU1⟩
      rw [HQ1.out] at he
      subst he
      have hC1 := hC0.upd hU1 not_nob
      have hU2 := hU0.trans hU1 (fun _ _ h => h)
      have e0 : w1.cell? ⟨w.heap.size, 0, none⟩ = some (.slice (some ad) n c) := hC1.cellv rfl
      have e1 : w1.cell? ⟨w.heap.size, 1, none⟩ = some (.int .i64 ((j : Int) + 1)) := hC1.cellv rfl
      have hx1 := HX.out w1 hU2
      go_wp2_with fail
      refine (word_any x _ hxi).mono ?_
      rintro e w' ⟨rfl, rfl⟩
      go_wp2_with fail
      refine (last_any _ (some ad) n c (j + 1) xs hl (by omega) hm).mono ?_
      rintro e w2 ⟨he, hU3⟩
      rw [HQ2.out] at he
      subst he
      clear e0 e1
      have hC2 := hC1.upd hU3 not_nob
      have hU4 := hU2.trans hU3 (fun _ _ h => h)
      have e0 : w2.cell? ⟨w.heap.size, 0, none⟩ = some (.slice (some ad) n c) := hC2.cellv rfl
      have e1 : w2.cell? ⟨w.heap.size, 1, none⟩ = some (.int .i64 ((j : Int) + 1)) := hC2.cellv rfl
      go_wp2
      go_ret
      exact ⟨ret_bool (by rw [HR.out, HA.out, HB.out]; first | rfl | simp), hU4⟩

    · have hq : lastB xs (j + 1) = false := by simp [lastB, hl]; omega
      have HQ2 := hideP hq
      obtain ⟨ad', y, e1, hyk, hyi, hyc⟩ := h.at_ (k := j + 1) (by omega)
      injection e1 with e1
      subst e1
      have hb : behindB xs (j + 1) = wordB y := by simp [behindB, hyk]
      have HB := hideP hb
      have HY := hideP hyc
      clear hq hb h hyk hyc
      have hC0 := Cells.new w 127 #[.slice (some ad) n c, .int .i64 ((j : Int) + 1)]
      have hU0 := (Upd.refl Nob w).alloc (.cells #[.slice (some ad) n c, .int .i64 ((j : Int) + 1)] 127)
      go_enter Try.func93, Try.ntmps93
      go_wp2_with fail
      refine (first_any _ (j + 1) _).mono ?_
      rintro e w1 ⟨he, hU1⟩
      rw [HQ1.out] at he
      subst he
      have hC1 := hC0.upd hU1 not_nob
      have hU2 := hU0.trans hU1 (fun _ _ h => h)
      have e0 : w1.cell? ⟨w.heap.size, 0, none⟩ = some (.slice (some ad) n c) := hC1.cellv rfl
      have e1 : w1.cell? ⟨w.heap.size, 1, none⟩ = some (.int .i64 ((j : Int) + 1)) := hC1.cellv rfl
      have hx1 := HX.out w1 hU2
      go_wp2_with fail
      refine (word_any x _ hxi).mono ?_
      rintro e w' ⟨rfl, rfl⟩
      go_wp2_with fail
      refine (last_any _ (some ad) n c (j + 1) xs hl (by omega) hm).mono ?_
      rintro e w2 ⟨he, hU3⟩
      rw [HQ2.out] at he
      subst he
      clear e0 e1
      have hC2 := hC1.upd hU3 not_nob
      have hU4 := hU2.trans hU3 (fun _ _ h => h)
      have e0 : w2.cell? ⟨w.heap.size, 0, none⟩ = some (.slice (some ad) n c) := hC2.cellv rfl
      have e1 : w2.cell? ⟨w.heap.size, 1, none⟩ = some (.int .i64 ((j : Int) + 1)) := hC2.cellv rfl
      have hy1 := HY.out w2 hU4
      rw [add_succ_] at hy1
      go_wp2_with fail
      refine (word_any y _ hyi).mono ?_
      rintro e w' ⟨rfl, rfl⟩
      go_wp2
      go_ret
      exact ⟨ret_bool (by rw [HR.out, HA.out, HB.out]; first | rfl | simp), hU4⟩

theorem noEdge_any (h : TextR w S A n xs) (hi : i ≤ n) : Calls Try.prog 94 #[.agg #[.slice A n c, .int .i64 (i : Int)]] w fun e w' => e = .returned (.bool (!wedgeB xs i)) ∧ Upd Nob w w' := by
  go_enter Try.func94, Try.ntmps94
  go_wp2_with fail
  refine (edge_any _ S A n c i xs (h.upd ((Upd.refl Nob w).alloc _) (fun _ _ => not_nob)) hi).mono ?_
  rintro e w1 ⟨rfl, hU1⟩
  go_wp2
  go_ret
  exact ⟨rfl, ((Upd.refl _ _).alloc _).trans hU1 (fun _ _ h => h)⟩
end
end Go.Proofs.Ytnkefclbchpafaa
