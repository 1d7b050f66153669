/-
  heronlaw02.LookPut: the plain law, the walk.
-/
import Derived.Test.YtmcagnahpgjilaaLent
namespace Go.Proofs.Ytmcagnahpgjilaa
open Go.RowKit
set_option linter.unusedVariables false

theorem in64_append {xs ys : List Int} (h1 : ∀ x ∈ xs, In64 x) (h2 : ∀ x ∈ ys, In64 x) : ∀ x ∈ xs ++ ys, In64 x := by
  intro x hx
  rw [List.mem_append] at hx
  rcases hx with h | h
  · exact h1 x h
  · exact h2 x h
/-- what At answers hangs on first, last, and the two runes beside the place -/
theorem part_congr (xs ys : List Int) (i j : Nat) (h0 : i = 0 ↔ j = 0) (h1 : i = xs.length ↔ j = ys.length) (h2 : i ≠ 0 → xs[i - 1]? = ys[j - 1]?) (h3 : i ≠ xs.length → xs[i]? = ys[j]?) (hi : i ≤ xs.length) (hj : j ≤ ys.length) :
    part xs i 6 = part ys j 6 := by
  have f1 : firstB i = firstB j := by simp [firstB, h0]
  have f2 : lastB xs i = lastB ys j := by simp [lastB, h1]
  have f3 : beginB xs i = beginB ys j := by
    unfold beginB
    by_cases h : i = 0
    · simp [h, h0.1 h]
    · have h' : ¬ j = 0 := fun e => h (h0.2 e)
      simp only [h, h', false_or, h2 h]
  have f4 : endB xs i = endB ys j := by
    unfold endB
    by_cases h : i = xs.length
    · simp [h1.1 h]; simp [h]
    · have h' : ¬ j = ys.length := fun e => h (h1.2 e)
      simp only [h, h', false_or, h3 h]
  have f5 : aheadB xs i = aheadB ys j := by
    unfold aheadB
    by_cases h : i = 0
    · simp [h, h0.1 h]
    · have h' : ¬ j = 0 := fun e => h (h0.2 e)
      simp only [h, h', decide_false, h2 h]
  have f6 : behindB xs i = behindB ys j := by
    unfold behindB
    by_cases h : i = xs.length
    · rw [List.getElem?_eq_none (by omega), List.getElem?_eq_none (by have := h1.1 h; omega)]
    · rw [h3 h]
  rw [part6, part6, f1, f2, f3, f4]
  show _ + _ + _ + (if (aheadB xs i != behindB xs i) = true then (16 : Int) else 32) = _ + _ + _ + (if (aheadB ys j != behindB ys j) = true then (16 : Int) else 32)
  rw [f5, f6]
theorem look_behind (xs ys : List Int) (i : Nat) (hi : i < xs.length) : part (xs ++ ys) i 6 = part xs i 6 := by
  refine part_congr _ _ i i Iff.rfl ?_ (fun h => ?_) (fun h => ?_) (by simp; omega) (by omega)
  · simp; omega
  · rw [List.getElem?_append_left (by omega)]
  · rw [List.getElem?_append_left hi]
theorem look_ahead (xs ys : List Int) (i : Nat) (h0 : 0 < i) (hi : i ≤ xs.length) : part (ys ++ xs) (i + ys.length) 6 = part xs i 6 := by
  refine part_congr _ _ _ i ?_ ?_ (fun h => ?_) (fun h => ?_) (by simp; omega) hi
  · omega
  · simp; omega
  · rw [List.getElem?_append_right (by omega)]; congr 1; omega
  · rw [List.getElem?_append_right (by omega)]; congr 1; omega

/-- a row that an append onto nothing has made is none of the old ones -/
theorem new_other {w w3 : World} {base e size n k : Nat} {v u : Value} {xs : List Value} (_h : Upd Nob w w3) (o : w3.ownsRow base e size v n xs) (a : u.ownBlock = (Value.slice none 0 0).ownBlock ∨ u.ownBlock = some w3.heap.size) (h1 : v.ownBlock = some k) (h2 : u.ownBlock = some k) : False := by
  rcases a with a | a
  · rw [a] at h2; cases h2
  · rw [a] at h2
    injection h2 with h2
    have := (o.lt k h1).2
    omega

set_option maxHeartbeats 2000000 in
theorem lookPut_any (w : World) (A B : Option Addr) (n c m d : Nat) (xs ys : List Int) (p : Int) (hx : TextR w (· < w.heap.size) A n xs) (hy : TextR w (· < w.heap.size) B m ys) (hp : In64 p) (hn : n ≤ 1048576) (hm : m ≤ 1048576) :
    Calls Try.prog 7 #[.slice A n c, .slice B m d, .int .i64 p] w fun e w' => e = .returned (.bool true) ∧ Upd Nob w w' := by
  obtain ⟨i0, hi0, hz0, hz1, hz2⟩ := info_parts info_int
  have hlx := hx.len
  have hly := hy.len
  have hp1 := hp.1
  have hp2 := hp.2
  by_cases hin : p < 0 ∨ (n : Int) < p ∨ m = 0
  · rcases (by omega : p < 0 ∨ (¬ p < 0 ∧ (n : Int) < p) ∨ (¬ p < 0 ∧ ¬ (n : Int) < p ∧ m = 0)) with h | ⟨h, h'⟩ | ⟨h, h', h''⟩
    · clear hin
      go_enter Try.func7, Try.ntmps7
      go_wp2_with (go_at_call 8; refine (awake_any w).mono ?_; rintro e w1 ⟨rfl, hU1⟩)
      go_ret
      exact ⟨rfl, hU1⟩
    · clear hin
      go_enter Try.func7, Try.ntmps7
      go_wp2_with (go_at_call 8; refine (awake_any w).mono ?_; rintro e w1 ⟨rfl, hU1⟩)
      go_ret
      exact ⟨rfl, hU1⟩
    · clear hin
      subst h''
      go_enter Try.func7, Try.ntmps7
      go_wp2_with (go_at_call 8; refine (awake_any w).mono ?_; rintro e w1 ⟨rfl, hU1⟩)
      go_ret
      exact ⟨rfl, hU1⟩
  · obtain ⟨i, rfl⟩ := Int.eq_ofNat_of_zero_le (by omega : 0 ≤ p)
    have hi : i ≤ n := by omega
    have hm0 : ((m : Int) == 0) = false := by simp; omega
    have hq1 : i < n → part (xs ++ ys) i 6 = part xs i 6 := fun h => look_behind xs ys i (by omega)
    have hq2 : 0 < i → part (ys ++ xs) (i + m) 6 = part xs i 6 := fun h => by rw [← hly]; exact look_ahead xs ys i h (by omega)
    have hr1 : lookAt xs (i : Int) = part xs i 6 := by unfold lookAt; rw [if_pos (by omega)]; simp
    have hr2 : lookAt (xs ++ ys) (i : Int) = part (xs ++ ys) i 6 := by unfold lookAt; rw [if_pos (by simp; omega)]; simp
    have hr3 : lookAt (ys ++ xs) ((i : Int) + (m : Int)) = part (ys ++ xs) (i + m) 6 := by
      unfold lookAt; rw [if_pos (by simp; omega)]; congr 1
    have Q1 := hide hq1
    have Q2 := hide hq2
    have R1 := hide hr1
    have R2 := hide hr2
    have R3 := hide hr3
    have HX := hide hx
    have HY := hide hy
    clear hq1 hq2 hr1 hr2 hr3 hx hy hin
    go_enter Try.func7, Try.ntmps7
    go_wp2_with (first
      | (go_at_call 8; refine (awake_any w).mono ?_; rintro e w1 ⟨rfl, hU1⟩)
      | (at_builtin; refine wpList_append_reads rfl (.tmp 28) (.tmp 29) 22 rfl w.heap.size 3 i0 (.int .i64 0) 1 8 Try.underlying22 hi0 hz0 hz1 hz2 rfl (by decide) (.slice none 0 0) 0 [] rfl (World.ownsRow_nil _ _ _ _) _ A n c (intv xs) rfl (HX.out.r.upd hU1 (fun _ _ => not_nob)) (intv_one xs) (by unfold maxLen; omega) (by omega) hU1.size ?_; intro v2 w2 o2 g2 a2; simp only [Nat.zero_add, List.nil_append] at o2; obtain ⟨A2, c2, rfl⟩ := own_shape o2; have hU2 := hU1.trans ((Upd.refl Nob w1).grown g2 (by simp [Value.ownBlock])) (fun _ _ h => h))
      | (at_builtin; refine wpList_append_reads rfl (.tmp 31) (.tmp 32) 22 rfl w.heap.size 3 i0 (.int .i64 0) 1 8 Try.underlying22 hi0 hz0 hz1 hz2 rfl (by decide) (.slice A2 n c2) n (intv xs) rfl o2 _ B m d (intv ys) rfl (HY.out.r.upd hU2 (fun _ _ => not_nob)) (intv_one ys) (by unfold maxLen; omega) (by omega) hU2.size ?_; intro v3 w3 o3 g3 a3; obtain ⟨A3, c3, rfl⟩ := own_shape o3; have hU3 := hU2.trans ((Upd.refl (fun k => w.heap.size ≤ k) w2).grown g3 (fun k hk _ => (o2.lt k hk).1)) (fun k hk h => absurd h (by omega)))
      | (at_builtin; refine wpList_append_reads rfl (.tmp 34) (.tmp 35) 22 rfl w.heap.size 3 i0 (.int .i64 0) 1 8 Try.underlying22 hi0 hz0 hz1 hz2 rfl (by decide) (.slice none 0 0) 0 [] rfl (World.ownsRow_nil _ _ _ _) _ B m d (intv ys) rfl (HY.out.r.upd hU3 (fun _ _ => not_nob)) (intv_one ys) (by unfold maxLen; omega) (by omega) hU3.size ?_; intro v4 w4 o4 g4 a4; simp only [Nat.zero_add, List.nil_append] at o4; obtain ⟨A4, c4, rfl⟩ := own_shape o4; have hN4 := (Upd.refl Nob w3).grown g4 (by simp [Value.ownBlock]); have hU4 := hU3.trans hN4 (fun _ _ h => h); have p4 := own_upd o3 hN4 (fun _ _ => not_nob))
      | (at_builtin; refine wpList_append_reads rfl (.tmp 37) (.tmp 38) 22 rfl w.heap.size 3 i0 (.int .i64 0) 1 8 Try.underlying22 hi0 hz0 hz1 hz2 rfl (by decide) (.slice A4 m c4) m (intv ys) rfl o4 _ A n c (intv xs) rfl (HX.out.r.upd hU4 (fun _ _ => not_nob)) (intv_one xs) (by unfold maxLen; omega) (by omega) hU4.size ?_; intro v5 w5 o5 g5 a5; obtain ⟨A5, c5, rfl⟩ := own_shape o5; have hN5 := (Upd.refl (fun k => (Value.slice A4 m c4).ownBlock = some k) w4).grown g5 (fun k hk _ => hk); have hU5 := hU4.trans hN5 (fun k hk h => absurd (o4.lt k h).1 (by omega)); have p5 := own_upd p4 hN5 (fun k hk h => new_other hU3 o3 a4 hk h))
      | fail)
    have e3 : (xs ++ ys).length = n + m := by simp [hlx, hly]
    have e5 : (ys ++ xs).length = m + n := by simp [hlx, hly]
    rw [← intv_append] at p5 o5
    have hT3 : TextR w5 _ A3 (n + m) (xs ++ ys) := ⟨Reads.of_own p5, in64_append HX.out.i HY.out.i, by omega⟩
    have hT5 : TextR w5 _ A5 (m + n) (ys ++ xs) := ⟨Reads.of_own o5, in64_append HY.out.i HX.out.i, by omega⟩
    clear e3 e5 o2 o3 o4 o5 p4 p5 g2 g3 g4 g5 a2 a3 a4 a5 hN4 hN5 hU1 hU2 hU3 hU4
    go_wp2_with fail
    refine (at_any w5 _ A n c (i : Int) xs (HX.out.upd hU5 (fun _ _ => not_nob)) hp).mono ?_
    rintro e w6 ⟨he, hU6⟩
    rw [R1.out] at he
    subst he
    go_wp2_with fail
    refine (at_any w6 _ A3 (n + m) c3 (i : Int) (xs ++ ys) (hT3.upd hU6 (fun _ _ => not_nob)) hp).mono ?_
    rintro e w7 ⟨he, hU7⟩
    rw [R2.out] at he
    subst he
    go_wp2_with fail
    refine (at_any w7 _ A5 (m + n) c5 ((i : Int) + (m : Int)) (ys ++ xs) ((hT5.upd hU6 (fun _ _ => not_nob)).upd hU7 (fun _ _ => not_nob)) ?_).mono ?_
    · unfold In64; omega
    rintro e w8 ⟨he, hU8⟩
    rw [R3.out] at he
    subst he
    have hU9 := ((hU5.trans hU6 (fun _ _ h => h)).trans hU7 (fun _ _ h => h)).trans hU8 (fun _ _ h => h)
    clear hU6 hU7 hU8 hU5 hT3 hT5
    by_cases hin : i = n
    · have hq2 : 0 < i → part (ys ++ xs) (i + m) 6 = part xs i 6 := Q2.out
      subst hin
      by_cases h0 : i = 0
      · subst h0
        go_wp2_with fail
        go_ret
        exact ⟨rfl, hU9⟩
      · rw [hq2 (by omega)]
        have h0' : ((i : Int) == 0) = false := by simp; omega
        clear hq2
        go_wp2_with fail
        go_ret
        exact ⟨rfl, hU9⟩
    · have hin' : ((i : Int) == (n : Int)) = false := by simp; omega
      rw [Q1.out (by omega)]
      by_cases h0 : i = 0
      · subst h0
        go_wp2_with fail
        go_ret
        exact ⟨rfl, hU9⟩
      · rw [Q2.out (by omega)]
        have h0' : ((i : Int) == 0) = false := by simp; omega
        go_wp2_with fail
        go_ret
        exact ⟨rfl, hU9⟩
end Go.Proofs.Ytmcagnahpgjilaa
