/-
  heronlaw02.LookBeside: the plain law, the walk.
-/
import Derived.Test.YtmcagnahpgjilaaPut
namespace Go.Proofs.Ytmcagnahpgjilaa
open Go.RowKit
set_option linter.unusedVariables false

/-- the list that the law makes: the same runes beside the place, others further on -/
def besA (ys : List Int) (i : Nat) : List Int := if 1 < i then ys else []
def besB (xs : List Int) (i : Nat) : List Int := if 0 < i then (xs[i - 1]?).toList else []
def besC (xs : List Int) (i : Nat) : List Int := (xs[i]?).toList
def besD (xs ys : List Int) (i : Nat) : List Int := if i + 1 < xs.length then ys else []
theorem beside (xs ys : List Int) (i : Nat) (hi : i ≤ xs.length) :
    part (((besA ys i ++ besB xs i) ++ besC xs i) ++ besD xs ys i) (besA ys i ++ besB xs i).length 6 = part xs i 6 := by
  by_cases hn : i = xs.length
  · have hC : besC xs i = [] := by simp [besC, List.getElem?_eq_none (show xs.length ≤ i by omega)]
    have hD : besD xs ys i = [] := by unfold besD; rw [if_neg (by omega)]
    rw [hC, hD, List.append_nil, List.append_nil]
    by_cases h0 : i = 0
    · subst h0
      simp only [besA, besB, Nat.lt_irrefl, if_false, Nat.not_lt_zero]
      refine part_congr _ _ _ _ (by simp) (by simp; omega) (fun h => absurd rfl h) (fun h => ?_) (by simp) hi
      simp at h
    · obtain ⟨x, hx⟩ : ∃ x, xs[i - 1]? = some x := ⟨xs[i - 1], by rw [List.getElem?_eq_getElem]⟩
      have hB : besB xs i = [x] := by unfold besB; rw [if_pos (by omega), hx]; rfl
      rw [hB]
      refine part_congr _ _ _ _ (by simp; omega) (by simp; omega) (fun _ => ?_) (fun h => ?_) (by simp) hi
      · rw [hx]; simp
      · simp at h
  · obtain ⟨z, hz⟩ : ∃ z, xs[i]? = some z := ⟨xs[i]'(by omega), by rw [List.getElem?_eq_getElem]⟩
    have hC : besC xs i = [z] := by simp [besC, hz]
    rw [hC]
    have hg : (((besA ys i ++ besB xs i) ++ [z]) ++ besD xs ys i)[(besA ys i ++ besB xs i).length]? = some z := by
      rw [List.append_assoc, List.getElem?_append_right (Nat.le_refl _)]
      simp
    by_cases h0 : i = 0
    · subst h0
      refine part_congr _ _ _ _ (by simp [besA, besB]) ?_ (fun h => ?_) (fun h => by rw [hg, hz]) (by simp only [List.length_append]; omega) hi
      · simp only [List.length_append, List.length_cons, List.length_nil]; omega
      · simp [besA, besB] at h
    · obtain ⟨x, hx⟩ : ∃ x, xs[i - 1]? = some x := ⟨xs[i - 1]'(by omega), by rw [List.getElem?_eq_getElem]⟩
      have hB : besB xs i = [x] := by unfold besB; rw [if_pos (by omega), hx]; rfl
      rw [hB] at hg ⊢
      refine part_congr _ _ _ _ (by simp; omega) ?_ (fun _ => ?_) (fun h => by rw [hg, hz]) (by simp only [List.length_append]; omega) hi
      · simp only [List.length_append, List.length_cons, List.length_nil]; omega
      · rw [hx, List.append_assoc, List.append_assoc]
        simp

theorem holds_parts (xs : List Int) (i : Nat) : holdsB 16 (part xs i 6) = edgeB xs i ∧ holdsB 32 (part xs i 6) = !edgeB xs i ∧ holdsB 1 (part xs i 6) = firstB i ∧ holdsB 4 (part xs i 6) = beginB xs i ∧ holdsB 2 (part xs i 6) = lastB xs i ∧ holdsB 8 (part xs i 6) = endB xs i := by
  rw [part6]
  cases edgeB xs i <;> cases firstB i <;> cases beginB xs i <;> cases lastB xs i <;> cases endB xs i <;> decide +kernel

theorem bes_in64 {xs ys : List Int} (h1 : ∀ x ∈ xs, In64 x) (h2 : ∀ x ∈ ys, In64 x) (i : Nat) : ∀ x ∈ besA ys i ++ besB xs i ++ besC xs i ++ besD xs ys i, In64 x := by
  have ht : ∀ (k : Nat) (x : Int), x ∈ (xs[k]?).toList → In64 x := by
    intro k x hx
    have : xs[k]? = some x := by simpa using hx
    exact h1 x (List.mem_of_getElem? (l := xs) this)
  refine in64_append (in64_append (in64_append ?_ ?_) (ht i)) ?_
  · unfold besA; split
    · exact h2
    · simp
  · unfold besB; split
    · exact ht _
    · simp
  · unfold besD; split
    · exact h2
    · simp

set_option maxRecDepth 100000 in
set_option maxHeartbeats 4000000 in
theorem lookBeside_any (w : World) (A B : Option Addr) (n c m d : Nat) (xs ys : List Int) (p : Int) (hx : TextR w (· < w.heap.size) A n xs) (hp : In64 p) (hy : TextR w (· < w.heap.size) B m ys) (hn : n ≤ 1048576) (hm : m ≤ 1048576) :
    Calls Try.prog 5 #[.slice A n c, .int .i64 p, .slice B m d] w fun e w' => e = .returned (.bool true) ∧ Upd Nob w w' := by
  obtain ⟨i0, hi0, hz0, hz1, hz2⟩ := info_parts info_int
  have hlx := hx.len
  have hly := hy.len
  have hp1 := hp.1
  have hp2 := hp.2
  by_cases hin : p < 0 ∨ (n : Int) < p
  · have hr1 : lookAt xs p = 0 := by unfold lookAt; rw [if_neg (by omega)]
    have R1 := hide hr1
    rcases (by omega : p < 0 ∨ (¬ p < 0 ∧ (n : Int) < p)) with h | ⟨h, h'⟩
    · clear hin hr1
      go_enter Try.func5, Try.ntmps5
      go_wp2_with (first
        | (go_at_call 8; refine (awake_any w).mono ?_; rintro e w1 ⟨rfl, hU1⟩)
        | (go_at_call 10; refine (at_any w1 _ A n c p xs (hx.upd hU1 (fun _ _ => not_nob)) hp).mono ?_; rintro e w2 ⟨he, hU2⟩; rw [R1.out] at he; subst he))
      go_ret
      exact ⟨rfl, hU1.trans hU2 (fun _ _ h => h)⟩
    · clear hin hr1
      go_enter Try.func5, Try.ntmps5
      go_wp2_with (first
        | (go_at_call 8; refine (awake_any w).mono ?_; rintro e w1 ⟨rfl, hU1⟩)
        | (go_at_call 10; refine (at_any w1 _ A n c p xs (hx.upd hU1 (fun _ _ => not_nob)) hp).mono ?_; rintro e w2 ⟨he, hU2⟩; rw [R1.out] at he; subst he))
      go_ret
      exact ⟨rfl, hU1.trans hU2 (fun _ _ h => h)⟩
  · obtain ⟨i, rfl⟩ := Int.eq_ofNat_of_zero_le (by omega : 0 ≤ p)
    have hi : i ≤ n := by omega
    have hr1 : lookAt xs (i : Int) = part xs i 6 := by unfold lookAt; rw [if_pos (by omega)]; simp
    have R1 := hide hr1
    have HX := hide hx
    have HY := hide hy
    have HP := hide (holds_parts xs i)
    clear hr1 hx hy hin
    go_enter Try.func5, Try.ntmps5
    go_wp2_with fail
    refine (awake_any w).mono ?_
    rintro e w1 ⟨rfl, hU1⟩
    go_wp2_with fail
    refine (at_any w1 _ A n c (i : Int) xs (HX.out.upd hU1 (fun _ _ => not_nob)) hp).mono ?_
    rintro e w2 ⟨he, hU2⟩
    rw [R1.out] at he
    subst he
    have hU := hU1.trans hU2 (fun _ _ h => h)
    clear hU1 hU2
    go_wp2_with fail
    refine (holds_any w2 16 _).mono ?_
    rintro e w' ⟨he, rfl⟩
    rw [HP.out.1] at he
    subst he
    go_wp2_with fail
    refine (holds_any w2 32 _).mono ?_
    rintro e w' ⟨he, rfl⟩
    rw [HP.out.2.1] at he
    subst he
    go_wp2_with fail
    refine (holds_any w2 1 _).mono ?_
    rintro e w' ⟨he, rfl⟩
    rw [HP.out.2.2.1] at he
    subst he
    go_wp2_with fail
    refine (holds_any w2 4 _).mono ?_
    rintro e w' ⟨he, rfl⟩
    rw [HP.out.2.2.2.1] at he
    subst he
    go_wp2_with fail
    refine (holds_any w2 2 _).mono ?_
    rintro e w' ⟨he, rfl⟩
    rw [HP.out.2.2.2.2.1] at he
    subst he
    go_wp2_with fail
    refine (holds_any w2 8 _).mono ?_
    rintro e w' ⟨he, rfl⟩
    rw [HP.out.2.2.2.2.2] at he
    subst he
    have hv : ∃ v, part xs i 6 = v := ⟨_, rfl⟩
    obtain ⟨v, hv⟩ := hv
    have hb := beside xs ys i (by omega)
    rw [hv] at hb
    have HB := hide hb
    have HV := hide hv
    rw [hv]
    clear hv hb HP
    have hfq : firstB i = decide (i = 0) := rfl
    have hlq : lastB xs i = decide (i = n) := by unfold lastB; rw [hlx]
    have hbq : i = 0 → beginB xs i = true := by intro h; simp [beginB, h]
    have heq : i = n → endB xs i = true := by intro h; simp [endB, h, hlx]
    generalize firstB i = f1 at *
    generalize lastB xs i = f2 at *
    generalize beginB xs i = f3 at *
    generalize endB xs i = f4 at *
    generalize edgeB xs i = f5 at *
    have FQ := hide hfq
    have LQ := hide hlq
    have BQ := hide hbq
    have EQ := hide heq
    clear hfq hlq hbq heq
    go_upto_region 11 with fail
    go_cut [82] (fun v82 wc => w2 = wc ∧ v82 = .bool false)
    case first =>
      by_cases h0 : i = 0
      · have e1 : f1 = true := by rw [FQ.out]; simp [h0]
        have e3 := BQ.out h0
        clear BQ
        subst e1 e3 h0
        by_cases h1 : n = 0
        · have e2 : f2 = true := by rw [LQ.out]; simp [h1]
          have e5 := EQ.out h1.symm
          clear EQ
          subst e2 e5 h1
          cases f5
          all_goals
            go_wp2_with fail
            go_meet
            exact ⟨rfl, rfl⟩
        · have e2 : f2 = false := by rw [LQ.out]; simp; omega
          have e3 : ((0 : Int) == (n : Int)) = false := by simp; omega
          subst e2
          cases f5
          all_goals
            go_wp2_with fail
            go_meet
            exact ⟨rfl, rfl⟩
      · have e1 : f1 = false := by rw [FQ.out]; simp [h0]
        have e4 : ((i : Int) == 0) = false := by simp; omega
        subst e1
        by_cases h1 : i = n
        · have e2 : f2 = true := by rw [LQ.out]; simp [h1]
          have e5 := EQ.out h1
          clear EQ
          subst e2 e5 h1
          cases f5
          all_goals
            go_wp2_with fail
            go_meet
            exact ⟨rfl, rfl⟩
        · have e2 : f2 = false := by rw [LQ.out]; simp; omega
          have e3 : ((i : Int) == (n : Int)) = false := by simp; omega
          subst e2
          cases f5
          all_goals
            go_wp2_with fail
            go_meet
            exact ⟨rfl, rfl⟩
    case rest =>
      obtain ⟨rfl, rfl⟩ := hcut
      go_upto_if 84 with fail
      go_cut [15] (fun v15 wc => ∃ A2 k2 c2, v15 = .slice A2 k2 c2 ∧ k2 = (besA ys i).length ∧ k2 ≤ 1048576 ∧ wc.ownsRow w.heap.size 3 1 (.slice A2 k2 c2) k2 (intv (besA ys i)) ∧ Upd Nob w wc)
      case first =>
        by_cases h1 : 1 < i
        · have e1 : besA ys i = ys := by unfold besA; rw [if_pos h1]
          have E1 := hide e1
          clear e1
          go_wp2_with (at_builtin; refine wpList_append_reads rfl (.tmp 85) (.tmp 86) 22 rfl w.heap.size 3 i0 (.int .i64 0) 1 8 Try.underlying22 hi0 hz0 hz1 hz2 rfl (by decide) (.slice none 0 0) 0 [] rfl (World.ownsRow_nil _ _ _ _) _ B m d (intv ys) rfl (HY.out.r.upd hU (fun _ _ => not_nob)) (intv_one ys) (by unfold maxLen; omega) (by omega) hU.size ?_; intro v2 w3 o2 g2 a2; simp only [Nat.zero_add, List.nil_append] at o2; obtain ⟨A2, c2, rfl⟩ := own_shape o2)
          go_meet
          exact ⟨A2, m, c2, rfl, by rw [E1.out, hly], hm, by rw [E1.out]; exact o2, hU.trans ((Upd.refl Nob _).grown g2 (by simp [Value.ownBlock])) (fun _ _ h => h)⟩
        · have e1 : besA ys i = [] := by unfold besA; rw [if_neg h1]
          go_wp2_with fail
          go_meet
          exact ⟨none, 0, 0, rfl, by rw [e1]; rfl, by omega, by rw [e1]; exact World.ownsRow_nil _ _ _ _, hU⟩
      case rest =>
        clear hU
        obtain ⟨A2, k2, c2, rfl, hk2, hk2m, o2, hU⟩ := hcut
        have HK2 := hide hk2
        clear hk2
        go_upto_if 89 with fail
        go_cut [15] (fun v15 wc => ∃ A3 k3 c3, v15 = .slice A3 k3 c3 ∧ k3 = (besA ys i ++ besB xs i).length ∧ k3 ≤ 1048577 ∧ wc.ownsRow w.heap.size 3 1 (.slice A3 k3 c3) k3 (intv (besA ys i ++ besB xs i)) ∧ Upd Nob w wc)
        case first =>
          by_cases h1 : i = 0
          · have e1 : besB xs i = [] := by unfold besB; rw [if_neg (by omega)]
            have E1 := hide e1
            clear e1
            have O2 := hide o2
            clear o2
            subst h1
            go_wp2_with fail
            go_meet
            exact ⟨A2, k2, c2, rfl, by rw [E1.out, List.append_nil]; exact HK2.out, by omega, by rw [E1.out, List.append_nil]; exact O2.out, hU⟩
          · obtain ⟨j, hj⟩ : ∃ j, i = j + 1 := ⟨i - 1, by omega⟩
            obtain ⟨ad, y, rfl, hyk, hyi, hyc⟩ := HX.out.at_ (k := j) (by omega)
            have hc := hyc _ hU
            have e1 : besB xs i = [y] := by subst hj; unfold besB; rw [if_pos (by omega), Nat.add_sub_cancel, hyk]; rfl
            have hij : (i : Int) - 1 = (j : Int) := by omega
            have hi0' : 0 < i := by omega
            have hjn : j < n := by omega
            clear hj
            have E1 := hide e1
            clear e1 hyk hyc h1
            go_wp2_with (at_builtin; refine wpList_append_own_at _ rfl _ _ 22 rfl w.heap.size 3 i0 (.int .i64 0) 1 8 Try.underlying22 hi0 hz0 hz1 hz2 rfl (by decide) _ _ _ rfl (o2.alloc _) ⟨wc.heap.size, 0, none⟩ 1 1 [.int .i64 y] rfl rfl ?c1 ?c2 ?c3 ?c4 ?c5 ?_)
            case c1 =>
              intro j u hj
              match j, hj with
              | 0, hj => simp at hj; subst hj; simp [Addr.add]
            case c2 => intro u hu; simp at hu; subst hu; rfl
            case c3 => unfold maxLen; omega
            case c4 => omega
            case c5 => have := hU.size; simp; omega
            intro v' w5 hown' hg _ hat
            have hlt5 := o2.lt
            obtain ⟨A5, c5, rfl⟩ := own_shape hown'
            have hU5 : Upd Nob w w5 := (hU.alloc _).grown hg (fun k' hk' hlt => by have := (hlt5 k' hk').1; omega)
            clear o2 hg hat hlt5 hc hU
            go_wp2_with fail
            go_meet
            exact ⟨A5, k2 + 1, c5, rfl, by rw [E1.out, List.length_append, ← HK2.out]; rfl, by omega, by rw [E1.out, intv_append]; exact hown', hU5⟩
        case rest =>
          clear hU o2 hk2m
          obtain ⟨A3, k3, c3, rfl, hk3, hk3m, o3, hU⟩ := hcut
          have HK3 := hide hk3
          clear hk3
          go_upto_if 103 with fail
          go_cut [15] (fun v15 wc => ∃ A4 k4 c4, v15 = .slice A4 k4 c4 ∧ k4 = (besA ys i ++ besB xs i ++ besC xs i).length ∧ k4 ≤ 1048578 ∧ wc.ownsRow w.heap.size 3 1 (.slice A4 k4 c4) k4 (intv (besA ys i ++ besB xs i ++ besC xs i)) ∧ Upd Nob w wc)
          case first =>
            by_cases h1 : i = n
            · have e1 : besC xs i = [] := by unfold besC; rw [List.getElem?_eq_none (by omega)]; rfl
              have E1 := hide e1
              have O3 := hide o3
              clear e1 o3
              subst h1
              go_wp2_with fail
              go_meet
              exact ⟨A3, k3, c3, rfl, by rw [E1.out, List.append_nil]; exact HK3.out, by omega, by rw [E1.out, List.append_nil]; exact O3.out, hU⟩
            · obtain ⟨ad, y, rfl, hyk, hyi, hyc⟩ := HX.out.at_ (k := i) (by omega)
              have hc := hyc _ hU
              have e1 : besC xs i = [y] := by unfold besC; rw [hyk]; rfl
              have E1 := hide e1
              have hin1 : i < n := by omega
              clear e1 hyk hyc h1
              go_wp2_with (at_builtin; refine wpList_append_own_at _ rfl _ _ 22 rfl w.heap.size 3 i0 (.int .i64 0) 1 8 Try.underlying22 hi0 hz0 hz1 hz2 rfl (by decide) _ _ _ rfl (o3.alloc _) ⟨wc.heap.size, 0, none⟩ 1 1 [.int .i64 y] rfl rfl ?d1 ?d2 ?d3 ?d4 ?d5 ?_)
              case d1 =>
                intro j u hj
                match j, hj with
                | 0, hj => simp at hj; subst hj; simp [Addr.add]
              case d2 => intro u hu; simp at hu; subst hu; rfl
              case d3 => unfold maxLen; omega
              case d4 => omega
              case d5 => have := hU.size; simp; omega
              intro v' w5 hown' hg _ hat
              have hlt5 := o3.lt
              obtain ⟨A5, c5, rfl⟩ := own_shape hown'
              have hU5 : Upd Nob w w5 := (hU.alloc _).grown hg (fun k' hk' hlt => by have := (hlt5 k' hk').1; omega)
              clear o3 hg hat hlt5 hc hU
              go_wp2_with fail
              go_meet
              exact ⟨A5, k3 + 1, c5, rfl, by rw [E1.out, List.length_append, ← HK3.out]; rfl, by omega, by rw [E1.out, intv_append]; exact hown', hU5⟩
          case rest =>
            clear hU o3
            obtain ⟨A4, k4, c4, rfl, hk4, hk4m, o4, hU⟩ := hcut
            have HK4 := hide hk4
            clear hk4
            go_upto_if 115 with fail
            go_cut [15] (fun v15 wc => ∃ A6 k6 c6, v15 = .slice A6 k6 c6 ∧ k6 = (besA ys i ++ besB xs i ++ besC xs i ++ besD xs ys i).length ∧ k6 ≤ 2097154 ∧ wc.ownsRow w.heap.size 3 1 (.slice A6 k6 c6) k6 (intv (besA ys i ++ besB xs i ++ besC xs i ++ besD xs ys i)) ∧ Upd Nob w wc)
            case first =>
              by_cases h1 : i + 1 < n
              · have e1 : besD xs ys i = ys := by unfold besD; rw [if_pos (by omega)]
                have E1 := hide e1
                clear e1
                go_wp2_with (at_builtin; refine wpList_append_reads rfl (.tmp 116) (.tmp 117) 22 rfl w.heap.size 3 i0 (.int .i64 0) 1 8 Try.underlying22 hi0 hz0 hz1 hz2 rfl (by decide) (.slice A4 k4 c4) k4 (intv (besA ys i ++ besB xs i ++ besC xs i)) rfl o4 _ B m d (intv ys) rfl (HY.out.r.upd hU (fun _ _ => not_nob)) (intv_one ys) (by unfold maxLen; omega) (by omega) hU.size ?_; intro v2 w3 o2 g2 a2; obtain ⟨A5, c5, rfl⟩ := own_shape o2)
                go_meet
                exact ⟨A5, k4 + m, c5, rfl, by rw [E1.out, List.length_append, ← HK4.out, hly], by omega, by rw [E1.out, intv_append]; exact o2, hU.trans ((Upd.refl (fun k => w.heap.size ≤ k) _).grown g2 (fun k hk _ => (o4.lt k hk).1)) (fun k hk h => absurd h (by omega))⟩
              · have e1 : besD xs ys i = [] := by unfold besD; rw [if_neg (by omega)]
                have E1 := hide e1
                have O4 := hide o4
                clear e1 o4
                go_wp2_with fail
                go_meet
                exact ⟨A4, k4, c4, rfl, by rw [E1.out, List.append_nil]; exact HK4.out, by omega, by rw [E1.out, List.append_nil]; exact O4.out, hU⟩
            case rest =>
              clear hU o4
              obtain ⟨A6, k6, c6, rfl, hk6, hk6m, o6, hU⟩ := hcut
              have hT : TextR _ _ A6 k6 (besA ys i ++ besB xs i ++ besC xs i ++ besD xs ys i) := ⟨Reads.of_own o6, ?ints, ?small⟩
              · have hle : k3 ≤ k6 := by
                  have := HK3.out
                  rw [hk6, this]
                  simp only [List.length_append]
                  omega
                have hr2 : lookAt (besA ys i ++ besB xs i ++ besC xs i ++ besD xs ys i) (k3 : Int) = v := by
                  unfold lookAt
                  rw [if_pos (by rw [← hk6]; omega)]
                  have := HB.out
                  rw [← HK3.out] at this
                  simpa using this
                have R2 := hide hr2
                clear hr2 hk6 o6
                go_wp2_with fail
                refine (at_any _ _ A6 k6 c6 (k3 : Int) _ hT ?_).mono ?_
                · unfold In64; omega
                rintro e w8 ⟨he, hU8⟩
                rw [R2.out] at he
                subst he
                go_wp2_with fail
                go_ret
                exact ⟨ret_bool (by simp), hU.trans hU8 (fun _ _ h => h)⟩
              case ints => exact bes_in64 HX.out.i HY.out.i i
              case small => omega
end Go.Proofs.Ytmcagnahpgjilaa
