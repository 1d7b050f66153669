/-
  The walks of pike's fits and with.
-/
import Derived.Test.YtnkefclbchpafaaVisR
namespace Go.Proofs.Ytnkefclbchpafaa
open Go.RowKit
set_option linter.unusedVariables false

/-! ### ranges of a class rise -/
theorem rising {rs : List (Int × Int)} (h : rightB rs = true) : ∀ k x, rs[k]? = some x → x.1 ≤ x.2 ∧ ∀ y, rs[k + 1]? = some y → x.2 < y.1 := by
  have hf : rightFrom (prevOf rs 0) (rs.drop 0) = true := by
    unfold rightB at h
    rw [Bool.and_eq_true] at h
    exact h.2
  have hall : ∀ k, k ≤ rs.length → rightFrom (prevOf rs k) (rs.drop k) = true := by
    intro k
    induction k with
    | zero => intro _; exact hf
    | succ k ih =>
      intro hk
      have hx := List.getElem?_eq_getElem (show k < rs.length by omega)
      have h1 := ih (by omega)
      rw [rightFrom_drop hx, Bool.and_eq_true] at h1
      exact h1.2
  have hone : ∀ k x, rs[k]? = some x → rangeB (prevOf rs k) x = true := by
    intro k x hx
    have hl := (List.getElem?_eq_some_iff.1 hx).1
    have h1 := hall k (by omega)
    rw [rightFrom_drop hx, Bool.and_eq_true] at h1
    exact h1.1
  intro k x hx
  have h1 := hone k x hx
  unfold rangeB at h1
  simp only [Bool.and_eq_true, decide_eq_true_eq] at h1
  refine ⟨h1.1.1.2, fun y hy => ?_⟩
  have h2 := hone (k + 1) y hy
  unfold rangeB at h2
  rw [Bool.and_eq_true] at h2
  have h3 := h2.2
  rw [show prevOf rs (k + 1) = some x from hx] at h3
  have h4 : x.2 + 1 < y.1 := of_decide_eq_true h3
  omega
theorem rising_lt {rs : List (Int × Int)} (h : rightB rs = true) : ∀ (d i : Nat) (x y : Int × Int), rs[i]? = some x → rs[i + 1 + d]? = some y → x.2 < y.1
  | 0, i, x, y, hx, hy => (rising h i x hx).2 y hy
  | d + 1, i, x, y, hx, hy => by
    have hl := (List.getElem?_eq_some_iff.1 hy).1
    have hz := List.getElem?_eq_getElem (show i + 1 < rs.length by omega)
    have h1 := (rising h i x hx).2 _ hz
    have h2 := (rising h (i + 1) _ hz).1
    have h3 := rising_lt h d (i + 1) _ y hz (by rw [show i + 1 + 1 + d = i + 1 + (d + 1) by omega]; exact hy)
    omega
/-- what the halving comes to -/
theorem inB_at {rs : List (Int × Int)} (h : rightB rs = true) {c : Int} {k : Nat} (h1 : ∀ i x, i < k → rs[i]? = some x → x.2 < c) (h2 : ∀ i x, k ≤ i → rs[i]? = some x → c ≤ x.2) :
    inB rs c = match rs[k]? with | none => false | some x => decide (x.1 ≤ c) := by
  rw [Bool.eq_iff_iff]
  unfold inB
  rw [List.any_eq_true]
  constructor
  · rintro ⟨x, hm, hx⟩
    have hx := of_decide_eq_true hx
    obtain ⟨i, hi, e⟩ := List.getElem_of_mem hm
    have hi2 : rs[i]? = some x := by rw [List.getElem?_eq_getElem hi, e]
    have hki : k ≤ i := Classical.byContradiction fun hn => by have := h1 i x (by omega) hi2; omega
    have hkl : k < rs.length := by omega
    rw [List.getElem?_eq_getElem hkl]
    by_cases hek : k = i
    · subst hek
      rw [e]
      exact decide_eq_true hx.1
    · have h3 := rising_lt h (i - k - 1) k _ x (List.getElem?_eq_getElem hkl) (by rw [show k + 1 + (i - k - 1) = i by omega]; exact hi2)
      have h4 := h2 k _ (Nat.le_refl _) (List.getElem?_eq_getElem hkl)
      omega
  · intro hm
    rcases hk : rs[k]? with _ | x
    · rw [hk] at hm; cases hm
    · rw [hk] at hm
      exact ⟨x, List.mem_of_getElem? hk, decide_eq_true ⟨of_decide_eq_true hm, h2 k x (Nat.le_refl _) hk⟩⟩

set_option maxHeartbeats 1000000 in
theorem fits_any (w : World) (S : Nat → Prop) (b : Nat) (B : Option Addr) (m c' : Nat) (rs : List (Int × Int)) (T : Option Addr) (tc : Nat) (text : List Int) (j : Nat)
    (h3 : w.cell? ⟨b, 0 + 3, none⟩ = some (.slice T text.length tc)) (h4 : w.cell? ⟨b, 0 + 4, none⟩ = some (.int .i64 (j : Int))) (ht : TextR w S T text.length text) (hr : RangesR w S B m rs) (hrb : rightB rs = true) (hj : j ≤ text.length) :
    Calls Try.prog 52 #[.pointer (some ⟨b, 0, none⟩), .slice B m c'] w fun e w' => e = .returned (.bool (fitsB rs text j)) ∧ ∃ q, w' = w.drewN q := by
  obtain rfl : rs.length = m := hr.len
  have hn := ht.n
  have hm := hr.n
  by_cases hjl : j = text.length
  · subst hjl
    have hv : fitsB rs text text.length = false := by unfold fitsB; rw [List.getElem?_eq_none (Nat.le_refl _)]
    have HV := hideP hv
    clear hv hr ht
    go_enter Try.func52, Try.ntmps52
    go_wp2_with fail
    go_quiet (fail)
    go_wp2_with fail
    go_ret
    exact ⟨congrArg Ending.returned (congrArg Value.bool HV.out.symm), _, rfl⟩
  obtain ⟨ad2, cx, rfl, hcx, hcI, hat⟩ := ht.at_ (show j < text.length by omega)
  have hcc : w.cell? (ad2.add j) = some (.int .i64 cx) := hat w (Upd.refl _ _)
  have hv : fitsB rs text j = inB rs cx := by unfold fitsB; rw [hcx]; simp only [hasB, hrb, Bool.true_and]
  have hjb : ((j : Int) == (text.length : Int)) = false := beq_eq_false_iff_ne.2 (by omega)
  have hjn : ¬ (j : Int) = (text.length : Int) := by omega
  have hjlt : (j : Int) < (text.length : Int) := by omega
  have HV := hideP hv
  have HR := hideP hr
  have HRB := hideP hrb
  have hcI1 := hcI.1
  have hcI2 := hcI.2
  clear hv hr ht hat hrb hcx
  go_enter Try.func52, Try.ntmps52
  go_wp2_with fail
  go_quiet (fail)
  go_wp2_with fail
  go_quiet (fail)
  go_wp2_with fail
  clear hcc h3 h4
  go_loopg [6, 7, 8] rs.length (fun gk v6 v7 v8 wr => ∃ k t q : Nat, k + gk = t ∧ t ≤ rs.length ∧ v6 = .int .i64 (k : Int) ∧ v7 = .int .i64 (t : Int) ∧ wr = w.drewN q ∧ (∀ i x, i < k → rs[i]? = some x → x.2 < cx) ∧ (∀ i x, t ≤ i → rs[i]? = some x → cx ≤ x.2))
  case atStart => exact ⟨0, rs.length, _, by omega, Nat.le_refl _, rfl, rfl, rfl, fun i x h => absurd h (by omega), fun i x h hx => absurd (List.getElem?_eq_some_iff.1 hx).1 (by omega)⟩
  case round =>
    obtain ⟨k, t, q, hkt, htl, rfl, rfl, rfl, hlo, hhi⟩ := hrel
    by_cases hlt : k < t
    · have g1 : (k : Int) < (t : Int) := by omega
      obtain ⟨q2, hq2⟩ : ∃ q2, q2 = (k + t) / 2 := ⟨_, rfl⟩
      have hm2 : ((k : Int) + (t : Int)) / 2 = (q2 : Int) := by omega
      have hk2 : k ≤ q2 ∧ q2 < t := by omega
      clear hq2
      go_upto_region 7 with fail
      rw [hm2]
      clear hm2
      obtain ⟨ad, x, g, o, rfl, hx, i1, i2, hadd, c0, c1, -⟩ := HR.out.at1 (show q2 < rs.length by omega)
      have g2 : (q2 : Int) < (rs.length : Int) := by omega
      obtain ⟨lo, hi⟩ := x
      simp only at c0 c1
      have c1' : (w.drewN q).cell? ⟨g, o + 1, none⟩ = some (.int .i64 hi) := c1
      have HX := hideP hx
      have HLO := hideP hlo
      have HHI := hideP hhi
      clear hx hlo hhi c0
      by_cases hc2 : hi < cx
      · go_wp2_with fail
        go_roundg (t - (q2 + 1))
        case measure => omega
        case rel =>
          refine ⟨q2 + 1, t, q, by omega, htl, by go_num, rfl, rfl, fun i x hi2 hx2 => ?_, HHI.out⟩
          by_cases hiq : i = q2
          · subst hiq
            have e := HX.out
            rw [hx2] at e
            injection e with e
            rw [e]
            exact hc2
          · rcases Nat.lt_or_ge i k with h5 | h5
            · exact HLO.out i x h5 hx2
            · have h6 := rising_lt HRB.out (q2 - i - 1) i x _ hx2 (by rw [show i + 1 + (q2 - i - 1) = q2 by omega]; exact HX.out)
              have h7 := (rising HRB.out q2 _ HX.out).1
              simp only at h6 h7
              omega
      · have hc3 : decide (hi < cx) = false := decide_eq_false hc2
        go_wp2_with fail
        go_roundg (q2 - k)
        case measure => omega
        case rel =>
          refine ⟨k, q2, q, by omega, by omega, rfl, rfl, rfl, HLO.out, fun i x hi2 hx2 => ?_⟩
          by_cases hiq : i = q2
          · subst hiq
            have e := HX.out
            rw [hx2] at e
            injection e with e
            rw [e]
            show cx ≤ hi
            omega
          · have h6 := rising_lt HRB.out (i - q2 - 1) q2 _ x HX.out (by rw [show q2 + 1 + (i - q2 - 1) = i by omega]; exact hx2)
            have h7 := (rising HRB.out i _ hx2).1
            simp only at h6 h7
            omega
    · obtain rfl : k = t := by omega
      have hA := inB_at HRB.out hlo hhi
      have HA := hideP (HV.out.trans hA)
      clear hA hlo hhi
      have g1 : ¬ (k : Int) < (k : Int) := by omega
      by_cases hkl : k < rs.length
      · obtain ⟨ad, x, g, o, rfl, hx, i1, i2, hadd, c0, c1, -⟩ := HR.out.at1 hkl
        have g2 : (k : Int) < (rs.length : Int) := by omega
        obtain ⟨lo, hi⟩ := x
        simp only at c0 c1
        have c0' : (w.drewN q).cell? ⟨g, o, none⟩ = some (.int .i64 lo) := c0
        have HA2 := hideP (HA.out.trans (show _ = decide (lo ≤ cx) by rw [hx]))
        clear hx
        go_wp2_with fail
        go_ret
        exact ⟨congrArg Ending.returned (congrArg Value.bool HA2.out.symm), _, rfl⟩
      · have g2 : ¬ (k : Int) < (rs.length : Int) := by omega
        have HA2 := hideP (HA.out.trans (show _ = false by rw [List.getElem?_eq_none (by omega)]))
        go_wp2_with fail
        go_ret
        exact ⟨congrArg Ending.returned (congrArg Value.bool HA2.out.symm), _, rfl⟩

set_option maxHeartbeats 1000000 in
theorem with_any (w : World) (S : Nat → Prop) (A : Option Addr) (n c : Nat) (caps : List Int) (i : Nat) (p : Int) (hr : Reads w S 1 A n (intv caps)) (hn : n ≤ 1002) (hi : i < n) :
    Calls Try.prog 53 #[.slice A n c, .int .i64 (i : Int), .int .i64 p] w fun e w' =>
      ∃ g, e = .returned (.slice (some ⟨g, 0, none⟩) n n) ∧ w'.ownsRow w.heap.size 3 1 (.slice (some ⟨g, 0, none⟩) n n) n (intv (caps.set i p)) ∧ Upd Nob w w' := by
  obtain ⟨i0, hi0, hz0, hz1, hz2⟩ := info_parts vinfo_int
  have hl : caps.length = n := by have := hr.1; simpa [intv] using this
  have hz : (madeCells (Value.int .i64 0).cells (n * 1)).toList = List.replicate n (.int .i64 0) := by
    have : (Value.int .i64 0).cells = #[Value.int .i64 0] := rfl
    rw [this, toList_madeCells_one, Nat.mul_one]
  have HZ := hideP hz
  have HX := hideP hr
  have hii : (i : Int) < (n : Int) := by omega
  clear hz hr
  go_enter Try.func53, Try.ntmps53
  go_wp2_with (first
    | (at_make; refine wpList_make_full w rfl (.tmp 9) (.tmp 9) 28 rfl w.heap.size 3 i0 (.int .i64 0) 1 Try.underlying28 hi0 hz0 hz1 .i64 .i64 (n : Int) (n : Int) n rfl rfl rfl rfl (by rw [hz2]; omega) (by unfold maxLen; omega) (Nat.le_refl _) ?_; intro w1 o1 hg1; rw [HZ.out] at o1; have hr1 := HX.out.upd ((Upd.refl Nob w).grown hg1 (by simp)) (fun _ _ => not_nob))
    | ((with_reducible show wpList _ _ _ _ _ _); refine wpList_copy_reads rfl (.tmp 11) (.tmp 12) 28 28 rfl w.heap.size 3 i0 1 Try.underlying28 hi0 hz1 w.heap.size n n _ rfl o1 S A n c (intv caps) rfl hr1 (intv_one caps) (Nat.le_refl _) ?_; intro w2 o2 hg2; have fz : w2.frozen? ⟨w.heap.size, i, none⟩ = false := o2.frozenAt i; obtain ⟨u, cu⟩ : ∃ u, w2.cell? ⟨w.heap.size, i, none⟩ = some u := by
        rw [o2.cellAt i (by omega)]
        exact ⟨_, List.getElem?_eq_getElem (by have := o2.1; omega)⟩))
  go_ret
  have hd : intv caps ++ (List.replicate n (Value.int .i64 0)).drop (n * 1) = intv caps := by
    rw [List.drop_eq_nil_of_le (by simp), List.append_nil]
  rw [hd] at o2
  have o3 := (o2.stored i (.int .i64 p)).1
  have e3 : (intv caps).set i (.int .i64 p) = intv (caps.set i p) := by simp [intv, List.map_set]
  rw [e3] at o3
  refine ⟨_, rfl, o3, (((Upd.refl Nob w).grown hg1 (by simp)).grown hg2 ?_).setCell _ _ ?_⟩
  · intro k hk hlt; injection hk with hk; omega
  · intro hlt; simp at hlt
end Go.Proofs.Ytnkefclbchpafaa
