/-
  heronlaw15.LiteralAll: the plain law, the walk.
-/
import Derived.Test.YtebbnjbgmcdbcaaAwake
import Derived.Test.YtebbnjbgmcdbcaaWide
namespace Go.Proofs.Ytebbnjbgmcdbcaa
open Go.RowKit
set_option linter.unusedVariables false

/-! ### where a row stands, place by place -/
theorem stands_char {P T : List Int} {i : Nat} (hi : i ≤ T.length) : standsB P T i = true ↔ i + P.length ≤ T.length ∧ ∀ j, j < P.length → T[i + j]? = P[j]? := by
  constructor
  · intro h
    refine ⟨stands_len h, fun j hj => ?_⟩
    obtain ⟨_, r, hr⟩ := standsB_iff.1 h
    have : (T.drop i)[j]? = P[j]? := by rw [← hr, List.getElem?_append_left hj]
    rw [← this, List.getElem?_drop]
  · rintro ⟨h1, h2⟩
    refine standsB_iff.2 ⟨hi, ?_⟩
    rw [List.prefix_iff_eq_take]
    refine List.ext_getElem? fun j => ?_
    rw [List.getElem?_take, List.getElem?_drop]
    split
    · rename_i hj
      exact (h2 j hj).symm
    · rename_i hj
      exact List.getElem?_eq_none (by omega)
/-- what the law's own loop has told up to k -/
def Told (P T : List Int) (i k : Nat) (b : Bool) : Prop := b = true ↔ i + P.length ≤ T.length ∧ ∀ j, j < k → T[i + j]? = P[j]?
theorem told_zero {P T : List Int} {i : Nat} {b : Bool} (h : b = decide (i + P.length ≤ T.length)) : Told P T i 0 b := by
  unfold Told
  rw [h]
  simp
theorem told_more {P T : List Int} {i k : Nat} {x y : Int} (h : Told P T i k true) (hx : T[i + k]? = some x) (hy : P[k]? = some y) : Told P T i (k + 1) (x == y) := by
  obtain ⟨h1, h2⟩ := h.1 rfl
  constructor
  · intro e
    have e' : x = y := by simpa using e
    subst e'
    refine ⟨h1, fun j hj => ?_⟩
    by_cases hjk : j = k
    · subst hjk; rw [hx, hy]
    · exact h2 j (by omega)
  · rintro ⟨_, h3⟩
    have := h3 k (by omega)
    rw [hx, hy] at this
    injection this with this
    simp [this]
theorem told_end {P T : List Int} {i : Nat} {b : Bool} (hi : i ≤ T.length) (h : Told P T i P.length b) : standsB P T i = b := by
  rcases b with _ | _
  · rcases hs : standsB P T i with _ | _
    · rfl
    · have := h.2 ((stands_char hi).1 hs)
      cases this
  · exact (stands_char hi).2 (h.1 rfl)
theorem told_stop {P T : List Int} {i k : Nat} (hi : i ≤ T.length) (hk : k ≤ P.length) (h : Told P T i k false) : standsB P T i = false := by
  rcases hs : standsB P T i with _ | _
  · rfl
  · obtain ⟨h1, h2⟩ := (stands_char hi).1 hs
    have := h.2 ⟨h1, fun j hj => h2 j (by omega)⟩
    cases this
theorem stands_put (P T : List Int) {k : Nat} (hk : k ≤ T.length) : standsB P (T.take k ++ P ++ T.drop k) k = true := by
  refine standsB_iff.2 ⟨by simp; omega, ?_⟩
  have : (T.take k ++ P ++ T.drop k).drop k = P ++ T.drop k := by
    rw [List.append_assoc]
    exact List.drop_left' (by simp [hk])
  rw [this]
  exact ⟨_, rfl⟩
theorem next_least {P T : List Int} {k : Nat} (h : standsB P T k = true) : ∃ r : Nat, nextOf P T 0 = (r : Int) ∧ r ≤ k := by
  have hk := (standsB_iff.1 h).1
  obtain ⟨r, hr, hle, hn⟩ : ∃ r, standsB P T r = true ∧ r ≤ k ∧ ∀ s, s < r → standsB P T s = false := by
    have : ∀ n, (∃ r, standsB P T r = true ∧ r ≤ k ∧ r < n) → ∃ r, standsB P T r = true ∧ r ≤ k ∧ ∀ s, s < r → standsB P T s = false := by
      intro n
      induction n with
      | zero => rintro ⟨r, _, _, h⟩; omega
      | succ n ih =>
        rintro ⟨r, h1, h2, h3⟩
        by_cases hm : ∃ s, s < r ∧ standsB P T s = true
        · obtain ⟨s, h4, h5⟩ := hm
          exact ih ⟨s, h5, by omega, by omega⟩
        · refine ⟨r, h1, h2, fun s hs => ?_⟩
          rcases h6 : standsB P T s with _ | _
          · rfl
          · exact absurd ⟨s, hs, h6⟩ hm
    exact this (k + 1) ⟨k, h, Nat.le_refl _, by omega⟩
  exact ⟨r, nextOf_some (a := 0) (Nat.zero_le _) hr (fun s _ hs => hn s hs), hle⟩

/-- the law's 'at': not below 0 -/
def turned (a : Int) : Int := if a < 0 then -(a + 1) else a
theorem turned_nat {a : Int} (h : In64 a) : ∃ t : Nat, turned a = (t : Int) ∧ (t : Int) ≤ 9223372036854775807 := by
  have h1 := h.1
  have h2 := h.2
  unfold turned
  split
  · exact ⟨(-(a + 1)).toNat, by omega, by omega⟩
  · exact ⟨a.toNat, by omega, by omega⟩
theorem rem_nat (t m : Nat) : (t : Int).tmod ((m : Int) + 1) = ((t % (m + 1) : Nat) : Int) := by
  rw [Int.tmod_eq_emod_of_nonneg (by omega), Int.natCast_emod]
  rfl
theorem rem_nat' (t m : Nat) : (t : Int) % ((m : Int) + 1) = ((t % (m + 1) : Nat) : Int) := by
  rw [Int.natCast_emod]
  rfl
theorem Reads.drewN_ {w : World} {S : Nat → Prop} {size n : Nat} {A : Option Addr} {xs : List Value} (h : Reads w S size A n xs) (q : Nat) : Reads (w.drewN q) S size A n xs := h.upd ((Upd.refl Nob w).drewN q) (fun _ _ => not_nob)
theorem Reads.head {w : World} {S : Nat → Prop} {m : Nat} {A : Option Addr} {xs : List Int} (h : Reads w S 1 A m (intv xs)) {k : Nat} (hk : k ≤ m) : Reads w S 1 A k (intv (xs.take k)) := by
  have hl : xs.length = m := by have := h.1; simpa [intv] using this
  refine ⟨by simp [intv]; omega, fun hn => ?_⟩
  obtain ⟨ad, e, hb, hs, hc⟩ := h.2 (by omega)
  refine ⟨ad, e, hb, hs, fun j u hj => hc j u ?_⟩
  simp only [intv, List.map_take, List.getElem?_take] at hj
  split at hj
  · exact hj
  · cases hj
theorem Reads.tail {w : World} {S : Nat → Prop} {m : Nat} {A : Option Addr} {xs : List Int} (h : Reads w S 1 A m (intv xs)) {k : Nat} (d : Nat) (hk : k ≤ m) (hd : m ≤ d) : Reads w S 1 (if d = k then A else A.map (fun x => x.add k)) (m - k) (intv (xs.drop k)) := by
  have hl : xs.length = m := by have := h.1; simpa [intv] using this
  refine ⟨by simp [intv]; omega, fun hn => ?_⟩
  obtain ⟨ad, e, hb, hs, hc⟩ := h.2 (by omega)
  rw [if_neg (by omega), e]
  refine ⟨ad.add k, rfl, by rw [add_block]; exact hb, by rw [add_block]; exact hs, fun j u hj => ?_⟩
  rw [add_add_]
  refine hc _ _ ?_
  simpa [intv, List.getElem?_drop] using hj
theorem new_long (w : World) (A : Option Addr) (n c : Nat) (hn : 4194304 < n) :
    Calls Try.prog 19 #[.slice A n c] w fun e w' => e = .returned (.tuple #[.pointer none, .int .i64 2]) ∧ w = w' := by
  go_enter Try.func19, Try.ntmps19
  go_wp2_with fail
  go_ret2
  exact ⟨rfl, rfl⟩

set_option maxRecDepth 100000 in
set_option maxHeartbeats 4000000 in
theorem literalAll_any (w : World) (A T : Option Addr) (n c m d : Nat) (P text : List Int) (at_ : Int) (hP : Reads w (· < w.heap.size) 1 A n (intv P)) (hT : Reads w (· < w.heap.size) 1 T m (intv text)) (hat : In64 at_)
    (hnb : n * 8 ≤ 140737488351232) (hmb : m * 8 ≤ 140737488351232) (hmd : m ≤ d) (hI : ∀ x ∈ text, In64 x) :
    Calls Try.prog 7 #[.slice A n c, .slice T m d, .int .i64 at_] w fun e w' => e = .returned (.bool true) ∧ Upd Nob w w' := by
  obtain rfl : P.length = n := by have := hP.1; simpa [intv] using this
  obtain rfl : text.length = m := by have := hT.1; simpa [intv] using this
  by_cases hlong : 4194304 < P.length
  · go_enter Try.func7, Try.ntmps7
    go_wp2_with (first | (go_at_call 8; refine (awake_any w).mono ?_; rintro e w1 ⟨rfl, hU1⟩) | (go_at_call 19; refine (new_long w1 A P.length c hlong).mono ?_; rintro e w2 ⟨rfl, rfl⟩))
    go_ret
    exact ⟨congrArg Ending.returned (congrArg Value.bool (decide_eq_true (by omega))), hU1⟩
  have HPP := hide hP
  have HTT := hide hT
  clear hP hT
  go_enter Try.func7, Try.ntmps7
  go_wp2_with (first
    | (go_at_call 8; refine (awake_any w).mono ?_; rintro e w1 ⟨rfl, hU1⟩)
    | (go_at_call 19; refine (new_any w1 _ A P.length c P (HPP.out.upd hU1 (fun _ _ => not_nob)) (by omega)).mono ?_; rintro e w2 ⟨fb, bb, A2, c2, back, rfl, hF, hTab, hU2⟩)
    | fail)
  have HP2 := hide ((HPP.out.upd hU1 (fun _ _ => not_nob)).upd hU2 (fun _ _ => not_nob))
  have HT2 := hide ((HTT.out.upd hU1 (fun _ _ => not_nob)).upd hU2 (fun _ _ => not_nob))
  have HF := hide hF
  have HTab := hide hTab
  have HU := hide (hU1.trans hU2 (fun _ _ h => h))
  have hs1 := hU1.size
  clear hU1 hU2 hF hTab HPP HTT
  go_loopg [10, 11] (text.length + 1) (fun gk v10 v11 wr => ∃ (fr i q : Nat), i + gk = text.length + 1 ∧ v10 = .int .i64 (fr : Int) ∧ v11 = .int .i64 (i : Int) ∧ wr = w2.drewN q ∧ fr ≤ i ∧ ∀ s, fr ≤ s → s < i → standsB P text s = false)
  case atStart => exact ⟨0, 0, 0, by omega, rfl, rfl, rfl, Nat.le_refl _, fun s _ h => by omega⟩
  case round =>
    obtain ⟨fr, i, q, hgk, rfl, rfl, rfl, hfi, hno⟩ := hrel
    have HN := hide hno
    clear hno
    by_cases hlt : i ≤ text.length
    · have hleb : ∃ b, b = decide (i + P.length ≤ text.length) ∧ decide ((P.length : Int) ≤ (text.length : Int) - (i : Int)) = b := ⟨_, rfl, by apply decide_eq_decide.2; omega⟩
      obtain ⟨b0, hb0, hbd⟩ := hleb
      have HB0 := hide (told_zero (P := P) (T := text) (i := i) hb0)
      clear hb0
      go_wp2_with fail
      go_loopg [12, 13] P.length (fun gk v12 v13 wq => ∃ (b : Bool) (k q2 : Nat), k + gk = P.length ∧ v12 = .bool b ∧ v13 = .int .i64 (k : Int) ∧ wq = w2.drewN q2 ∧ Told P text i k b)
      case atStart => exact ⟨b0, 0, q, by omega, rfl, rfl, rfl, HB0.out⟩
      case round =>
        obtain ⟨b, k, q2, hk, rfl, rfl, rfl, htold⟩ := hrel
        have HK := hide htold
        clear htold
        rcases b with _ | _
        · by_cases hkn : k < P.length
          · have hst := told_stop hlt (by omega) HK.out
            have HS := hide hst
            clear hst
            go_wp2_with fail
            go_roundg (text.length + 1 - (i + 1))
            case measure => omega
            case rel => exact ⟨fr, i + 1, _, by omega, rfl, by go_num, rfl, by omega, fun s h1 h2 => (by rcases (by omega : s < i ∨ s = i) with h3 | h3; exact HN.out s h1 h3; subst h3; exact HS.out)⟩
          · have hst := told_stop hlt (by omega) HK.out
            have HS := hide hst
            clear hst
            go_wp2_with fail
            go_roundg (text.length + 1 - (i + 1))
            case measure => omega
            case rel => exact ⟨fr, i + 1, _, by omega, rfl, by go_num, rfl, by omega, fun s h1 h2 => (by rcases (by omega : s < i ∨ s = i) with h3 | h3; exact HN.out s h1 h3; subst h3; exact HS.out)⟩
        · by_cases hkn : k < P.length
          · have hin := (HK.out.1 rfl).1
            obtain ⟨td, x, rfl, hx, hcx⟩ := HT2.out.int1 (k := i + k) (by omega)
            obtain ⟨ld, y, rfl, hy, hcy⟩ := HP2.out.int1 hkn
            have HM := hide (told_more HK.out hx hy)
            have g1 : (k : Int) < (P.length : Int) := by omega
            have g2 : (i : Int) + (k : Int) < (text.length : Int) := by omega
            clear hx hy
            go_wp2_with fail
            go_quiet (fail)
            go_wp2_with fail
            go_roundg (P.length - (k + 1))
            case measure => omega
            case rel => exact ⟨_, k + 1, _, by omega, rfl, by go_num, by first | rfl | rw [World.drewN_drewN], HM.out⟩
          · have hke : k = P.length := by omega
            have hst := told_end hlt (hke ▸ HK.out)
            have hnx := nextOf_some hfi hst (fun s h1 h2 => HN.out s h1 h2)
            have HX := hide hnx
            have kfr : In64 (fr : Int) := by unfold In64; omega
            clear hst hnx hke
            go_wp2_with (go_at_call 22; refine (next_any (w2.drewN q2) _ fb bb A2 c2 P back (HF.out.drewN q2) HTab.out (by omega) _ T text.length d text (HT2.out.drewN_ q2) (by omega) (fr : Int) kfr).mono ?_; rintro e w4 ⟨he, q4, rfl⟩; rw [HX.out] at he; subst he)
            go_roundg (text.length + 1 - (i + 1))
            case measure => omega
            case rel => exact ⟨i + 1, i + 1, _, by omega, by go_num, by go_num, by first | rfl | rw [World.drewN_drewN], Nat.le_refl _, fun s h1 h2 => by omega⟩
    · have hie : i = text.length + 1 := by omega
      have HE : Hid (∀ s, fr ≤ s → standsB P text s = false) := hide fun s h1 => by
        by_cases h2 : s < i
        · exact HN.out s h1 h2
        · rcases h3 : standsB P text s with _ | _
          · rfl
          · have := (standsB_iff.1 h3).1
            omega
      clear HN
      have h1t := hat.1
      have h2t := hat.2
      go_upto_region 18 with fail
      clear hgk hie hlt hfi
      go_cut [96] from 86 to 95 (fun v96 wc => v96 = .bool false ∧ ∃ q, wc = w2.drewN q)
      case first =>
        by_cases hfm : fr ≤ text.length
        · have hnx := nextOf_none hfm HE.out
          have HX := hide hnx
          have kfr : In64 (fr : Int) := by unfold In64; omega
          clear hnx
          go_wp2_with (go_at_call 22; refine (next_any (w2.drewN q) _ fb bb A2 c2 P back (HF.out.drewN q) HTab.out (by omega) _ T text.length d text (HT2.out.drewN_ q) (by omega) (fr : Int) kfr).mono ?_; rintro e w4 ⟨he, q4, rfl⟩; rw [HX.out] at he; subst he)
          go_meet
          exact ⟨rfl, q + q4, by first | rfl | rw [World.drewN_drewN]⟩
        · go_wp2_with fail
          go_meet
          exact ⟨rfl, q, rfl⟩
      case rest =>
        obtain ⟨rfl, q5, rfl⟩ := hcut
        clear HE
        go_upto_if 98 with fail
        go_cut [2] from 99 to 101 (fun v2 wc => v2 = .int .i64 (turned at_) ∧ wc = w2.drewN q5)
        case first =>
          by_cases hneg : at_ < 0
          · have ht : turned at_ = -(at_ + 1) := if_pos hneg
            go_wp2_with fail
            go_meet
            exact ⟨by rw [ht], rfl⟩
          · have ht : turned at_ = at_ := if_neg hneg
            go_wp2_with fail
            go_meet
            exact ⟨by rw [ht], rfl⟩
        case rest =>
          obtain ⟨rfl, rfl⟩ := hcut
          obtain ⟨t, ht, ht2⟩ := turned_nat hat
          rw [ht]
          have hrem := rem_nat t text.length
          have hrem' := rem_nat' t text.length
          have hkl : t % (text.length + 1) ≤ text.length := by have := Nat.mod_lt t (by omega : 0 < text.length + 1); omega
          generalize t % (text.length + 1) = k at hrem hrem' hkl
          have hwk : IntKind.i64.wrap (k : Int) = (k : Int) := by rw [IntKind.wrap_i64]; omega
          have hz : ((text.length : Int) + 1 == 0) = false := beq_eq_false_iff_ne.2 (by omega)
          obtain ⟨i0, hi0, hz0, hz1, hz2⟩ := info_parts info_int
          have hw2 := HU.out.size
          have hfo : standsB P (text.take k ++ P ++ text.drop k) k = true := stands_put P text hkl
          obtain ⟨r, hr, hrk⟩ := next_least hfo
          have HR := hide hr
          have HH := hide (HT2.out.head hkl)
          have HL := hide (HT2.out.tail d hkl hmd)
          have k0 : In64 0 := by unfold In64; omega
          have kd : (k : Int) ≤ (d : Int) := by omega
          have kl : (k : Int) ≤ (text.length : Int) := by omega
          clear hr hfo
          go_wp2_with (first
            | (at_builtin; refine wpList_append_wide rfl (.tmp 107) (.tmp 110) 29 rfl w2.heap.size 3 i0 (.int .i64 0) 8 Try.underlying29 hi0 hz0 hz1 hz2 rfl (.slice none 0 0) 0 _ rfl (World.ownsRow_nil _ _ _ _) _ T k d _ rfl (HH.out.drewN_ q5) (intv_one _) (by unfold maxLen; omega) (by omega) (Nat.le_refl _) ?_; intro v3 w3 o3 g3 a3; simp only [Nat.zero_add, List.nil_append] at o3; obtain ⟨A3, c3, rfl⟩ := own_shape o3; have hU3 := ((Upd.refl Nob w2).drewN q5).grown g3 (by simp [Value.ownBlock]))
            | (at_builtin; refine wpList_append_wide rfl (.tmp 112) (.tmp 113) 29 rfl w2.heap.size 3 i0 (.int .i64 0) 8 Try.underlying29 hi0 hz0 hz1 hz2 rfl (.slice A3 k c3) k _ rfl o3 _ A P.length c _ rfl (HP2.out.upd hU3 (fun _ _ => not_nob)) (intv_one _) (by unfold maxLen; omega) (by omega) hU3.size ?_; intro v4 w4 o4 g4 a4; obtain ⟨A4, c4, rfl⟩ := own_shape o4; have hU4 := hU3.trans ((Upd.refl (fun k => w2.heap.size ≤ k) w3).grown g4 (fun j hj _ => (o3.lt j hj).1)) (fun j hj h => absurd h (by omega)))
            | (at_builtin; refine wpList_append_wide rfl (.tmp 115) (.tmp 118) 29 rfl w2.heap.size 3 i0 (.int .i64 0) 8 Try.underlying29 hi0 hz0 hz1 hz2 rfl (.slice A4 (k + P.length) c4) (k + P.length) _ rfl o4 _ _ (text.length - k) _ _ rfl (HL.out.upd hU4 (fun _ _ => not_nob)) (intv_one _) (by unfold maxLen; omega) (by omega) hU4.size ?_; intro v5 w5 o5 g5 a5; obtain ⟨A5, c5, rfl⟩ := own_shape o5; have hU5 := hU4.trans ((Upd.refl (fun k => w2.heap.size ≤ k) w4).grown g5 (fun j hj _ => (o4.lt j hj).1)) (fun j hj h => absurd h (by omega)))
            | fail)
          all_goals (
            rw [← intv_append, ← intv_append] at o5
            have HF5 := hide (HF.out.upd hU5 (fun _ _ => not_nob))
            have HR5 := hide (Reads.of_own o5)
            have HU5 := hide (HU.out.trans hU5 (fun _ _ h => h))
            clear o3 o4 o5 g3 g4 g5 a3 a4 a5 hU3 hU4 hU5
            refine (next_any w5 _ fb bb A2 c2 P back HF5.out HTab.out (by omega) _ A5 _ c5 (text.take k ++ P ++ text.drop k) HR5.out (by omega) 0 k0).mono ?_
            rintro e w6 ⟨he, q6, rfl⟩
            rw [HR.out] at he
            subst he
            have r1 : (r : Int) ≤ (k : Int) := by omega
            go_wp2_with fail
            go_ret
            exact ⟨congrArg Ending.returned (congrArg Value.bool (by first | rfl | (simp <;> omega))), HU5.out.drewN q6⟩)
end Go.Proofs.Ytebbnjbgmcdbcaa
