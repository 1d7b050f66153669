/-
  The walks of heronref01.in, Has.
-/
import Derived.Test.YtnkefclbchpafaaPlainV
import Derived.Test.YtnkefclbchpafaaRefCheck
namespace Go.Proofs.Ytnkefclbchpafaa
open Go.RowKit
set_option linter.unusedVariables false

theorem inB_drop {rs : List (Int × Int)} {k : Nat} {x : Int × Int} {c : Int} (h : rs[k]? = some x) : inB (rs.drop k) c = (decide (x.1 ≤ c ∧ c ≤ x.2) || inB (rs.drop (k + 1)) c) := by
  have hl := (List.getElem?_eq_some_iff.1 h).1
  rw [List.drop_eq_getElem_cons hl]
  rw [List.getElem?_eq_getElem hl] at h
  injection h with h
  rw [h]
  rfl

set_option maxHeartbeats 1000000 in
theorem ref_in (w : World) (S : Nat → Prop) (A : Option Addr) (n cc : Nat) (rs : List (Int × Int)) (h : RangesR w S A n rs) (c : Int) (hc : In64 c) :
    Calls Try.prog 75 #[.slice A n cc, .int .i64 c] w fun e w' => e = .returned (.bool (inB rs c)) ∧ ∃ q, w' = w.drewN q := by
  have hn := h.n
  obtain rfl : rs.length = n := h.len
  have H := hideP h
  have h1 := hc.1
  have h2 := hc.2
  clear h
  go_enter Try.func75, Try.ntmps75
  go_wp2_with fail
  go_loopg [5] rs.length (fun gk v5 wr => ∃ k q : Nat, k + gk = rs.length ∧ v5 = .int .i64 (k : Int) ∧ wr = w.drewN q ∧ inB rs c = inB (rs.drop k) c)
  case atStart => exact ⟨0, 0, by omega, rfl, rfl, rfl⟩
  case round =>
    obtain ⟨k, q, hk, rfl, rfl, hq⟩ := hrel
    have HQ := hideP hq
    clear hq
    by_cases hlt : k < rs.length
    · obtain ⟨ad, x, g, o, rfl, hx, i1, i2, hadd, c0, c1, -⟩ := H.out.at1 hlt
      have hstep := inB_drop (c := c) hx
      obtain ⟨lo, hi⟩ := x
      simp only at c0 c1 hstep
      have kl : (k : Int) < (rs.length : Int) := by omega
      by_cases hlo : lo ≤ c
      · by_cases hhi : c ≤ hi
        · have HV := hideP (show inB rs c = true by rw [HQ.out, hstep, decide_eq_true ⟨hlo, hhi⟩]; rfl)
          clear hx hstep
          go_wp2_with fail
          go_ret
          exact ⟨congrArg Ending.returned (congrArg Value.bool HV.out.symm), q, rfl⟩
        · have hhb : decide (c ≤ hi) = false := decide_eq_false hhi
          have HV := hideP (show inB rs c = inB (rs.drop (k + 1)) c by rw [HQ.out, hstep, decide_eq_false (fun h => hhi h.2)]; rfl)
          clear hx hstep
          go_wp2_with fail
          go_roundg (rs.length - (k + 1))
          case measure => omega
          case rel => exact ⟨k + 1, q, by omega, by go_num, rfl, HV.out⟩
      · have hlb : decide (lo ≤ c) = false := decide_eq_false hlo
        have HV := hideP (show inB rs c = inB (rs.drop (k + 1)) c by rw [HQ.out, hstep, decide_eq_false (fun h => hlo h.1)]; rfl)
        clear hx hstep
        go_wp2_with fail
        go_roundg (rs.length - (k + 1))
        case measure => omega
        case rel => exact ⟨k + 1, q, by omega, by go_num, rfl, HV.out⟩
    · have hkn : k = rs.length := by omega
      have HV := hideP (show inB rs c = false by rw [HQ.out, hkn, List.drop_length]; rfl)
      have kl : ¬ (k : Int) < (rs.length : Int) := by omega
      go_wp2_with fail
      go_ret
      exact ⟨congrArg Ending.returned (congrArg Value.bool HV.out.symm), q, rfl⟩

theorem ref_has (w : World) (S : Nat → Prop) (A : Option Addr) (n cc : Nat) (rs : List (Int × Int)) (h : RangesR w S A n rs) (c : Int) (hc : In64 c) :
    Calls Try.prog 57 #[.slice A n cc, .int .i64 c] w fun e w' => e = .returned (.bool (hasB rs c)) ∧ ∃ q, w' = w.drewN q := by
  rcases hr : rightB rs with _ | _
  · have HV := hideP (show hasB rs c = false by unfold hasB; rw [hr]; rfl)
    go_enter Try.func57, Try.ntmps57
    go_wp2_with fail
    refine (ref_right w S A n cc rs h).mono ?_
    rintro e w1 ⟨he, q, rfl⟩
    rw [hr] at he
    subst he
    go_wp2_with fail
    go_ret
    exact ⟨congrArg Ending.returned (congrArg Value.bool HV.out.symm), q, rfl⟩
  · have HV := hideP (show hasB rs c = inB rs c by unfold hasB; rw [hr]; rfl)
    go_enter Try.func57, Try.ntmps57
    go_wp2_with fail
    refine (ref_right w S A n cc rs h).mono ?_
    rintro e w1 ⟨he, q, rfl⟩
    rw [hr] at he
    subst he
    go_wp2_with fail
    refine (ref_in (w.drewN q) S A n cc rs (h.upd ((Upd.refl Nob w).drewN q) (fun _ _ => not_nob)) c hc).mono ?_
    rintro e w2 ⟨rfl, q2, rfl⟩
    go_wp2_with fail
    go_ret
    exact ⟨congrArg Ending.returned (congrArg Value.bool HV.out.symm), by first | exact ⟨_, rfl⟩ | exact drew_two _ _ _⟩
end Go.Proofs.Ytnkefclbchpafaa
