/-
  The walks of runes.Word, printer.name, printer.assertion.
-/
import Derived.Test.YtlaofcgllchedaaNode
namespace Go.Proofs.Ytlaofcgllchedaa
open Go.RowKit
set_option linter.unusedVariables false

def wordB (x : Int) : Bool := decide (97 ≤ x ∧ x ≤ 122 ∨ 65 ≤ x ∧ x ≤ 90 ∨ 48 ≤ x ∧ x ≤ 57 ∨ x = 95)
theorem ret_bool {a b : Bool} (h : a = b) : Ending.returned (.bool a) = .returned (.bool b) := by rw [h]
theorem word_yes (x : Int) (w : World) (h : wordB x = true) (hx : In64 x) : Calls Try.prog 59 #[.int .i64 x] w fun e w' => e = .returned (.bool true) ∧ w = w' := by
  have h' : 97 ≤ x ∧ x ≤ 122 ∨ 65 ≤ x ∧ x ≤ 90 ∨ 48 ≤ x ∧ x ≤ 57 ∨ x = 95 := by simpa [wordB] using h
  clear h
  obtain ⟨hx1, hx2⟩ := hx
  rcases h' with ⟨h1, h2⟩ | ⟨h1, h2⟩ | ⟨h1, h2⟩ | rfl
  all_goals
    go_enter Try.func59, Try.ntmps59
    go_wp2
    go_ret
    exact ⟨rfl, rfl⟩
theorem word_no (x : Int) (w : World) (h : wordB x = false) (hx : In64 x) : Calls Try.prog 59 #[.int .i64 x] w fun e w' => e = .returned (.bool false) ∧ w = w' := by
  have h' : ¬ (97 ≤ x ∧ x ≤ 122 ∨ 65 ≤ x ∧ x ≤ 90 ∨ 48 ≤ x ∧ x ≤ 57 ∨ x = 95) := by simpa [wordB] using h
  clear h
  obtain ⟨hx1, hx2⟩ := hx
  rcases (by omega : x < 48 ∨ (57 < x ∧ x < 65) ∨ (90 < x ∧ x < 95) ∨ (95 < x ∧ x < 97) ∨ 122 < x) with h1 | ⟨h1, h2⟩ | ⟨h1, h2⟩ | ⟨h1, h2⟩ | h1
  all_goals
    clear h'
    have h9 : (x == 95) = false := by simp; omega
    go_enter Try.func59, Try.ntmps59
    go_wp2
    go_ret
    refine ⟨ret_bool ?_, rfl⟩
    first | rfl | (simp; omega)
theorem word_any (x : Int) (w : World) (hx : In64 x) : Calls Try.prog 59 #[.int .i64 x] w fun e w' => e = .returned (.bool (wordB x)) ∧ w = w' := by
  cases h : wordB x
  · exact word_no x w h hx
  · exact word_yes x w h hx


set_option maxHeartbeats 2000000 in
theorem assertion_any (w : World) (x : Int) : Calls Try.prog 45 #[.int .i64 x] w fun e w' => (∃ s, e = .returned (.string s) ∧ s.toList.isEmpty = !asB x) ∧ w = w' := by
  have hk : ∀ k : Int, ¬ x = k → (x == k) = false := fun k h => by simpa using h
  by_cases h1 : x = 1
  · subst h1
    go_enter Try.func45, Try.ntmps45
    go_wp2_with fail
    go_ret
    exact ⟨⟨_, rfl, by decide +kernel⟩, rfl⟩
  have k1 := hk 1 h1
  by_cases h2 : x = 2
  · subst h2
    go_enter Try.func45, Try.ntmps45
    go_wp2_with fail
    go_ret
    exact ⟨⟨_, rfl, by decide +kernel⟩, rfl⟩
  have k2 := hk 2 h2
  by_cases h4 : x = 4
  · subst h4
    go_enter Try.func45, Try.ntmps45
    go_wp2_with fail
    go_ret
    exact ⟨⟨_, rfl, by decide +kernel⟩, rfl⟩
  have k4 := hk 4 h4
  by_cases h8 : x = 8
  · subst h8
    go_enter Try.func45, Try.ntmps45
    go_wp2_with fail
    go_ret
    exact ⟨⟨_, rfl, by decide +kernel⟩, rfl⟩
  have k8 := hk 8 h8
  by_cases h16 : x = 16
  · subst h16
    go_enter Try.func45, Try.ntmps45
    go_wp2_with fail
    go_ret
    exact ⟨⟨_, rfl, by decide +kernel⟩, rfl⟩
  have k16 := hk 16 h16
  by_cases h32 : x = 32
  · subst h32
    go_enter Try.func45, Try.ntmps45
    go_wp2_with fail
    go_ret
    exact ⟨⟨_, rfl, by decide +kernel⟩, rfl⟩
  have k32 := hk 32 h32
  have HA := hideP (show asB x = false by unfold asB; exact decide_eq_false (by omega))
  clear hk h1 h2 h4 h8 h16 h32
  go_enter Try.func45, Try.ntmps45
  go_wp2_with fail
  go_ret
  exact ⟨⟨_, rfl, by rw [HA.out]; decide +kernel⟩, rfl⟩

/-- some answer -/
def AnyB (e : Ending) : Prop := ∃ b, e = .returned (.bool b)
set_option maxHeartbeats 2000000 in
theorem name_any (w : World) (s : ByteArray) (hs : s.size ≤ 140737488355328) : Calls Try.prog 46 #[.string s] w fun e w' => AnyB e ∧ w = w' := by
  go_enter Try.func46, Try.ntmps46
  go_wp2_with fail
  go_loopg [6] s.size (fun gk v6 wr => ∃ k : Nat, k + gk = s.size ∧ v6 = .int .i64 (k : Int) ∧ w = wr)
  case atStart => exact ⟨0, by omega, rfl, rfl⟩
  case round =>
    obtain ⟨k, hk, rfl, rfl⟩ := hrel
    by_cases hlt : k < s.size
    · have g1 : (k : Int) < (s.size : Int) := by omega
      have hb : (s[k]).toNat < 256 := (s[k]).toNat_lt
      have hwr : wrap64 ((s[k]).toNat : Int) = ((s[k]).toNat : Int) := by unfold wrap64; omega
      go_wp2_with fail
      refine (word_any ((s[k]).toNat : Int) w (by unfold In64; omega)).mono ?_
      rintro e w' ⟨rfl, rfl⟩
      cases wordB ((s[k]).toNat : Int)
      · go_wp2_with fail
        go_ret
        exact ⟨⟨_, rfl⟩, rfl⟩
      · go_wp2_with fail
        go_roundg (s.size - (k + 1))
        case measure => omega
        case rel => exact ⟨k + 1, by omega, by go_num, rfl⟩
    · have g1 : ¬ (k : Int) < (s.size : Int) := by omega
      obtain rfl : k = s.size := by omega
      clear hk hlt
      by_cases h1 : 1 ≤ s.size
      · have h1' : (1 : Int) ≤ (s.size : Int) := by omega
        by_cases h2 : s.size ≤ 32
        · have h2' : (s.size : Int) ≤ 32 := by omega
          have h0 : (0 : Int) < (s.size : Int) := by omega
          have h0n : 0 < s.size := by omega
          by_cases h3 : ((s[0]).toNat : Int) < 48
          · go_wp2_with fail
            go_ret
            exact ⟨⟨_, rfl⟩, rfl⟩
          · go_wp2_with fail
            go_ret
            exact ⟨⟨_, rfl⟩, rfl⟩
        · have h2' : ¬ (s.size : Int) ≤ 32 := by omega
          go_wp2_with fail
          go_ret
          exact ⟨⟨_, rfl⟩, rfl⟩
      · have h1' : ¬ (1 : Int) ≤ (s.size : Int) := by omega
        go_wp2_with fail
        go_ret
        exact ⟨⟨_, rfl⟩, rfl⟩
end Go.Proofs.Ytlaofcgllchedaa
