/-
  Name, NameX, put together.
-/
import Derived.Test.YtlaofcgllchedaaZ05Node

/-
  The walks of runes.Word, printer.name, printer.assertion.
-/
namespace Go.Proofs.Ytlaofcgllchedaa
open Go.RowKit
set_option linter.unusedVariables false

def wordB (x : Int) : Bool := decide (97 ≤ x ∧ x ≤ 122 ∨ 65 ≤ x ∧ x ≤ 90 ∨ 48 ≤ x ∧ x ≤ 57 ∨ x = 95)
theorem ret_bool {a b : Bool} (h : a = b) : Ending.returned (.bool a) = .returned (.bool b) := by rw [h]
theorem word_yes (x : Int) (w : World) (h : wordB x = true) (hx : In64 x) : Calls Try.prog 59 #[.int .i64 x] w fun e w' => e = .returned (.bool true) ∧ w = w' := by
  have h' : 97 ≤ x ∧ x ≤ 122 ∨ 65 ≤ x ∧ x ≤ 90 ∨ 48 ≤ x ∧ x ≤ 57 ∨ x = 95 := by simpa [wordB] using h
  clear h
  obtain ⟨hx1, hx2⟩ := hx
  rcases h' with ⟨h1, h2⟩ | ⟨h1, h2⟩ | ⟨h1, h2⟩ | rfl
  all_goals
    go_enter Try.func59, Try.ntmps59
    go_wp2
    go_ret
    exact ⟨rfl, rfl⟩
theorem word_no (x : Int) (w : World) (h : wordB x = false) (hx : In64 x) : Calls Try.prog 59 #[.int .i64 x] w fun e w' => e = .returned (.bool false) ∧ w = w' := by
  have h' : ¬ (97 ≤ x ∧ x ≤ 122 ∨ 65 ≤ x ∧ x ≤ 90 ∨ 48 ≤ x ∧ x ≤ 57 ∨ x = 95) := by simpa [wordB] using h
  clear h
  obtain ⟨hx1, hx2⟩ := hx
  rcases (by omega : x < 48 ∨ (57 < x ∧ x < 65) ∨ (90 < x ∧ x < 95) ∨ (95 < x ∧ x < 97) ∨ 122 < x) with h1 | ⟨h1, h2⟩ | ⟨h1, h2⟩ | ⟨h1, h2⟩ | h1
  all_goals
    clear h'
    have h9 : (x == 95) = false := by simp; omega
    go_enter Try.func59, Try.ntmps59
    go_wp2
    go_ret
    refine ⟨ret_bool ?_, rfl⟩
    first | rfl | (simp; omega)
theorem word_any (x : Int) (w : World) (hx : In64 x) : Calls Try.prog 59 #[.int .i64 x] w fun e w' => e = .returned (.bool (wordB x)) ∧ w = w' := by
  cases h : wordB x
  · exact word_no x w h hx
  · exact word_yes x w h hx


set_option maxHeartbeats 2000000 in
theorem assertion_any (w : World) (x : Int) : Calls Try.prog 45 #[.int .i64 x] w fun e w' => (∃ s, e = .returned (.string s) ∧ s.toList.isEmpty = !asB x) ∧ w = w' := by
  have hk : ∀ k : Int, ¬ x = k → (x == k) = false := fun k h => by simpa using h
  by_cases h1 : x = 1
  · subst h1
    go_enter Try.func45, Try.ntmps45
    go_wp2_with fail
    go_ret
    exact ⟨⟨_, rfl, by decide +kernel⟩, rfl⟩
  have k1 := hk 1 h1
  by_cases h2 : x = 2
  · subst h2
    go_enter Try.func45, Try.ntmps45
    go_wp2_with fail
    go_ret
    exact ⟨⟨_, rfl, by decide +kernel⟩, rfl⟩
  have k2 := hk 2 h2
  by_cases h4 : x = 4
  · subst h4
    go_enter Try.func45, Try.ntmps45
    go_wp2_with fail
    go_ret
    exact ⟨⟨_, rfl, by decide +kernel⟩, rfl⟩
  have k4 := hk 4 h4
  by_cases h8 : x = 8
  · subst h8
    go_enter Try.func45, Try.ntmps45
    go_wp2_with fail
    go_ret
    exact ⟨⟨_, rfl, by decide +kernel⟩, rfl⟩
  have k8 := hk 8 h8
  by_cases h16 : x = 16
  · subst h16
    go_enter Try.func45, Try.ntmps45
    go_wp2_with fail
    go_ret
    exact ⟨⟨_, rfl, by decide +kernel⟩, rfl⟩
  have k16 := hk 16 h16
  by_cases h32 : x = 32
  · subst h32
    go_enter Try.func45, Try.ntmps45
    go_wp2_with fail
    go_ret
    exact ⟨⟨_, rfl, by decide +kernel⟩, rfl⟩
  have k32 := hk 32 h32
  have HA := hideP (show asB x = false by unfold asB; exact decide_eq_false (by omega))
  clear hk h1 h2 h4 h8 h16 h32
  go_enter Try.func45, Try.ntmps45
  go_wp2_with fail
  go_ret
  exact ⟨⟨_, rfl, by rw [HA.out]; decide +kernel⟩, rfl⟩

/-- some answer -/
def AnyB (e : Ending) : Prop := ∃ b, e = .returned (.bool b)
set_option maxHeartbeats 2000000 in
theorem name_any (w : World) (s : ByteArray) (hs : s.size ≤ 140737488355328) : Calls Try.prog 46 #[.string s] w fun e w' => AnyB e ∧ w = w' := by
  go_enter Try.func46, Try.ntmps46
  go_wp2_with fail
  go_loopg [6] s.size (fun gk v6 wr => ∃ k : Nat, k + gk = s.size ∧ v6 = .int .i64 (k : Int) ∧ w = wr)
  case atStart => exact ⟨0, by omega, rfl, rfl⟩
  case round =>
    obtain ⟨k, hk, rfl, rfl⟩ := hrel
    by_cases hlt : k < s.size
    · have g1 : (k : Int) < (s.size : Int) := by omega
      have hb : (s[k]).toNat < 256 := (s[k]).toNat_lt
      have hwr : wrap64 ((s[k]).toNat : Int) = ((s[k]).toNat : Int) := by unfold wrap64; omega
      go_wp2_with fail
      refine (word_any ((s[k]).toNat : Int) w (by unfold In64; omega)).mono ?_
      rintro e w' ⟨rfl, rfl⟩
      cases wordB ((s[k]).toNat : Int)
      · go_wp2_with fail
        go_ret
        exact ⟨⟨_, rfl⟩, rfl⟩
      · go_wp2_with fail
        go_roundg (s.size - (k + 1))
        case measure => omega
        case rel => exact ⟨k + 1, by omega, by go_num, rfl⟩
    · have g1 : ¬ (k : Int) < (s.size : Int) := by omega
      obtain rfl : k = s.size := by omega
      clear hk hlt
      by_cases h1 : 1 ≤ s.size
      · have h1' : (1 : Int) ≤ (s.size : Int) := by omega
        by_cases h2 : s.size ≤ 32
        · have h2' : (s.size : Int) ≤ 32 := by omega
          have h0 : (0 : Int) < (s.size : Int) := by omega
          have h0n : 0 < s.size := by omega
          by_cases h3 : ((s[0]).toNat : Int) < 48
          · go_wp2_with fail
            go_ret
            exact ⟨⟨_, rfl⟩, rfl⟩
          · go_wp2_with fail
            go_ret
            exact ⟨⟨_, rfl⟩, rfl⟩
        · have h2' : ¬ (s.size : Int) ≤ 32 := by omega
          go_wp2_with fail
          go_ret
          exact ⟨⟨_, rfl⟩, rfl⟩
      · have h1' : ¬ (1 : Int) ≤ (s.size : Int) := by omega
        go_wp2_with fail
        go_ret
        exact ⟨⟨_, rfl⟩, rfl⟩
end Go.Proofs.Ytlaofcgllchedaa

/-
  Names exactly: printer.name where one is a name; heronref05.Name; printer.node of a group that may be.
-/
namespace Go.Proofs.Ytlaofcgllchedaa
open Go.RowKit
set_option linter.unusedVariables false

/-- a name -/
def nmB (s : ByteArray) : Prop := 1 ≤ s.size ∧ s.size ≤ 32 ∧ (∀ (i : Nat) (h : i < s.size), wordB ((s[i]).toNat : Int) = true) ∧ ∀ (h : 0 < s.size), ¬ (48 ≤ ((s[0]).toNat : Int) ∧ ((s[0]).toNat : Int) ≤ 57)
/-- a group that may be -/
def grpF (t : Tree) : Prop := plainB t = true ∧ t.subs.length = 1 ∧ countB t = true ∧ 1 ≤ t.ix ∧ t.ix ≤ 500 ∧ (t.nm.toList.isEmpty = true ∨ nmB t.nm)
/-- a node that may be -/
def nodeF (t : Tree) : Prop := (t.kind ≠ 7 ∧ nodeB t = true) ∨ (t.kind = 7 ∧ grpF t)

set_option maxHeartbeats 2000000 in
theorem name_yes (w : World) (s : ByteArray) (hs : nmB s) : Calls Try.prog 46 #[.string s] w fun e w' => e = .returned (.bool true) ∧ w = w' := by
  obtain ⟨h1, h2, h3, h4⟩ := hs
  have H3 := hideP h3
  have H4 := hideP h4
  clear h3 h4
  go_enter Try.func46, Try.ntmps46
  go_wp2_with fail
  go_loopg [6] s.size (fun gk v6 wr => ∃ k : Nat, k + gk = s.size ∧ v6 = .int .i64 (k : Int) ∧ w = wr)
  case atStart => exact ⟨0, by omega, rfl, rfl⟩
  case round =>
    obtain ⟨k, hk, rfl, rfl⟩ := hrel
    by_cases hlt : k < s.size
    · have g1 : (k : Int) < (s.size : Int) := by omega
      have hb : (s[k]).toNat < 256 := (s[k]).toNat_lt
      have hwr : wrap64 ((s[k]).toNat : Int) = ((s[k]).toNat : Int) := by unfold wrap64; omega
      go_wp2_with fail
      refine (word_any ((s[k]).toNat : Int) w (by unfold In64; omega)).mono ?_
      rintro e w' ⟨rfl, rfl⟩
      rw [H3.out k hlt]
      go_wp2_with fail
      go_roundg (s.size - (k + 1))
      case measure => omega
      case rel => exact ⟨k + 1, by omega, by go_num, rfl⟩
    · have g1 : ¬ (k : Int) < (s.size : Int) := by omega
      obtain rfl : k = s.size := by omega
      clear hk hlt
      have h1' : (1 : Int) ≤ (s.size : Int) := by omega
      have h2' : (s.size : Int) ≤ 32 := by omega
      have h0 : (0 : Int) < (s.size : Int) := by omega
      have h0n : 0 < s.size := by omega
      have H4' := hideP (H4.out h0n)
      by_cases h3 : ((s[0]).toNat : Int) < 48
      · go_wp2_with fail
        go_ret
        exact ⟨rfl, rfl⟩
      · have h5 : (57 : Int) < ((s[0]).toNat : Int) := by have := H4'.out; omega
        go_wp2_with fail
        go_ret
        exact ⟨rfl, rfl⟩

set_option maxRecDepth 100000 in
set_option maxHeartbeats 8000000 in
theorem node_grp (t : Tree) (w : World) (S : Nat → Prop) (cs : Array Value) (hk : t.kind = 7) (hg : grpF t) (h1 : NodeR w S cs t) :
    Calls Try.prog 29 #[.agg cs] w fun e w' => e = .returned (.bool true) ∧ Upd Nob w w' := by
  obtain ⟨RA, rc, SA, sc, rfl, hr1, ho, hs1⟩ := h1.top
  have C0 := Cells.new w 30 (nodeCells t RA rc SA sc)
  have hU := (Upd.refl Nob w).alloc (.cells (nodeCells t RA rc SA sc) 30)
  have hnl := ho.n
  have hrn := hr1.n
  have hns := ho.s
  clear h1 hr1 hs1 ho
  unfold nodeCells at C0 hU
  unfold nodeCells
  have HG := hideP hg
  have HK := hideP hk
  clear hg hk
  go_enter Try.func29, Try.ntmps29
  go_upto_region 1 with fail
  generalize w.alloc (.cells #[.int .i64 t.kind, .slice RA t.rs.length rc, .int .i64 t.am, .slice SA t.subs.length sc, .int .i64 t.mn, .int .i64 t.mx, .bool t.lz, .int .i64 t.ix, .string t.nm] 30) = w2 at *
  have HU := hideP hU
  obtain ⟨e0, e1, e2, e3, e4, e5, e6, e7, e8⟩ := nine C0
  clear C0 hU
  obtain ⟨g1, g2, g3, g4, g5, g6⟩ := HG.out
  unfold plainB at g1
  unfold countB at g3
  simp only [Bool.and_eq_true, decide_eq_true_eq] at g1 g3
  obtain ⟨a1, a2⟩ := g1
  obtain ⟨a3, a4, a5⟩ := g3
  have a5 : t.lz = false := by simpa using a5
  have k0 := HK.out
  have b1 : ((t.rs.length : Int) == 0) = true := by simp [a1]
  have b2 : (t.am == 0) = true := by simp [a2]
  have b3 : (t.mn == 0) = true := by simp [a3]
  have b4 : (t.mx == 0) = true := by simp [a4]
  have b5 : (t.ix == 0) = false := by simp; omega
  have b6 : ((t.subs.length : Int) == 1) = true := by simp [g2]
  have ch4 : t.ix ≤ (500 : Int) := by omega
  have ch3 : (1 : Int) ≤ t.ix := by omega
  have k1 : (t.kind == 1) = false := by rw [k0]; rfl
  have k2 : (t.kind == 2) = false := by rw [k0]; rfl
  have k3 : (t.kind == 3) = false := by rw [k0]; rfl
  have k4 : (t.kind == 4) = false := by rw [k0]; rfl
  have k5 : (t.kind == 5) = false := by rw [k0]; rfl
  have k6 : (t.kind == 6) = false := by rw [k0]; rfl
  have k7 : (t.kind == 7) = true := by rw [k0]; rfl
  have H6 := hideP g6
  clear a1 a2 a3 a4 g2 g4 g5 g6 k0
  rcases hem : t.nm.toList.isEmpty with _ | _
  · have HN := hideP (show nmB t.nm by
      rcases H6.out with h | h
      · rw [hem] at h; cases h
      · exact h)
    go_wp2_with (go_at_call 46; refine (name_yes _ t.nm HN.out).mono ?_; rintro e w3 ⟨rfl, rfl⟩)
    try go_ret
    exact ⟨rfl, HU.out⟩
  · go_wp2_with fail
    try go_ret
    exact ⟨rfl, HU.out⟩
end Go.Proofs.Ytlaofcgllchedaa
