/-
  The walks of look.At, Holds, Flip. Printed by gen_at.py.
-/
import Derived.Test.YtnkefclbchpafaaLkSpot
import Derived.Test.YtnkefclbchpafaaBits
import Derived.Laws.BitsAllLaws
import Derived.Laws.EntriesVeiled
import Derived.Laws.BitsLemmas
namespace Go.Proofs.Ytnkefclbchpafaa
open Go.RowKit
set_option linter.unusedVariables false

/-- the row of assertions -/
def rowCells : Array Value := #[.int .i64 1, .int .i64 2, .func (.func 89) #[] #[], .int .i64 2, .int .i64 1, .func (.func 90) #[] #[], .int .i64 4, .int .i64 8, .func (.func 91) #[] #[], .int .i64 8, .int .i64 4, .func (.func 92) #[] #[], .int .i64 16, .int .i64 16, .func (.func 93) #[] #[], .int .i64 32, .int .i64 32, .func (.func 94) #[] #[]]
theorem rows_any (w : World) : Calls Try.prog 72 #[] w fun e w' => ∃ g, e = .returned (.slice (some ⟨g, 0, none⟩) 6 6) ∧ Cells w' g 125 rowCells ∧ w.heap.size ≤ g ∧ Upd Nob w w' := by
  go_enter Try.func72, Try.ntmps72
  go_wp2
  go_ret
  exact ⟨w.heap.size, rfl, Cells.new _ _ _, Nat.le_refl _, (Upd.refl _ _).alloc _⟩

theorem or_add (a b : Nat) (ha : a < 9223372036854775808) (hb : b < 9223372036854775808) (h : a ||| b = a + b) (hab : a + b < 9223372036854775808) : bits .or .i64 (a : Int) (b : Int) = (a : Int) + (b : Int) := by
  show IntKind.i64.wrap ((BitVec.ofInt 64 (a : Int) ||| BitVec.ofInt 64 (b : Int)).toNat : Int) = _
  rw [BitVec.toNat_or, ofInt_nat a ha, ofInt_nat b hb, h, IntKind.wrap_i64]
  omega
theorem or_pow (a : Int) (k : Nat) (h0 : 0 ≤ a) (h1 : a < 2 ^ k) (hk : k < 60) : bits .or .i64 a (2 ^ k) = a + 2 ^ k := by
  obtain ⟨a, rfl⟩ := Int.eq_ofNat_of_zero_le h0
  have h1' : a < 2 ^ k := by exact_mod_cast h1
  have hp : 2 ^ k ≤ 2 ^ 59 := Nat.pow_le_pow_right (by decide) (by omega)
  have e : ((2 : Int) ^ k) = ((2 ^ k : Nat) : Int) := by simp
  rw [e]
  refine or_add a (2 ^ k) (by omega) (by omega) ?_ (by omega)
  have := Nat.two_pow_add_eq_or_of_lt h1' 1
  rw [Nat.mul_one, Nat.or_comm] at this
  omega

set_option maxHeartbeats 4000000 in
theorem at_in (w : World) (S : Nat → Prop) (A : Option Addr) (n c i : Nat) (xs : List Int) (hx : TextR w S A n xs) (hi : i ≤ n) :
    Calls Try.prog 49 #[.slice A n c, .int .i64 (i : Int)] w fun e w' => e = .returned (.int .i64 (part xs i 6)) ∧ Upd Nob w w' := by
  have hm := hx.n
  have hl := hx.len
  go_enter Try.func49, Try.ntmps49
  go_wp2_with (go_at_call 72; refine (rows_any w).mono ?_; rintro e w1 ⟨g, rfl, hR, hg, hU1⟩)
  go_loopg [5, 18] 6 (fun gk v5 v18 wr => ∃ k : Nat, k + gk = 6 ∧ v5 = .int .i64 (part xs i k) ∧ v18 = .int .i64 (k : Int) ∧ Cells wr g 125 rowCells ∧ Upd Nob w wr)
  case atStart => exact ⟨0, rfl, rfl, rfl, hR, hU1⟩
  case round =>
    clear hR hU1
    obtain ⟨k, hk, rfl, rfl, hR, hU⟩ := hrel
    have hx' := hx.upd hU (fun _ _ => not_nob)
    clear hx
    rename_i hx'
    have hx := hx'
    clear hx'
    rcases (by omega : k = 0 ∨ k = 1 ∨ k = 2 ∨ k = 3 ∨ k = 4 ∨ k = 5 ∨ k = 6) with rfl | rfl | rfl | rfl | rfl | rfl | rfl
    · obtain ⟨a, ha⟩ : ∃ a, part xs i 0 = a := ⟨_, rfl⟩
      obtain ⟨h0, h1⟩ := part_bounds xs i 0
      have hs : part xs i 1 = part xs i 0 + bitv (flag xs i 0) (2 ^ 0) := rfl
      rw [ha] at h0 h1 hs
      have hor : bits .or .i64 a 1 = a + 1 := or_pow a 0 h0 h1 (by omega)
      have h1' : a < 1 := h1
      have HS := hideP hs
      clear h1 hs
      rw [ha]
      clear ha
      have c0 : wr.cell? ⟨g, 0, none⟩ = some (.int .i64 1) := hR.cellv rfl
      have c1 : wr.cell? ⟨g, 1, none⟩ = some (.int .i64 2) := hR.cellv rfl
      have c2 : wr.cell? ⟨g, 2, none⟩ = some (.func (.func 89) #[] #[]) := hR.cellv rfl
      have HU := (Upd.refl Nob wr).alloc (.cells #[.int .i64 1, .int .i64 2, .func (.func 89) #[] #[]] 125)
      have hC := Cells.new wr 125 #[.int .i64 1, .int .i64 2, .func (.func 89) #[] #[]]
      have hR1 := hR.upd HU not_nob
      obtain ⟨f, hf⟩ : ∃ f, flag xs i 0 = f := ⟨_, rfl⟩
      have HF := hideP hf
      clear hf hR
      go_wp2_with fail
      refine (first_any _ i _).mono ?_
      rintro e w3 ⟨he, hU3⟩
      have he' : e = .returned (.bool (flag xs i 0)) := he
      rw [HF.out] at he'
      subst he'
      clear he
      have hC3 := hC.upd hU3 not_nob
      have d0 : w3.cell? ⟨wr.heap.size, 0, none⟩ = some (.int .i64 1) := hC3.cellv rfl
      have hR3 := hR1.upd hU3 not_nob
      have hU4 := (hU.trans HU (fun _ _ h => h)).trans hU3 (fun _ _ h => h)
      clear c0 c1 c2 hC hR1 hC3 hU HU hU3
      cases f
      · go_wp2
        go_roundg 5
        case measure => omega
        case rel => exact ⟨1, rfl, by rw [HS.out, HF.out]; simp [bitv], rfl, hR3, hU4⟩
      · go_wp2
        go_roundg 5
        case measure => omega
        case rel => exact ⟨1, rfl, by rw [HS.out, HF.out]; rfl, rfl, hR3, hU4⟩
    · obtain ⟨a, ha⟩ : ∃ a, part xs i 1 = a := ⟨_, rfl⟩
      obtain ⟨h0, h1⟩ := part_bounds xs i 1
      have hs : part xs i 2 = part xs i 1 + bitv (flag xs i 1) (2 ^ 1) := rfl
      rw [ha] at h0 h1 hs
      have hor : bits .or .i64 a 2 = a + 2 := or_pow a 1 h0 h1 (by omega)
      have h1' : a < 2 := h1
      have HS := hideP hs
      clear h1 hs
      rw [ha]
      clear ha
      have c0 : wr.cell? ⟨g, 3, none⟩ = some (.int .i64 2) := hR.cellv rfl
      have c1 : wr.cell? ⟨g, 4, none⟩ = some (.int .i64 1) := hR.cellv rfl
      have c2 : wr.cell? ⟨g, 5, none⟩ = some (.func (.func 90) #[] #[]) := hR.cellv rfl
      have HU := (Upd.refl Nob wr).alloc (.cells #[.int .i64 2, .int .i64 1, .func (.func 90) #[] #[]] 125)
      have hC := Cells.new wr 125 #[.int .i64 2, .int .i64 1, .func (.func 90) #[] #[]]
      have hR1 := hR.upd HU not_nob
      obtain ⟨f, hf⟩ : ∃ f, flag xs i 1 = f := ⟨_, rfl⟩
      have HF := hideP hf
      clear hf hR
      go_wp2_with fail
      refine (last_any _ A n c i xs hl hi hm).mono ?_
      rintro e w3 ⟨he, hU3⟩
      have he' : e = .returned (.bool (flag xs i 1)) := he
      rw [HF.out] at he'
      subst he'
      clear he
      have hC3 := hC.upd hU3 not_nob
      have d0 : w3.cell? ⟨wr.heap.size, 0, none⟩ = some (.int .i64 2) := hC3.cellv rfl
      have hR3 := hR1.upd hU3 not_nob
      have hU4 := (hU.trans HU (fun _ _ h => h)).trans hU3 (fun _ _ h => h)
      clear c0 c1 c2 hC hR1 hC3 hU HU hU3
      cases f
      · go_wp2
        go_roundg 4
        case measure => omega
        case rel => exact ⟨2, rfl, by rw [HS.out, HF.out]; simp [bitv], rfl, hR3, hU4⟩
      · go_wp2
        go_roundg 4
        case measure => omega
        case rel => exact ⟨2, rfl, by rw [HS.out, HF.out]; rfl, rfl, hR3, hU4⟩
    · obtain ⟨a, ha⟩ : ∃ a, part xs i 2 = a := ⟨_, rfl⟩
      obtain ⟨h0, h1⟩ := part_bounds xs i 2
      have hs : part xs i 3 = part xs i 2 + bitv (flag xs i 2) (2 ^ 2) := rfl
      rw [ha] at h0 h1 hs
      have hor : bits .or .i64 a 4 = a + 4 := or_pow a 2 h0 h1 (by omega)
      have h1' : a < 4 := h1
      have HS := hideP hs
      clear h1 hs
      rw [ha]
      clear ha
      have c0 : wr.cell? ⟨g, 6, none⟩ = some (.int .i64 4) := hR.cellv rfl
      have c1 : wr.cell? ⟨g, 7, none⟩ = some (.int .i64 8) := hR.cellv rfl
      have c2 : wr.cell? ⟨g, 8, none⟩ = some (.func (.func 91) #[] #[]) := hR.cellv rfl
      have HU := (Upd.refl Nob wr).alloc (.cells #[.int .i64 4, .int .i64 8, .func (.func 91) #[] #[]] 125)
      have hC := Cells.new wr 125 #[.int .i64 4, .int .i64 8, .func (.func 91) #[] #[]]
      have hR1 := hR.upd HU not_nob
      obtain ⟨f, hf⟩ : ∃ f, flag xs i 2 = f := ⟨_, rfl⟩
      have HF := hideP hf
      clear hf hR
      go_wp2_with fail
      refine (begin_any _ S A n c i xs (hx.upd HU (fun _ _ => not_nob)) hi).mono ?_
      rintro e w3 ⟨he, hU3⟩
      have he' : e = .returned (.bool (flag xs i 2)) := he
      rw [HF.out] at he'
      subst he'
      clear he
      have hC3 := hC.upd hU3 not_nob
      have d0 : w3.cell? ⟨wr.heap.size, 0, none⟩ = some (.int .i64 4) := hC3.cellv rfl
      have hR3 := hR1.upd hU3 not_nob
      have hU4 := (hU.trans HU (fun _ _ h => h)).trans hU3 (fun _ _ h => h)
      clear c0 c1 c2 hC hR1 hC3 hU HU hU3
      cases f
      · go_wp2
        go_roundg 3
        case measure => omega
        case rel => exact ⟨3, rfl, by rw [HS.out, HF.out]; simp [bitv], rfl, hR3, hU4⟩
      · go_wp2
        go_roundg 3
        case measure => omega
        case rel => exact ⟨3, rfl, by rw [HS.out, HF.out]; rfl, rfl, hR3, hU4⟩
    · obtain ⟨a, ha⟩ : ∃ a, part xs i 3 = a := ⟨_, rfl⟩
      obtain ⟨h0, h1⟩ := part_bounds xs i 3
      have hs : part xs i 4 = part xs i 3 + bitv (flag xs i 3) (2 ^ 3) := rfl
      rw [ha] at h0 h1 hs
      have hor : bits .or .i64 a 8 = a + 8 := or_pow a 3 h0 h1 (by omega)
      have h1' : a < 8 := h1
      have HS := hideP hs
      clear h1 hs
      rw [ha]
      clear ha
      have c0 : wr.cell? ⟨g, 9, none⟩ = some (.int .i64 8) := hR.cellv rfl
      have c1 : wr.cell? ⟨g, 10, none⟩ = some (.int .i64 4) := hR.cellv rfl
      have c2 : wr.cell? ⟨g, 11, none⟩ = some (.func (.func 92) #[] #[]) := hR.cellv rfl
      have HU := (Upd.refl Nob wr).alloc (.cells #[.int .i64 8, .int .i64 4, .func (.func 92) #[] #[]] 125)
      have hC := Cells.new wr 125 #[.int .i64 8, .int .i64 4, .func (.func 92) #[] #[]]
      have hR1 := hR.upd HU not_nob
      obtain ⟨f, hf⟩ : ∃ f, flag xs i 3 = f := ⟨_, rfl⟩
      have HF := hideP hf
      clear hf hR
      go_wp2_with fail
      refine (end_any _ S A n c i xs (hx.upd HU (fun _ _ => not_nob)) hi).mono ?_
      rintro e w3 ⟨he, hU3⟩
      have he' : e = .returned (.bool (flag xs i 3)) := he
      rw [HF.out] at he'
      subst he'
      clear he
      have hC3 := hC.upd hU3 not_nob
      have d0 : w3.cell? ⟨wr.heap.size, 0, none⟩ = some (.int .i64 8) := hC3.cellv rfl
      have hR3 := hR1.upd hU3 not_nob
      have hU4 := (hU.trans HU (fun _ _ h => h)).trans hU3 (fun _ _ h => h)
      clear c0 c1 c2 hC hR1 hC3 hU HU hU3
      cases f
      · go_wp2
        go_roundg 2
        case measure => omega
        case rel => exact ⟨4, rfl, by rw [HS.out, HF.out]; simp [bitv], rfl, hR3, hU4⟩
      · go_wp2
        go_roundg 2
        case measure => omega
        case rel => exact ⟨4, rfl, by rw [HS.out, HF.out]; rfl, rfl, hR3, hU4⟩
    · obtain ⟨a, ha⟩ : ∃ a, part xs i 4 = a := ⟨_, rfl⟩
      obtain ⟨h0, h1⟩ := part_bounds xs i 4
      have hs : part xs i 5 = part xs i 4 + bitv (flag xs i 4) (2 ^ 4) := rfl
      rw [ha] at h0 h1 hs
      have hor : bits .or .i64 a 16 = a + 16 := or_pow a 4 h0 h1 (by omega)
      have h1' : a < 16 := h1
      have HS := hideP hs
      clear h1 hs
      rw [ha]
      clear ha
      have c0 : wr.cell? ⟨g, 12, none⟩ = some (.int .i64 16) := hR.cellv rfl
      have c1 : wr.cell? ⟨g, 13, none⟩ = some (.int .i64 16) := hR.cellv rfl
      have c2 : wr.cell? ⟨g, 14, none⟩ = some (.func (.func 93) #[] #[]) := hR.cellv rfl
      have HU := (Upd.refl Nob wr).alloc (.cells #[.int .i64 16, .int .i64 16, .func (.func 93) #[] #[]] 125)
      have hC := Cells.new wr 125 #[.int .i64 16, .int .i64 16, .func (.func 93) #[] #[]]
      have hR1 := hR.upd HU not_nob
      obtain ⟨f, hf⟩ : ∃ f, flag xs i 4 = f := ⟨_, rfl⟩
      have HF := hideP hf
      clear hf hR
      go_wp2_with fail
      refine (edge_any _ S A n c i xs (hx.upd HU (fun _ _ => not_nob)) hi).mono ?_
      rintro e w3 ⟨he, hU3⟩
      have he' : e = .returned (.bool (flag xs i 4)) := he
      rw [HF.out] at he'
      subst he'
      clear he
      have hC3 := hC.upd hU3 not_nob
      have d0 : w3.cell? ⟨wr.heap.size, 0, none⟩ = some (.int .i64 16) := hC3.cellv rfl
      have hR3 := hR1.upd hU3 not_nob
      have hU4 := (hU.trans HU (fun _ _ h => h)).trans hU3 (fun _ _ h => h)
      clear c0 c1 c2 hC hR1 hC3 hU HU hU3
      cases f
      · go_wp2
        go_roundg 1
        case measure => omega
        case rel => exact ⟨5, rfl, by rw [HS.out, HF.out]; simp [bitv], rfl, hR3, hU4⟩
      · go_wp2
        go_roundg 1
        case measure => omega
        case rel => exact ⟨5, rfl, by rw [HS.out, HF.out]; rfl, rfl, hR3, hU4⟩
    · obtain ⟨a, ha⟩ : ∃ a, part xs i 5 = a := ⟨_, rfl⟩
      obtain ⟨h0, h1⟩ := part_bounds xs i 5
      have hs : part xs i 6 = part xs i 5 + bitv (flag xs i 5) (2 ^ 5) := rfl
      rw [ha] at h0 h1 hs
      have hor : bits .or .i64 a 32 = a + 32 := or_pow a 5 h0 h1 (by omega)
      have h1' : a < 32 := h1
      have HS := hideP hs
      clear h1 hs
      rw [ha]
      clear ha
      have c0 : wr.cell? ⟨g, 15, none⟩ = some (.int .i64 32) := hR.cellv rfl
      have c1 : wr.cell? ⟨g, 16, none⟩ = some (.int .i64 32) := hR.cellv rfl
      have c2 : wr.cell? ⟨g, 17, none⟩ = some (.func (.func 94) #[] #[]) := hR.cellv rfl
      have HU := (Upd.refl Nob wr).alloc (.cells #[.int .i64 32, .int .i64 32, .func (.func 94) #[] #[]] 125)
      have hC := Cells.new wr 125 #[.int .i64 32, .int .i64 32, .func (.func 94) #[] #[]]
      have hR1 := hR.upd HU not_nob
      obtain ⟨f, hf⟩ : ∃ f, flag xs i 5 = f := ⟨_, rfl⟩
      have HF := hideP hf
      clear hf hR
      go_wp2_with fail
      refine (noEdge_any _ S A n c i xs (hx.upd HU (fun _ _ => not_nob)) hi).mono ?_
      rintro e w3 ⟨he, hU3⟩
      have he' : e = .returned (.bool (flag xs i 5)) := he
      rw [HF.out] at he'
      subst he'
      clear he
      have hC3 := hC.upd hU3 not_nob
      have d0 : w3.cell? ⟨wr.heap.size, 0, none⟩ = some (.int .i64 32) := hC3.cellv rfl
      have hR3 := hR1.upd hU3 not_nob
      have hU4 := (hU.trans HU (fun _ _ h => h)).trans hU3 (fun _ _ h => h)
      clear c0 c1 c2 hC hR1 hC3 hU HU hU3
      cases f
      · go_wp2
        go_roundg 0
        case measure => omega
        case rel => exact ⟨6, rfl, by rw [HS.out, HF.out]; simp [bitv], rfl, hR3, hU4⟩
      · go_wp2
        go_roundg 0
        case measure => omega
        case rel => exact ⟨6, rfl, by rw [HS.out, HF.out]; rfl, rfl, hR3, hU4⟩
    · go_wp2
      go_ret
      exact ⟨rfl, hU⟩
theorem lookHolds_any (w : World) (x y : Int) : Calls Try.prog 54 #[.int .i64 x, .int .i64 y] w fun e w' => e = .returned (.bool (holdsB x y)) ∧ w = w' := by
  go_enter Try.func54, Try.ntmps54
  go_wp2
  go_ret
  exact ⟨rfl, rfl⟩

end Go.Proofs.Ytnkefclbchpafaa
