/-
  The walk of look.Flip (derived by derive.py).
-/
import Derived.Test.YtlaofcgllchedaaRight
import Derived.Laws.BitsAllLaws
import Derived.Laws.EntriesVeiled
import Derived.Laws.BitsLemmas
namespace Go.Proofs.Ytlaofcgllchedaa
open Go.RowKit
set_option linter.unusedVariables false

/-- the row of assertions -/
def rowCells : Array Value := #[.int .i64 1, .int .i64 2, .func (.func 47) #[] #[], .int .i64 2, .int .i64 1, .func (.func 48) #[] #[], .int .i64 4, .int .i64 8, .func (.func 49) #[] #[], .int .i64 8, .int .i64 4, .func (.func 50) #[] #[], .int .i64 16, .int .i64 16, .func (.func 51) #[] #[], .int .i64 32, .int .i64 32, .func (.func 52) #[] #[]]
theorem rows_any (w : World) : Calls Try.prog 30 #[] w fun e w' => ∃ g, e = .returned (.slice (some ⟨g, 0, none⟩) 6 6) ∧ Cells w' g 71 rowCells ∧ w.heap.size ≤ g ∧ Upd Nob w w' := by
  go_enter Try.func30, Try.ntmps30
  go_wp2
  go_ret
  exact ⟨w.heap.size, rfl, Cells.new _ _ _, Nat.le_refl _, (Upd.refl _ _).alloc _⟩

def bitK : Nat → Int | 0 => 1 | 1 => 2 | 2 => 4 | 3 => 8 | 4 => 16 | _ => 32
def backK : Nat → Int | 0 => 2 | 1 => 1 | 2 => 8 | 3 => 4 | 4 => 16 | _ => 32
/-- Flip, the first k assertions -/
def flipP (x : Int) : Nat → Int
  | 0 => x
  | k + 1 => if (bits .and .i64 x (bitK k) != 0) = true then bits .or .i64 (flipP x k) (backK k) else bits .andNot .i64 (flipP x k) (backK k)

set_option maxHeartbeats 4000000 in
theorem flip_any (w : World) (x : Int) : Calls Try.prog 23 #[.int .i64 x] w fun e w' => e = .returned (.int .i64 (flipP x 6)) ∧ Upd Nob w w' := by
  go_enter Try.func23, Try.ntmps23
  go_wp2_with (go_at_call 30; refine (rows_any w).mono ?_; rintro e w1 ⟨g, rfl, hR, hg, hU1⟩)
  go_loopg [3, 9] 6 (fun gk v3 v9 wr => ∃ k : Nat, k + gk = 6 ∧ v3 = .int .i64 (flipP x k) ∧ v9 = .int .i64 (k : Int) ∧ Cells wr g 71 rowCells ∧ Upd Nob w wr)
  case atStart => exact ⟨0, rfl, rfl, rfl, hR, hU1⟩
  case round =>
    clear hR hU1
    obtain ⟨k, hk, rfl, rfl, hR, hU⟩ := hrel
    rcases (by omega : k = 0 ∨ k = 1 ∨ k = 2 ∨ k = 3 ∨ k = 4 ∨ k = 5 ∨ k = 6) with rfl | rfl | rfl | rfl | rfl | rfl | rfl
    · obtain ⟨a, ha⟩ : ∃ a, flipP x 0 = a := ⟨_, rfl⟩
      have hs : flipP x 1 = if (bits .and .i64 x 1 != 0) = true then bits .or .i64 (flipP x 0) 2 else bits .andNot .i64 (flipP x 0) 2 := rfl
      rw [ha] at hs
      have HS := hideP hs
      clear hs
      rw [ha]
      clear ha
      have c0 : wr.cell? ⟨g, 0, none⟩ = some (.int .i64 1) := hR.cellv rfl
      have c1 : wr.cell? ⟨g, 1, none⟩ = some (.int .i64 2) := hR.cellv rfl
      have c2 : wr.cell? ⟨g, 2, none⟩ = some (.func (.func 47) #[] #[]) := hR.cellv rfl
      have HU := (Upd.refl Nob wr).alloc (.cells #[.int .i64 1, .int .i64 2, .func (.func 47) #[] #[]] 71)
      have hR1 := hR.upd HU not_nob
      have hU4 := hU.trans HU (fun _ _ h => h)
      clear hR HU hU
      by_cases hb : (bits .and .i64 x 1 != 0) = true
      · go_wp2
        go_roundg 5
        case measure => omega
        case rel => exact ⟨1, rfl, by rw [HS.out, if_pos hb], rfl, hR1, hU4⟩
      · have hb' : (bits .and .i64 x 1 != 0) = false := by simpa using hb
        go_wp2
        go_roundg 5
        case measure => omega
        case rel => exact ⟨1, rfl, by rw [HS.out, if_neg hb], rfl, hR1, hU4⟩
    · obtain ⟨a, ha⟩ : ∃ a, flipP x 1 = a := ⟨_, rfl⟩
      have hs : flipP x 2 = if (bits .and .i64 x 2 != 0) = true then bits .or .i64 (flipP x 1) 1 else bits .andNot .i64 (flipP x 1) 1 := rfl
      rw [ha] at hs
      have HS := hideP hs
      clear hs
      rw [ha]
      clear ha
      have c0 : wr.cell? ⟨g, 3, none⟩ = some (.int .i64 2) := hR.cellv rfl
      have c1 : wr.cell? ⟨g, 4, none⟩ = some (.int .i64 1) := hR.cellv rfl
      have c2 : wr.cell? ⟨g, 5, none⟩ = some (.func (.func 48) #[] #[]) := hR.cellv rfl
      have HU := (Upd.refl Nob wr).alloc (.cells #[.int .i64 2, .int .i64 1, .func (.func 48) #[] #[]] 71)
      have hR1 := hR.upd HU not_nob
      have hU4 := hU.trans HU (fun _ _ h => h)
      clear hR HU hU
      by_cases hb : (bits .and .i64 x 2 != 0) = true
      · go_wp2
        go_roundg 4
        case measure => omega
        case rel => exact ⟨2, rfl, by rw [HS.out, if_pos hb], rfl, hR1, hU4⟩
      · have hb' : (bits .and .i64 x 2 != 0) = false := by simpa using hb
        go_wp2
        go_roundg 4
        case measure => omega
        case rel => exact ⟨2, rfl, by rw [HS.out, if_neg hb], rfl, hR1, hU4⟩
    · obtain ⟨a, ha⟩ : ∃ a, flipP x 2 = a := ⟨_, rfl⟩
      have hs : flipP x 3 = if (bits .and .i64 x 4 != 0) = true then bits .or .i64 (flipP x 2) 8 else bits .andNot .i64 (flipP x 2) 8 := rfl
      rw [ha] at hs
      have HS := hideP hs
      clear hs
      rw [ha]
      clear ha
      have c0 : wr.cell? ⟨g, 6, none⟩ = some (.int .i64 4) := hR.cellv rfl
      have c1 : wr.cell? ⟨g, 7, none⟩ = some (.int .i64 8) := hR.cellv rfl
      have c2 : wr.cell? ⟨g, 8, none⟩ = some (.func (.func 49) #[] #[]) := hR.cellv rfl
      have HU := (Upd.refl Nob wr).alloc (.cells #[.int .i64 4, .int .i64 8, .func (.func 49) #[] #[]] 71)
      have hR1 := hR.upd HU not_nob
      have hU4 := hU.trans HU (fun _ _ h => h)
      clear hR HU hU
      by_cases hb : (bits .and .i64 x 4 != 0) = true
      · go_wp2
        go_roundg 3
        case measure => omega
        case rel => exact ⟨3, rfl, by rw [HS.out, if_pos hb], rfl, hR1, hU4⟩
      · have hb' : (bits .and .i64 x 4 != 0) = false := by simpa using hb
        go_wp2
        go_roundg 3
        case measure => omega
        case rel => exact ⟨3, rfl, by rw [HS.out, if_neg hb], rfl, hR1, hU4⟩
    · obtain ⟨a, ha⟩ : ∃ a, flipP x 3 = a := ⟨_, rfl⟩
      have hs : flipP x 4 = if (bits .and .i64 x 8 != 0) = true then bits .or .i64 (flipP x 3) 4 else bits .andNot .i64 (flipP x 3) 4 := rfl
      rw [ha] at hs
      have HS := hideP hs
      clear hs
      rw [ha]
      clear ha
      have c0 : wr.cell? ⟨g, 9, none⟩ = some (.int .i64 8) := hR.cellv rfl
      have c1 : wr.cell? ⟨g, 10, none⟩ = some (.int .i64 4) := hR.cellv rfl
      have c2 : wr.cell? ⟨g, 11, none⟩ = some (.func (.func 50) #[] #[]) := hR.cellv rfl
      have HU := (Upd.refl Nob wr).alloc (.cells #[.int .i64 8, .int .i64 4, .func (.func 50) #[] #[]] 71)
      have hR1 := hR.upd HU not_nob
      have hU4 := hU.trans HU (fun _ _ h => h)
      clear hR HU hU
      by_cases hb : (bits .and .i64 x 8 != 0) = true
      · go_wp2
        go_roundg 2
        case measure => omega
        case rel => exact ⟨4, rfl, by rw [HS.out, if_pos hb], rfl, hR1, hU4⟩
      · have hb' : (bits .and .i64 x 8 != 0) = false := by simpa using hb
        go_wp2
        go_roundg 2
        case measure => omega
        case rel => exact ⟨4, rfl, by rw [HS.out, if_neg hb], rfl, hR1, hU4⟩
    · obtain ⟨a, ha⟩ : ∃ a, flipP x 4 = a := ⟨_, rfl⟩
      have hs : flipP x 5 = if (bits .and .i64 x 16 != 0) = true then bits .or .i64 (flipP x 4) 16 else bits .andNot .i64 (flipP x 4) 16 := rfl
      rw [ha] at hs
      have HS := hideP hs
      clear hs
      rw [ha]
      clear ha
      have c0 : wr.cell? ⟨g, 12, none⟩ = some (.int .i64 16) := hR.cellv rfl
      have c1 : wr.cell? ⟨g, 13, none⟩ = some (.int .i64 16) := hR.cellv rfl
      have c2 : wr.cell? ⟨g, 14, none⟩ = some (.func (.func 51) #[] #[]) := hR.cellv rfl
      have HU := (Upd.refl Nob wr).alloc (.cells #[.int .i64 16, .int .i64 16, .func (.func 51) #[] #[]] 71)
      have hR1 := hR.upd HU not_nob
      have hU4 := hU.trans HU (fun _ _ h => h)
      clear hR HU hU
      by_cases hb : (bits .and .i64 x 16 != 0) = true
      · go_wp2
        go_roundg 1
        case measure => omega
        case rel => exact ⟨5, rfl, by rw [HS.out, if_pos hb], rfl, hR1, hU4⟩
      · have hb' : (bits .and .i64 x 16 != 0) = false := by simpa using hb
        go_wp2
        go_roundg 1
        case measure => omega
        case rel => exact ⟨5, rfl, by rw [HS.out, if_neg hb], rfl, hR1, hU4⟩
    · obtain ⟨a, ha⟩ : ∃ a, flipP x 5 = a := ⟨_, rfl⟩
      have hs : flipP x 6 = if (bits .and .i64 x 32 != 0) = true then bits .or .i64 (flipP x 5) 32 else bits .andNot .i64 (flipP x 5) 32 := rfl
      rw [ha] at hs
      have HS := hideP hs
      clear hs
      rw [ha]
      clear ha
      have c0 : wr.cell? ⟨g, 15, none⟩ = some (.int .i64 32) := hR.cellv rfl
      have c1 : wr.cell? ⟨g, 16, none⟩ = some (.int .i64 32) := hR.cellv rfl
      have c2 : wr.cell? ⟨g, 17, none⟩ = some (.func (.func 52) #[] #[]) := hR.cellv rfl
      have HU := (Upd.refl Nob wr).alloc (.cells #[.int .i64 32, .int .i64 32, .func (.func 52) #[] #[]] 71)
      have hR1 := hR.upd HU not_nob
      have hU4 := hU.trans HU (fun _ _ h => h)
      clear hR HU hU
      by_cases hb : (bits .and .i64 x 32 != 0) = true
      · go_wp2
        go_roundg 0
        case measure => omega
        case rel => exact ⟨6, rfl, by rw [HS.out, if_pos hb], rfl, hR1, hU4⟩
      · have hb' : (bits .and .i64 x 32 != 0) = false := by simpa using hb
        go_wp2
        go_roundg 0
        case measure => omega
        case rel => exact ⟨6, rfl, by rw [HS.out, if_neg hb], rfl, hR1, hU4⟩
    · go_wp2
      go_ret
      exact ⟨rfl, hU⟩

end Go.Proofs.Ytlaofcgllchedaa
