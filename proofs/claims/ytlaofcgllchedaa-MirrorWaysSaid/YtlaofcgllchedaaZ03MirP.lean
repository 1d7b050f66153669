/-
  Flip, MirP, put together.
-/
import Derived.Test.YtlaofcgllchedaaZ02TreeP
import Derived.Laws.BitsAllLaws
import Derived.Laws.EntriesVeiled
import Derived.Laws.BitsLemmas

/-
  The walk of look.Flip (derived by derive.py).
-/
namespace Go.Proofs.Ytlaofcgllchedaa
open Go.RowKit
set_option linter.unusedVariables false

/-- the row of assertions -/
def rowCells : Array Value := #[.int .i64 1, .int .i64 2, .func (.func 47) #[] #[], .int .i64 2, .int .i64 1, .func (.func 48) #[] #[], .int .i64 4, .int .i64 8, .func (.func 49) #[] #[], .int .i64 8, .int .i64 4, .func (.func 50) #[] #[], .int .i64 16, .int .i64 16, .func (.func 51) #[] #[], .int .i64 32, .int .i64 32, .func (.func 52) #[] #[]]
theorem rows_any (w : World) : Calls Try.prog 30 #[] w fun e w' => ∃ g, e = .returned (.slice (some ⟨g, 0, none⟩) 6 6) ∧ Cells w' g 71 rowCells ∧ w.heap.size ≤ g ∧ Upd Nob w w' := by
  go_enter Try.func30, Try.ntmps30
  go_wp2
  go_ret
  exact ⟨w.heap.size, rfl, Cells.new _ _ _, Nat.le_refl _, (Upd.refl _ _).alloc _⟩

def bitK : Nat → Int | 0 => 1 | 1 => 2 | 2 => 4 | 3 => 8 | 4 => 16 | _ => 32
def backK : Nat → Int | 0 => 2 | 1 => 1 | 2 => 8 | 3 => 4 | 4 => 16 | _ => 32
/-- Flip, the first k assertions -/
def flipP (x : Int) : Nat → Int
  | 0 => x
  | k + 1 => if (bits .and .i64 x (bitK k) != 0) = true then bits .or .i64 (flipP x k) (backK k) else bits .andNot .i64 (flipP x k) (backK k)

set_option maxHeartbeats 4000000 in
theorem flip_any (w : World) (x : Int) : Calls Try.prog 23 #[.int .i64 x] w fun e w' => e = .returned (.int .i64 (flipP x 6)) ∧ Upd Nob w w' := by
  go_enter Try.func23, Try.ntmps23
  go_wp2_with (go_at_call 30; refine (rows_any w).mono ?_; rintro e w1 ⟨g, rfl, hR, hg, hU1⟩)
  go_loopg [3, 9] 6 (fun gk v3 v9 wr => ∃ k : Nat, k + gk = 6 ∧ v3 = .int .i64 (flipP x k) ∧ v9 = .int .i64 (k : Int) ∧ Cells wr g 71 rowCells ∧ Upd Nob w wr)
  case atStart => exact ⟨0, rfl, rfl, rfl, hR, hU1⟩
  case round =>
    clear hR hU1
    obtain ⟨k, hk, rfl, rfl, hR, hU⟩ := hrel
    rcases (by omega : k = 0 ∨ k = 1 ∨ k = 2 ∨ k = 3 ∨ k = 4 ∨ k = 5 ∨ k = 6) with rfl | rfl | rfl | rfl | rfl | rfl | rfl
    · obtain ⟨a, ha⟩ : ∃ a, flipP x 0 = a := ⟨_, rfl⟩
      have hs : flipP x 1 = if (bits .and .i64 x 1 != 0) = true then bits .or .i64 (flipP x 0) 2 else bits .andNot .i64 (flipP x 0) 2 := rfl
      rw [ha] at hs
      have HS := hideP hs
      clear hs
      rw [ha]
      clear ha
      have c0 : wr.cell? ⟨g, 0, none⟩ = some (.int .i64 1) := hR.cellv rfl
      have c1 : wr.cell? ⟨g, 1, none⟩ = some (.int .i64 2) := hR.cellv rfl
      have c2 : wr.cell? ⟨g, 2, none⟩ = some (.func (.func 47) #[] #[]) := hR.cellv rfl
      have HU := (Upd.refl Nob wr).alloc (.cells #[.int .i64 1, .int .i64 2, .func (.func 47) #[] #[]] 71)
      have hR1 := hR.upd HU not_nob
      have hU4 := hU.trans HU (fun _ _ h => h)
      clear hR HU hU
      by_cases hb : (bits .and .i64 x 1 != 0) = true
      · go_wp2
        go_roundg 5
        case measure => omega
        case rel => exact ⟨1, rfl, by rw [HS.out, if_pos hb], rfl, hR1, hU4⟩
      · have hb' : (bits .and .i64 x 1 != 0) = false := by simpa using hb
        go_wp2
        go_roundg 5
        case measure => omega
        case rel => exact ⟨1, rfl, by rw [HS.out, if_neg hb], rfl, hR1, hU4⟩
    · obtain ⟨a, ha⟩ : ∃ a, flipP x 1 = a := ⟨_, rfl⟩
      have hs : flipP x 2 = if (bits .and .i64 x 2 != 0) = true then bits .or .i64 (flipP x 1) 1 else bits .andNot .i64 (flipP x 1) 1 := rfl
      rw [ha] at hs
      have HS := hideP hs
      clear hs
      rw [ha]
      clear ha
      have c0 : wr.cell? ⟨g, 3, none⟩ = some (.int .i64 2) := hR.cellv rfl
      have c1 : wr.cell? ⟨g, 4, none⟩ = some (.int .i64 1) := hR.cellv rfl
      have c2 : wr.cell? ⟨g, 5, none⟩ = some (.func (.func 48) #[] #[]) := hR.cellv rfl
      have HU := (Upd.refl Nob wr).alloc (.cells #[.int .i64 2, .int .i64 1, .func (.func 48) #[] #[]] 71)
      have hR1 := hR.upd HU not_nob
      have hU4 := hU.trans HU (fun _ _ h => h)
      clear hR HU hU
      by_cases hb : (bits .and .i64 x 2 != 0) = true
      · go_wp2
        go_roundg 4
        case measure => omega
        case rel => exact ⟨2, rfl, by rw [HS.out, if_pos hb], rfl, hR1, hU4⟩
      · have hb' : (bits .and .i64 x 2 != 0) = false := by simpa using hb
        go_wp2
        go_roundg 4
        case measure => omega
        case rel => exact ⟨2, rfl, by rw [HS.out, if_neg hb], rfl, hR1, hU4⟩
    · obtain ⟨a, ha⟩ : ∃ a, flipP x 2 = a := ⟨_, rfl⟩
      have hs : flipP x 3 = if (bits .and .i64 x 4 != 0) = true then bits .or .i64 (flipP x 2) 8 else bits .andNot .i64 (flipP x 2) 8 := rfl
      rw [ha] at hs
      have HS := hideP hs
      clear hs
      rw [ha]
      clear ha
      have c0 : wr.cell? ⟨g, 6, none⟩ = some (.int .i64 4) := hR.cellv rfl
      have c1 : wr.cell? ⟨g, 7, none⟩ = some (.int .i64 8) := hR.cellv rfl
      have c2 : wr.cell? ⟨g, 8, none⟩ = some (.func (.func 49) #[] #[]) := hR.cellv rfl
      have HU := (Upd.refl Nob wr).alloc (.cells #[.int .i64 4, .int .i64 8, .func (.func 49) #[] #[]] 71)
      have hR1 := hR.upd HU not_nob
      have hU4 := hU.trans HU (fun _ _ h => h)
      clear hR HU hU
      by_cases hb : (bits .and .i64 x 4 != 0) = true
      · go_wp2
        go_roundg 3
        case measure => omega
        case rel => exact ⟨3, rfl, by rw [HS.out, if_pos hb], rfl, hR1, hU4⟩
      · have hb' : (bits .and .i64 x 4 != 0) = false := by simpa using hb
        go_wp2
        go_roundg 3
        case measure => omega
        case rel => exact ⟨3, rfl, by rw [HS.out, if_neg hb], rfl, hR1, hU4⟩
    · obtain ⟨a, ha⟩ : ∃ a, flipP x 3 = a := ⟨_, rfl⟩
      have hs : flipP x 4 = if (bits .and .i64 x 8 != 0) = true then bits .or .i64 (flipP x 3) 4 else bits .andNot .i64 (flipP x 3) 4 := rfl
      rw [ha] at hs
      have HS := hideP hs
      clear hs
      rw [ha]
      clear ha
      have c0 : wr.cell? ⟨g, 9, none⟩ = some (.int .i64 8) := hR.cellv rfl
      have c1 : wr.cell? ⟨g, 10, none⟩ = some (.int .i64 4) := hR.cellv rfl
      have c2 : wr.cell? ⟨g, 11, none⟩ = some (.func (.func 50) #[] #[]) := hR.cellv rfl
      have HU := (Upd.refl Nob wr).alloc (.cells #[.int .i64 8, .int .i64 4, .func (.func 50) #[] #[]] 71)
      have hR1 := hR.upd HU not_nob
      have hU4 := hU.trans HU (fun _ _ h => h)
      clear hR HU hU
      by_cases hb : (bits .and .i64 x 8 != 0) = true
      · go_wp2
        go_roundg 2
        case measure => omega
        case rel => exact ⟨4, rfl, by rw [HS.out, if_pos hb], rfl, hR1, hU4⟩
      · have hb' : (bits .and .i64 x 8 != 0) = false := by simpa using hb
        go_wp2
        go_roundg 2
        case measure => omega
        case rel => exact ⟨4, rfl, by rw [HS.out, if_neg hb], rfl, hR1, hU4⟩
    · obtain ⟨a, ha⟩ : ∃ a, flipP x 4 = a := ⟨_, rfl⟩
      have hs : flipP x 5 = if (bits .and .i64 x 16 != 0) = true then bits .or .i64 (flipP x 4) 16 else bits .andNot .i64 (flipP x 4) 16 := rfl
      rw [ha] at hs
      have HS := hideP hs
      clear hs
      rw [ha]
      clear ha
      have c0 : wr.cell? ⟨g, 12, none⟩ = some (.int .i64 16) := hR.cellv rfl
      have c1 : wr.cell? ⟨g, 13, none⟩ = some (.int .i64 16) := hR.cellv rfl
      have c2 : wr.cell? ⟨g, 14, none⟩ = some (.func (.func 51) #[] #[]) := hR.cellv rfl
      have HU := (Upd.refl Nob wr).alloc (.cells #[.int .i64 16, .int .i64 16, .func (.func 51) #[] #[]] 71)
      have hR1 := hR.upd HU not_nob
      have hU4 := hU.trans HU (fun _ _ h => h)
      clear hR HU hU
      by_cases hb : (bits .and .i64 x 16 != 0) = true
      · go_wp2
        go_roundg 1
        case measure => omega
        case rel => exact ⟨5, rfl, by rw [HS.out, if_pos hb], rfl, hR1, hU4⟩
      · have hb' : (bits .and .i64 x 16 != 0) = false := by simpa using hb
        go_wp2
        go_roundg 1
        case measure => omega
        case rel => exact ⟨5, rfl, by rw [HS.out, if_neg hb], rfl, hR1, hU4⟩
    · obtain ⟨a, ha⟩ : ∃ a, flipP x 5 = a := ⟨_, rfl⟩
      have hs : flipP x 6 = if (bits .and .i64 x 32 != 0) = true then bits .or .i64 (flipP x 5) 32 else bits .andNot .i64 (flipP x 5) 32 := rfl
      rw [ha] at hs
      have HS := hideP hs
      clear hs
      rw [ha]
      clear ha
      have c0 : wr.cell? ⟨g, 15, none⟩ = some (.int .i64 32) := hR.cellv rfl
      have c1 : wr.cell? ⟨g, 16, none⟩ = some (.int .i64 32) := hR.cellv rfl
      have c2 : wr.cell? ⟨g, 17, none⟩ = some (.func (.func 52) #[] #[]) := hR.cellv rfl
      have HU := (Upd.refl Nob wr).alloc (.cells #[.int .i64 32, .int .i64 32, .func (.func 52) #[] #[]] 71)
      have hR1 := hR.upd HU not_nob
      have hU4 := hU.trans HU (fun _ _ h => h)
      clear hR HU hU
      by_cases hb : (bits .and .i64 x 32 != 0) = true
      · go_wp2
        go_roundg 0
        case measure => omega
        case rel => exact ⟨6, rfl, by rw [HS.out, if_pos hb], rfl, hR1, hU4⟩
      · have hb' : (bits .and .i64 x 32 != 0) = false := by simpa using hb
        go_wp2
        go_roundg 0
        case measure => omega
        case rel => exact ⟨6, rfl, by rw [HS.out, if_neg hb], rfl, hR1, hU4⟩
    · go_wp2
      go_ret
      exact ⟨rfl, hU⟩

end Go.Proofs.Ytlaofcgllchedaa

/-
  Trees read backward, plain; what a node may hold.
-/
namespace Go.Proofs.Ytlaofcgllchedaa
open Go.RowKit
set_option linter.unusedVariables false

def bare (k : Int) (rs : List (Int × Int)) (am : Int) (subs : List Tree) (mn mx : Int) (lz : Bool) : Tree := .mk k rs am subs mn mx lz 0 ByteArray.empty
mutual
/-- the mirror, groups left out -/
def mirT : Tree → Tree
  | .mk k rs am subs mn mx lz ix nm => if k = 7 then mirH subs else bare k rs (if k = 3 then flipP am 6 else am) (if k = 4 then (mirL subs).reverse else mirL subs) mn mx lz
def mirL : List Tree → List Tree
  | [] => []
  | t :: l => mirT t :: mirL l
def mirH : List Tree → Tree
  | [] => bare 0 [] 0 [] 0 0 false
  | t :: _ => mirT t
end
theorem mirL_map : ∀ (l : List Tree), mirL l = l.map mirT
  | [] => by rw [mirL]; rfl
  | t :: l => by rw [mirL, mirL_map l]; rfl
theorem mirL_len (l : List Tree) : (mirL l).length = l.length := by rw [mirL_map, List.length_map]
theorem mirT_group {t : Tree} (h : t.kind = 7) {x : Tree} (hx : t.subs[0]? = some x) : mirT t = mirT x := by
  obtain ⟨k, r, a, l, m, mx, z, i, n⟩ := t
  rw [mirT, if_pos (show k = 7 from h)]
  cases l with
  | nil => simp [Tree.subs] at hx
  | cons y l =>
    simp [Tree.subs] at hx
    subst hx
    rw [mirH]
/-- the Subs of a mirror -/
def mirS (t : Tree) : List Tree := if t.kind = 4 then (mirL t.subs).reverse else mirL t.subs
theorem mirS_len (t : Tree) : (mirS t).length = t.subs.length := by unfold mirS; split <;> simp [mirL_len]
/-- where Sub i of a tree stands in its mirror -/
def mirAt (t : Tree) (i : Nat) : Nat := if t.kind = 4 then t.subs.length - 1 - i else i
theorem mirAt_lt {t : Tree} {i : Nat} (h : i < t.subs.length) : mirAt t i < t.subs.length := by unfold mirAt; split <;> omega
theorem mirAt_inj {t : Tree} {i j : Nat} (hi : i < t.subs.length) (hj : j < t.subs.length) (h : mirAt t i = mirAt t j) : i = j := by unfold mirAt at h; split at h <;> omega
theorem mirS_at {t : Tree} {i : Nat} {x : Tree} (hx : t.subs[i]? = some x) : (mirS t)[mirAt t i]? = some (mirT x) := by
  have hi := (List.getElem?_eq_some_iff.1 hx).1
  have h : (mirL t.subs)[i]? = some (mirT x) := by rw [mirL_map, List.getElem?_map, hx]; rfl
  unfold mirS mirAt
  split
  · rw [List.getElem?_reverse (by rw [mirL_len]; omega), mirL_len, show t.subs.length - 1 - (t.subs.length - 1 - i) = i by omega]
    exact h
  · exact h
/-- each place of a mirror is a Sub's -/
theorem mirS_from {t : Tree} {p : Nat} {y : Tree} (hy : (mirS t)[p]? = some y) : ∃ i x, t.subs[i]? = some x ∧ mirAt t i = p ∧ y = mirT x := by
  have hp := (List.getElem?_eq_some_iff.1 hy).1
  rw [mirS_len] at hp
  have hq : mirAt t p < t.subs.length := mirAt_lt hp
  have hqp : mirAt t (mirAt t p) = p := by unfold mirAt; split <;> omega
  have hx := List.getElem?_eq_getElem hq
  refine ⟨_, _, hx, hqp, ?_⟩
  have h := mirS_at hx
  rw [hqp, hy] at h
  injection h
theorem mirT_node {t : Tree} (h : ¬ t.kind = 7) : mirT t = bare t.kind t.rs (if t.kind = 3 then flipP t.am 6 else t.am) (mirS t) t.mn t.mx t.lz := by
  obtain ⟨k, r, a, l, m, mx, z, i, n⟩ := t
  rw [mirT, if_neg (show ¬ k = 7 from h)]
  rfl

/-- a tree that turned can walk: short lists, a group has a Sub -/
def FineT (t : Tree) : Prop :=
  t.rs.length ≤ 5000 ∧ t.subs.length ≤ 200000 ∧ (t.kind = 7 → 0 < t.subs.length) ∧ ∀ i (h : i < t.subs.length), FineT t.subs[i]
termination_by SizeOf.sizeOf t
decreasing_by exact Tree.sub_lt (List.getElem_mem h)
theorem FineT.top {t : Tree} (h : FineT t) : t.rs.length ≤ 5000 ∧ t.subs.length ≤ 200000 ∧ (t.kind = 7 → 0 < t.subs.length) ∧ ∀ (i : Nat) x, t.subs[i]? = some x → FineT x := by
  rw [FineT] at h
  exact ⟨h.1, h.2.1, h.2.2.1, fun i x hx => by obtain ⟨hi, rfl⟩ := List.getElem?_eq_some_iff.1 hx; exact h.2.2.2 i hi⟩

/-! ### a node's nine cells laid down -/
def put9 (w : World) (g o : Nat) (v0 v1 v2 v3 v4 v5 v6 v7 v8 : Value) : World := ((((((((w.setCell ⟨g, o, none⟩ v0).setCell ⟨g, o + 1, none⟩ v1).setCell ⟨g, o + 2, none⟩ v2).setCell ⟨g, o + 3, none⟩ v3).setCell ⟨g, o + 4, none⟩ v4).setCell ⟨g, o + 5, none⟩ v5).setCell ⟨g, o + 6, none⟩ v6).setCell ⟨g, o + 7, none⟩ v7).setCell ⟨g, o + 8, none⟩ v8
def arr9 (cs : Array Value) (o : Nat) (v0 v1 v2 v3 v4 v5 v6 v7 v8 : Value) : Array Value := ((((((((cs.setIfInBounds o v0).setIfInBounds (o + 1) v1).setIfInBounds (o + 2) v2).setIfInBounds (o + 3) v3).setIfInBounds (o + 4) v4).setIfInBounds (o + 5) v5).setIfInBounds (o + 6) v6).setIfInBounds (o + 7) v7).setIfInBounds (o + 8) v8
theorem arr9_size (cs : Array Value) (o : Nat) (v0 v1 v2 v3 v4 v5 v6 v7 v8 : Value) : (arr9 cs o v0 v1 v2 v3 v4 v5 v6 v7 v8).size = cs.size := by simp [arr9]
theorem arr9_far {cs : Array Value} {o j : Nat} (v0 v1 v2 v3 v4 v5 v6 v7 v8 : Value) (h : j < o ∨ o + 9 ≤ j) : (arr9 cs o v0 v1 v2 v3 v4 v5 v6 v7 v8)[j]? = cs[j]? := by
  simp only [arr9, Array.getElem?_setIfInBounds]
  rw [if_neg (by omega), if_neg (by omega), if_neg (by omega), if_neg (by omega), if_neg (by omega), if_neg (by omega), if_neg (by omega), if_neg (by omega), if_neg (by omega)]
theorem arr9_at {cs : Array Value} {o : Nat} (v0 v1 v2 v3 v4 v5 v6 v7 v8 : Value) (h : o + 9 ≤ cs.size) : ∀ (j : Nat) (v : Value), (#[v0, v1, v2, v3, v4, v5, v6, v7, v8] : Array Value)[j]? = some v → (arr9 cs o v0 v1 v2 v3 v4 v5 v6 v7 v8)[o + j]? = some v := by
  intro j v hv
  have hj : j < 9 := (Array.getElem?_eq_some_iff.1 hv).1
  simp only [arr9, Array.getElem?_setIfInBounds, Array.size_setIfInBounds]
  match j, hj with
  | 0, _ => rw [if_neg (by omega), if_neg (by omega), if_neg (by omega), if_neg (by omega), if_neg (by omega), if_neg (by omega), if_neg (by omega), if_neg (by omega), if_pos (by omega), if_pos (by omega)]; exact hv
  | 1, _ => rw [if_neg (by omega), if_neg (by omega), if_neg (by omega), if_neg (by omega), if_neg (by omega), if_neg (by omega), if_neg (by omega), if_pos (by omega), if_pos (by omega)]; exact hv
  | 2, _ => rw [if_neg (by omega), if_neg (by omega), if_neg (by omega), if_neg (by omega), if_neg (by omega), if_neg (by omega), if_pos (by omega), if_pos (by omega)]; exact hv
  | 3, _ => rw [if_neg (by omega), if_neg (by omega), if_neg (by omega), if_neg (by omega), if_neg (by omega), if_pos (by omega), if_pos (by omega)]; exact hv
  | 4, _ => rw [if_neg (by omega), if_neg (by omega), if_neg (by omega), if_neg (by omega), if_pos (by omega), if_pos (by omega)]; exact hv
  | 5, _ => rw [if_neg (by omega), if_neg (by omega), if_neg (by omega), if_pos (by omega), if_pos (by omega)]; exact hv
  | 6, _ => rw [if_neg (by omega), if_neg (by omega), if_pos (by omega), if_pos (by omega)]; exact hv
  | 7, _ => rw [if_neg (by omega), if_pos (by omega), if_pos (by omega)]; exact hv
  | 8, _ => rw [if_pos (by omega), if_pos (by omega)]; exact hv
theorem cells9 {w : World} {g : Nat} {t : TypeId} {cs : Array Value} (h : Cells w g t cs) (o : Nat) (v0 v1 v2 v3 v4 v5 v6 v7 v8 : Value) : Cells (put9 w g o v0 v1 v2 v3 v4 v5 v6 v7 v8) g t (arr9 cs o v0 v1 v2 v3 v4 v5 v6 v7 v8) := ((((((((h.set_ _ _).set_ _ _).set_ _ _).set_ _ _).set_ _ _).set_ _ _).set_ _ _).set_ _ _).set_ _ _
theorem arr9_all (a0 a1 a2 a3 a4 a5 a6 a7 a8 v0 v1 v2 v3 v4 v5 v6 v7 v8 : Value) : arr9 #[a0, a1, a2, a3, a4, a5, a6, a7, a8] 0 v0 v1 v2 v3 v4 v5 v6 v7 v8 = #[v0, v1, v2, v3, v4, v5, v6, v7, v8] := by
  simp [arr9]
theorem cells9_all {w : World} {g : Nat} {t : TypeId} {a0 a1 a2 a3 a4 a5 a6 a7 a8 : Value} (h : Cells w g t #[a0, a1, a2, a3, a4, a5, a6, a7, a8]) (v0 v1 v2 v3 v4 v5 v6 v7 v8 : Value) : Cells (put9 w g 0 v0 v1 v2 v3 v4 v5 v6 v7 v8) g t #[v0, v1, v2, v3, v4, v5, v6, v7, v8] := by
  have := cells9 h 0 v0 v1 v2 v3 v4 v5 v6 v7 v8
  rwa [arr9_all] at this
/-- what stands in a block that is put down -/
theorem nine {w : World} {g : Nat} {t : TypeId} {v0 v1 v2 v3 v4 v5 v6 v7 v8 : Value} (h : Cells w g t #[v0, v1, v2, v3, v4, v5, v6, v7, v8]) :
    w.cell? ⟨g, 0, none⟩ = some v0 ∧ w.cell? ⟨g, 1, none⟩ = some v1 ∧ w.cell? ⟨g, 2, none⟩ = some v2 ∧ w.cell? ⟨g, 3, none⟩ = some v3 ∧ w.cell? ⟨g, 4, none⟩ = some v4 ∧ w.cell? ⟨g, 5, none⟩ = some v5 ∧ w.cell? ⟨g, 6, none⟩ = some v6 ∧ w.cell? ⟨g, 7, none⟩ = some v7 ∧ w.cell? ⟨g, 8, none⟩ = some v8 :=
  ⟨h.cellv rfl, h.cellv rfl, h.cellv rfl, h.cellv rfl, h.cellv rfl, h.cellv rfl, h.cellv rfl, h.cellv rfl, h.cellv rfl⟩
theorem nine_ {w : World} {g : Nat} {t : TypeId} {cs : Array Value} (h : Cells w g t cs) :
    w.frozen? ⟨g, 0, none⟩ = false ∧ w.frozen? ⟨g, 1, none⟩ = false ∧ w.frozen? ⟨g, 2, none⟩ = false ∧ w.frozen? ⟨g, 3, none⟩ = false ∧ w.frozen? ⟨g, 4, none⟩ = false ∧ w.frozen? ⟨g, 5, none⟩ = false ∧ w.frozen? ⟨g, 6, none⟩ = false ∧ w.frozen? ⟨g, 7, none⟩ = false ∧ w.frozen? ⟨g, 8, none⟩ = false :=
  ⟨h.frozen _, h.frozen _, h.frozen _, h.frozen _, h.frozen _, h.frozen _, h.frozen _, h.frozen _, h.frozen _⟩
theorem upd9 (w : World) (g o : Nat) (v0 v1 v2 v3 v4 v5 v6 v7 v8 : Value) : Upd (fun b => b = g) w (put9 w g o v0 v1 v2 v3 v4 v5 v6 v7 v8) :=
  (((((((((Upd.refl (fun b => b = g) w).setCell ⟨g, o, none⟩ v0 (fun _ => rfl)).setCell ⟨g, o + 1, none⟩ v1 (fun _ => rfl)).setCell ⟨g, o + 2, none⟩ v2 (fun _ => rfl)).setCell ⟨g, o + 3, none⟩ v3 (fun _ => rfl)).setCell ⟨g, o + 4, none⟩ v4 (fun _ => rfl)).setCell ⟨g, o + 5, none⟩ v5 (fun _ => rfl)).setCell ⟨g, o + 6, none⟩ v6 (fun _ => rfl)).setCell ⟨g, o + 7, none⟩ v7 (fun _ => rfl)).setCell ⟨g, o + 8, none⟩ v8 (fun _ => rfl)

/-- the Subs of a mirror, the first k of the tree's laid down in block g -/
def SubsAt (w : World) (S : Nat → Prop) (t : Tree) (arr : Array Value) (k : Nat) : Prop :=
  ∀ (i : Nat) x, i < k → t.subs[i]? = some x → ∃ cs', (∀ j v, cs'[j]? = some v → arr[mirAt t i * 9 + j]? = some v) ∧ NodeR w S cs' (mirT x)
theorem SubsAt.upd {F : Nat → Prop} {w w' : World} {S : Nat → Prop} {t : Tree} {arr : Array Value} {k : Nat} (h : SubsAt w S t arr k) (hU : Upd F w w') (hF : ∀ b, S b → ¬ F b) : SubsAt w' S t arr k := fun i x hi hx => by
  obtain ⟨cs', h1, h2⟩ := h i x hi hx
  exact ⟨cs', h1, h2.upd_ hU hF⟩
theorem SubsAt.more {w : World} {S : Nat → Prop} {t x : Tree} {arr : Array Value} {k : Nat} {PA : Option Addr} {pc : Nat} {QA : Option Addr} {qc : Nat} (h : SubsAt w S t arr k) (hx : t.subs[k]? = some x) (hN : NodeR w S (nodeCells (mirT x) PA pc QA qc) (mirT x)) (hs : t.subs.length * 9 ≤ arr.size) :
    SubsAt w S t (arr9 arr (mirAt t k * 9) (.int .i64 (mirT x).kind) (.slice PA (mirT x).rs.length pc) (.int .i64 (mirT x).am) (.slice QA (mirT x).subs.length qc) (.int .i64 (mirT x).mn) (.int .i64 (mirT x).mx) (.bool (mirT x).lz) (.int .i64 (mirT x).ix) (.string (mirT x).nm)) (k + 1) := by
  intro i y hi hy
  have hk := (List.getElem?_eq_some_iff.1 hx).1
  have hiL := (List.getElem?_eq_some_iff.1 hy).1
  have hm := mirAt_lt hk
  by_cases e : i = k
  · subst e
    rw [hx] at hy
    injection hy with hy
    subst hy
    exact ⟨_, arr9_at _ _ _ _ _ _ _ _ _ (by omega), hN⟩
  · obtain ⟨cs', h1, h2⟩ := h i y (by omega) hy
    refine ⟨cs', fun j v hv => ?_, h2⟩
    have hj : j < 9 := by
      obtain ⟨_, _, _, _, rfl, _⟩ := h2.top
      exact (Array.getElem?_eq_some_iff.1 hv).1
    have hne : mirAt t i ≠ mirAt t k := fun hh => e (mirAt_inj hiL hk hh)
    rw [arr9_far _ _ _ _ _ _ _ _ _ (by omega)]
    exact h1 j v hv
end Go.Proofs.Ytlaofcgllchedaa
