/-
  The walk of heronref10.fields: an instruction's numbers.
-/
import Derived.Test.YtdbdokjlcdogiaaDoorNums
import Derived.Deep.RegionHeld3
import Derived.Deep.AppendLies
namespace Go.Proofs.YtdbdokjlcdogiaaDoor
open Go.RowKit
set_option linter.unusedVariables false

set_option maxRecDepth 100000 in
set_option maxHeartbeats 4000000 in
theorem fields_any (w : World) (S : Nat → Prop) (B : Option Addr) (c : Nat) (x : PInst) (h : RangesR w S B x.rs.length x.rs) (hf : x.rs.length ≤ 5000) :
    Calls Tryd.prog 50 #[.agg #[.int .i64 x.op, .int .i64 x.x, .int .i64 x.y, .int .i64 x.arg, .slice B x.rs.length c]] w (NumsAns w (numsOf x)) := by
  have C0 := Cells.new w 48 #[.int .i64 x.op, .int .i64 x.x, .int .i64 x.y, .int .i64 x.arg, .slice B x.rs.length c]
  have hU := (Upd.refl Nob w).alloc (.cells #[.int .i64 x.op, .int .i64 x.x, .int .i64 x.y, .int .i64 x.arg, .slice B x.rs.length c] 48)
  have HR := hideP h
  clear h
  generalize hP : NumsAns w (numsOf x) = P
  have HP := hideP (show ∀ l A c w', numsOf x = l → w'.ownsRow w.heap.size 3 1 (.slice A l.length c) l.length (l.map (Value.int .i64)) → Upd Nob w w' → P (.returned (.slice A l.length c)) w' from fun l A c w' h1 h2 h3 => by rw [← hP, h1]; exact ⟨A, c, rfl, h2, h3⟩)
  clear hP
  obtain ⟨i0, hi0, hz0, hz1, hz2⟩ := info_parts nuinfo_int
  go_enter Tryd.func50, Tryd.ntmps50
  go_upto_region 1 with fail
  generalize w.alloc (.cells #[.int .i64 x.op, .int .i64 x.x, .int .i64 x.y, .int .i64 x.arg, .slice B x.rs.length c] 48) = w2 at *
  have HU := hideP hU
  have hsz := hU.size
  have HC := hideP C0
  have e0 : w2.cell? ⟨w.heap.size, 0, none⟩ = some (.int .i64 x.op) := C0.cellv rfl
  have e1 : w2.cell? ⟨w.heap.size, 1, none⟩ = some (.int .i64 x.x) := C0.cellv rfl
  have e2 : w2.cell? ⟨w.heap.size, 2, none⟩ = some (.int .i64 x.y) := C0.cellv rfl
  have e3 : w2.cell? ⟨w.heap.size, 3, none⟩ = some (.int .i64 x.arg) := C0.cellv rfl
  have e4 : w2.cell? ⟨w.heap.size, 4, none⟩ = some (.slice B x.rs.length c) := C0.cellv rfl
  clear C0 hU
  have HE := hideP (show ∀ a b : Int, ¬ a = b → (a == b) = false from fun a b h => by simpa using h)
  by_cases h2 : x.op = 2
  · have k1 : (x.op == 1) = false := by rw [h2]; rfl
    have k2 : (x.op == 2) = true := by rw [h2]; rfl
    have HQ := hideP (show numsOf x = [x.x, x.y] by unfold numsOf; rw [if_neg (by omega), if_pos h2])
    clear h2
    go_wp2_with fail
    try go_ret
    have ho := own_base (base' := w.heap.size) (own_lit (w := w2) #[.int .i64 x.x, .int .i64 x.y] 3 (by unfold maxLen; simp)) (fun g hg => by simp [Value.ownBlock] at hg; omega)
    exact HP.out [x.x, x.y] _ _ _ HQ.out ho (HU.out.alloc _)
  by_cases h3 : x.op = 3
  · skip
    have k1 : (x.op == 1) = false := by rw [h3]; rfl
    have k2 : (x.op == 2) = false := by rw [h3]; rfl
    have k3 : (x.op == 3) = true := by rw [h3]; rfl
    have HQ := hideP (show numsOf x = [x.arg, x.x] by unfold numsOf; rw [if_neg (by omega), if_neg (by omega), if_pos (by omega)])
    clear h3
    go_wp2_with fail
    try go_ret
    have ho := own_base (base' := w.heap.size) (own_lit (w := w2) #[.int .i64 x.arg, .int .i64 x.x] 3 (by unfold maxLen; simp)) (fun g hg => by simp [Value.ownBlock] at hg; omega)
    exact HP.out [x.arg, x.x] _ _ _ HQ.out ho (HU.out.alloc _)
  by_cases h4 : x.op = 4
  · skip
    have k1 : (x.op == 1) = false := by rw [h4]; rfl
    have k2 : (x.op == 2) = false := by rw [h4]; rfl
    have k3 : (x.op == 3) = false := by rw [h4]; rfl
    have k4 : (x.op == 4) = true := by rw [h4]; rfl
    have HQ := hideP (show numsOf x = [x.arg, x.x] by unfold numsOf; rw [if_neg (by omega), if_neg (by omega), if_pos (by omega)])
    clear h4
    go_wp2_with fail
    try go_ret
    have ho := own_base (base' := w.heap.size) (own_lit (w := w2) #[.int .i64 x.arg, .int .i64 x.x] 3 (by unfold maxLen; simp)) (fun g hg => by simp [Value.ownBlock] at hg; omega)
    exact HP.out [x.arg, x.x] _ _ _ HQ.out ho (HU.out.alloc _)
  by_cases h5 : x.op = 5
  · skip
    have k1 : (x.op == 1) = false := by rw [h5]; rfl
    have k2 : (x.op == 2) = false := by rw [h5]; rfl
    have k3 : (x.op == 3) = false := by rw [h5]; rfl
    have k4 : (x.op == 4) = false := by rw [h5]; rfl
    have k5 : (x.op == 5) = true := by rw [h5]; rfl
    have HQ := hideP (show numsOf x = [x.arg] by unfold numsOf; rw [if_neg (by omega), if_neg (by omega), if_neg (by omega), if_pos h5])
    clear h5
    go_wp2_with fail
    try go_ret
    have ho := own_base (base' := w.heap.size) (own_lit (w := w2) #[.int .i64 x.arg] 3 (by unfold maxLen; simp)) (fun g hg => by simp [Value.ownBlock] at hg; omega)
    exact HP.out [x.arg] _ _ _ HQ.out ho (HU.out.alloc _)
  by_cases h7 : x.op = 7
  · skip
    have k1 : (x.op == 1) = false := by rw [h7]; rfl
    have k2 : (x.op == 2) = false := by rw [h7]; rfl
    have k3 : (x.op == 3) = false := by rw [h7]; rfl
    have k4 : (x.op == 4) = false := by rw [h7]; rfl
    have k5 : (x.op == 5) = false := by rw [h7]; rfl
    have k6 : (x.op == 6) = false := by rw [h7]; rfl
    have k7 : (x.op == 7) = true := by rw [h7]; rfl
    have HQ := hideP (show numsOf x = [x.x] by unfold numsOf; rw [if_neg (by omega), if_neg (by omega), if_neg (by omega), if_neg (by omega), if_pos h7])
    clear h7
    go_wp2_with fail
    try go_ret
    have ho := own_base (base' := w.heap.size) (own_lit (w := w2) #[.int .i64 x.x] 3 (by unfold maxLen; simp)) (fun g hg => by simp [Value.ownBlock] at hg; omega)
    exact HP.out [x.x] _ _ _ HQ.out ho (HU.out.alloc _)
  by_cases h1 : x.op = 1
  · have k1 : (x.op == 1) = true := by rw [h1]; rfl
    have HQ := hideP (show numsOf x = x.x :: (x.rs.length : Int) :: flatR x.rs by unfold numsOf; rw [if_pos h1])
    clear h1 h2 h3 h4 h5 h7
    have hA := (Upd.refl Nob w2).alloc (.cells #[.int .i64 x.x, .int .i64 (x.rs.length : Int)] 3)
    have f4 : (w2.alloc (.cells #[.int .i64 x.x, .int .i64 (x.rs.length : Int)] 3)).cell? ⟨w.heap.size, 4, none⟩ = some (.slice B x.rs.length c) := (HC.out.upd hA not_nob).cellv rfl
    have HA := hideP hA
    have HO := hideP (own_lit (w := w2) #[.int .i64 x.x, .int .i64 (x.rs.length : Int)] 3 (by unfold maxLen; simp))
    clear hA
    go_wp2_with fail
    clear f4 k1 e0 e1 e2 e3 e4
    generalize w2.alloc (.cells #[.int .i64 x.x, .int .i64 (x.rs.length : Int)] 3) = w3 at *
    have hs3 := HA.out.size
    obtain ⟨g0, hg0⟩ : ∃ g0, w2.heap.size = g0 := ⟨_, rfl⟩
    rw [hg0] at HO hs3 hsz
    simp only [hg0]
    go_loopg [3, 4] x.rs.length (fun gk v3 v4 wr => ∃ (k : Nat) (L : List Int) (A : Option Addr) (c' : Nat), k + gk = x.rs.length ∧ v4 = .int .i64 (k : Int) ∧ L = x.x :: (x.rs.length : Int) :: flatR (x.rs.take k) ∧ v3 = .slice A L.length c' ∧ L.length = 2 + 2 * k ∧ wr.ownsRow g0 3 1 (.slice A L.length c') L.length (L.map (Value.int .i64)) ∧ Upd Nob w2 wr)
    case atStart => exact ⟨0, [x.x, (x.rs.length : Int)], some ⟨g0, 0, none⟩, 2, by omega, rfl, by simp [flatR], rfl, rfl, HO.out, HA.out⟩
    case round =>
      obtain ⟨k, L, A, c', hk, rfl, hL, rfl, hLl, ho, hUr⟩ := hrel
      have HLl := hideP hLl
      have f4 : wr.cell? ⟨w.heap.size, 4, none⟩ = some (.slice B x.rs.length c) := (HC.out.upd hUr not_nob).cellv rfl
      clear hLl
      by_cases hlt : k < x.rs.length
      · have g1 : (k : Int) < (x.rs.length : Int) := by omega
        obtain ⟨ad, y, g, o, rfl, hy, -, -, hadd, r0, r1, -⟩ := (HR.out.upd HU.out (fun _ _ => not_nob)).at1 hlt
        have f5 : w2.cell? ⟨w.heap.size, 4, none⟩ = some (.slice (some ad) x.rs.length c) := HC.out.cellv rfl
        obtain ⟨lo, hi⟩ := y
        simp only at r0 r1
        have hst := flatR_step hy
        have HST := hideP (show L ++ [lo, hi] = x.x :: (x.rs.length : Int) :: flatR (x.rs.take (k + 1)) by rw [hL, hst]; simp)
        have hU0 := hUr.drew
        have HU0 := hideP hU0
        have HU1 := hideP (hU0.alloc (.cells #[.int .i64 lo, .int .i64 hi] 3))
        have HOo := hideP ((own_upd ho ((Upd.refl Nob wr).drew) (fun _ _ => not_nob)).alloc (.cells #[.int .i64 lo, .int .i64 hi] 3))
        have hsz2 := hUr.size
        have hln := HLl.out
        have hlb : L.length ≤ 20000 := by omega
        have HK := hideP hk
        have HSL := hideP (show ∀ w', Upd Nob w2 w' → (w'.cell? ⟨w.heap.size, 0 + 4, none⟩ = some (.slice (some ad) x.rs.length c) ∧ w'.cell? ⟨g, o, none⟩ = some (.int .i64 lo) ∧ w'.cell? ⟨g, o + 1, none⟩ = some (.int .i64 hi)) from fun w' hv => ⟨(hv.cell (World.block_lt_of_cell? _ _ f5) not_nob).trans f5, (hv.cell (World.block_lt_of_cell? _ _ r0) not_nob).trans r0, (hv.cell (World.block_lt_of_cell? _ _ r1) not_nob).trans r1⟩)
        clear hL hst hy ho hUr hU0 hk hln
        go_upto_region 7 with fail
        clear f4 f5 r0 r1
        go_region_held3 (fun w' => w'.cell? ⟨w.heap.size, 0 + 4, none⟩ = some (.slice (some ad) x.rs.length c) ∧ w'.cell? ⟨g, o, none⟩ = some (.int .i64 lo) ∧ w'.cell? ⟨g, o + 1, none⟩ = some (.int .i64 hi))
          (first | exact HSL.out _ HU0.out | exact HSL.out _ HU1.out | exact HSL.out _ HU9.out)
          (first
          | (refine step_append_lies _ rfl (.tmp 22) (.tmp 35) 71 rfl g0 3 i0 (.int .i64 0) 1 8 Tryd.underlying71 hi0 hz0 hz1 hz2 rfl (by decide) (.slice A L.length c') L.length (L.map (Value.int .i64)) (by rfl) HOo.out ⟨wr.heap.size, 0, none⟩ 2 2 [(.int .i64 lo), (.int .i64 hi)] (by rfl) (by rfl) (World.news_of_block (cs := #[(.int .i64 lo), (.int .i64 hi)]) (t := 3) (fr := (0, 0)) (heap_alloc_new wr.drew _)) (by intro u hu; simp at hu; rcases hu with rfl | rfl <;> rfl) (by decide) (by unfold maxLen; simp; omega) (by omega) (by simp; omega) (wr.heap.size + 1) (by simp) ?_; intro gN cN w9 oN gr hat hlt; have HON := hideP oN; have HU9 := hideP (HU1.out.grown gr (fun b hb h => by have := own_lo HOo.out hb; omega)); clear oN gr hat hlt))
        go_wp2_with fail
        have hU8 : Upd Nob w2 w9 := HU9.out
        have h9 : L.length + 2 = (L ++ [lo, hi]).length := by simp
        have HO8 := hideP (show w9.ownsRow g0 3 1 (.slice (some ⟨gN, 0, none⟩) (L ++ [lo, hi]).length cN) (L ++ [lo, hi]).length ((L ++ [lo, hi]).map (Value.int .i64)) from by rw [← h9]; simpa using HON.out)
        have hk := HK.out
        go_roundg (x.rs.length - (k + 1))
        case measure => omega
        case rel => exact ⟨k + 1, L ++ [lo, hi], some ⟨gN, 0, none⟩, cN, by omega, by go_num, HST.out, by rw [h9], by have := HLl.out; simp; omega, HO8.out, hU8⟩
      · have g1 : ¬ (k : Int) < (x.rs.length : Int) := by omega
        obtain rfl : k = x.rs.length := by omega
        rw [List.take_length] at hL
        have HL := hideP hL
        have HOz := hideP ho
        have HUz := hideP hUr
        clear hL ho hUr hk
        go_wp2_with fail
        try go_ret
        exact HP.out L _ _ _ (HQ.out.trans HL.out.symm) (own_base HOz.out (fun g hg => by have := own_lo HOz.out hg; omega)) (HU.out.trans HUz.out (fun _ _ h => h))
  have k1 := HE.out _ _ h1
  have k2 := HE.out _ _ h2
  have k3 := HE.out _ _ h3
  have k4 := HE.out _ _ h4
  have k5 := HE.out _ _ h5
  have k7 := HE.out _ _ h7
  have HQ := hideP (show numsOf x = [] by unfold numsOf; rw [if_neg h1, if_neg h2, if_neg (by omega), if_neg h5, if_neg h7])
  clear h1 h2 h3 h4 h5 h7
  go_wp2_with fail
  try go_ret
  exact HP.out [] none 0 _ HQ.out (World.ownsRow_nil _ _ _ _) HU.out
end Go.Proofs.YtdbdokjlcdogiaaDoor
