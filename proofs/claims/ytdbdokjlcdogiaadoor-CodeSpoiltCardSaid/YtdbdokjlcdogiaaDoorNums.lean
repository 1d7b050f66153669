/-
  The walks of code.numbers and heronref10.fields: an instruction's numbers.
-/
import Derived.Test.YtdbdokjlcdogiaaDoorNum
namespace Go.Proofs.YtdbdokjlcdogiaaDoor
open Go.RowKit
set_option linter.unusedVariables false

def flatR : List (Int × Int) → List Int
  | [] => []
  | r :: l => r.1 :: r.2 :: flatR l
/-- an instruction's numbers -/
def numsOf (x : PInst) : List Int :=
  if x.op = 1 then x.x :: (x.rs.length : Int) :: flatR x.rs
  else if x.op = 2 then [x.x, x.y]
  else if x.op = 3 ∨ x.op = 4 then [x.arg, x.x]
  else if x.op = 5 then [x.arg]
  else if x.op = 7 then [x.x]
  else []
theorem flatR_step {l : List (Int × Int)} {k : Nat} {r : Int × Int} (h : l[k]? = some r) : flatR (l.take (k + 1)) = flatR (l.take k) ++ [r.1, r.2] := by
  have ha : ∀ (a b : List (Int × Int)), flatR (a ++ b) = flatR a ++ flatR b := fun a b => by
    induction a with
    | nil => rfl
    | cons x a ih => simp [flatR, ih]
  rw [List.take_add_one, h, ha]
  rfl
theorem own_lit {w : World} (cs : Array Value) (t : TypeId) (h : cs.size ≤ maxLen) : (w.alloc (.cells cs t)).ownsRow w.heap.size t 1 (.slice (some ⟨w.heap.size, 0, none⟩) cs.size cs.size) cs.size cs.toList :=
  ⟨by simp, .inr ⟨w.heap.size, cs.size, cs, rfl, Nat.le_refl _, heap_alloc_new _ _, Nat.le_refl _, h, by simp, by rw [List.take_of_length_le (by simp)]⟩⟩
theorem nuinfo_int : (Tryd.prog.info? 3).map (fun i => (i.zero, i.size, i.bytes)) = some (some (.int .i64 0), 1, 8) := by kernel_rfl
theorem own_lo {w : World} {base e n size : Nat} {v : Value} {xs : List Value} (h : w.ownsRow base e size v n xs) {g : Nat} (hg : v.ownBlock = some g) : base ≤ g := by
  obtain ⟨-, h | ⟨b, cap, cur, rfl, hb, -⟩⟩ := h
  · obtain ⟨h1, -⟩ := h
    subst h1
    cases hg
  · simp [Value.ownBlock] at hg
    omega
def NumsAns (w : World) (l : List Int) (e : Ending) (w' : World) : Prop := ∃ A c, e = .returned (.slice A l.length c) ∧ w'.ownsRow w.heap.size 3 1 (.slice A l.length c) l.length (l.map (Value.int .i64)) ∧ Upd Nob w w'

set_option maxRecDepth 100000 in
set_option maxHeartbeats 4000000 in
theorem numbers_any (w : World) (S : Nat → Prop) (B : Option Addr) (c : Nat) (x : PInst) (h : RangesR w S B x.rs.length x.rs) (hf : x.rs.length ≤ 5000) :
    Calls Tryd.prog 39 #[.agg #[.int .i64 x.op, .int .i64 x.x, .int .i64 x.y, .int .i64 x.arg, .slice B x.rs.length c]] w (NumsAns w (numsOf x)) := by
  have C0 := Cells.new w 48 #[.int .i64 x.op, .int .i64 x.x, .int .i64 x.y, .int .i64 x.arg, .slice B x.rs.length c]
  have hU := (Upd.refl Nob w).alloc (.cells #[.int .i64 x.op, .int .i64 x.x, .int .i64 x.y, .int .i64 x.arg, .slice B x.rs.length c] 48)
  have HR := hideP h
  clear h
  generalize hP : NumsAns w (numsOf x) = P
  have HP := hideP (show ∀ l A c w', numsOf x = l → w'.ownsRow w.heap.size 3 1 (.slice A l.length c) l.length (l.map (Value.int .i64)) → Upd Nob w w' → P (.returned (.slice A l.length c)) w' from fun l A c w' h1 h2 h3 => by rw [← hP, h1]; exact ⟨A, c, rfl, h2, h3⟩)
  clear hP
  obtain ⟨i0, hi0, hz0, hz1, hz2⟩ := info_parts nuinfo_int
  go_enter Tryd.func39, Tryd.ntmps39
  go_upto_region 1 with fail
  generalize w.alloc (.cells #[.int .i64 x.op, .int .i64 x.x, .int .i64 x.y, .int .i64 x.arg, .slice B x.rs.length c] 48) = w2 at *
  have HU := hideP hU
  have hsz := hU.size
  have HC := hideP C0
  have e0 : w2.cell? ⟨w.heap.size, 0, none⟩ = some (.int .i64 x.op) := C0.cellv rfl
  have e1 : w2.cell? ⟨w.heap.size, 1, none⟩ = some (.int .i64 x.x) := C0.cellv rfl
  have e2 : w2.cell? ⟨w.heap.size, 2, none⟩ = some (.int .i64 x.y) := C0.cellv rfl
  have e3 : w2.cell? ⟨w.heap.size, 3, none⟩ = some (.int .i64 x.arg) := C0.cellv rfl
  have e4 : w2.cell? ⟨w.heap.size, 4, none⟩ = some (.slice B x.rs.length c) := C0.cellv rfl
  clear C0 hU
  have HE := hideP (show ∀ a b : Int, ¬ a = b → (a == b) = false from fun a b h => by simpa using h)
  by_cases h2 : x.op = 2
  · have k1 : (x.op == 1) = false := by rw [h2]; rfl
    have k2 : (x.op == 2) = true := by rw [h2]; rfl
    have HQ := hideP (show numsOf x = [x.x, x.y] by unfold numsOf; rw [if_neg (by omega), if_pos h2])
    clear h2
    go_wp2_with fail
    try go_ret
    have ho := own_base (base' := w.heap.size) (own_lit (w := w2) #[.int .i64 x.x, .int .i64 x.y] 3 (by unfold maxLen; simp)) (fun g hg => by simp [Value.ownBlock] at hg; omega)
    exact HP.out [x.x, x.y] _ _ _ HQ.out ho (HU.out.alloc _)
  by_cases h3 : x.op = 3
  · skip
    have k1 : (x.op == 1) = false := by rw [h3]; rfl
    have k2 : (x.op == 2) = false := by rw [h3]; rfl
    have k3 : (x.op == 3) = true := by rw [h3]; rfl
    have HQ := hideP (show numsOf x = [x.arg, x.x] by unfold numsOf; rw [if_neg (by omega), if_neg (by omega), if_pos (by omega)])
    clear h3
    go_wp2_with fail
    try go_ret
    have ho := own_base (base' := w.heap.size) (own_lit (w := w2) #[.int .i64 x.arg, .int .i64 x.x] 3 (by unfold maxLen; simp)) (fun g hg => by simp [Value.ownBlock] at hg; omega)
    exact HP.out [x.arg, x.x] _ _ _ HQ.out ho (HU.out.alloc _)
  by_cases h4 : x.op = 4
  · skip
    have k1 : (x.op == 1) = false := by rw [h4]; rfl
    have k2 : (x.op == 2) = false := by rw [h4]; rfl
    have k3 : (x.op == 3) = false := by rw [h4]; rfl
    have k4 : (x.op == 4) = true := by rw [h4]; rfl
    have HQ := hideP (show numsOf x = [x.arg, x.x] by unfold numsOf; rw [if_neg (by omega), if_neg (by omega), if_pos (by omega)])
    clear h4
    go_wp2_with fail
    try go_ret
    have ho := own_base (base' := w.heap.size) (own_lit (w := w2) #[.int .i64 x.arg, .int .i64 x.x] 3 (by unfold maxLen; simp)) (fun g hg => by simp [Value.ownBlock] at hg; omega)
    exact HP.out [x.arg, x.x] _ _ _ HQ.out ho (HU.out.alloc _)
  by_cases h5 : x.op = 5
  · skip
    have k1 : (x.op == 1) = false := by rw [h5]; rfl
    have k2 : (x.op == 2) = false := by rw [h5]; rfl
    have k3 : (x.op == 3) = false := by rw [h5]; rfl
    have k4 : (x.op == 4) = false := by rw [h5]; rfl
    have k5 : (x.op == 5) = true := by rw [h5]; rfl
    have HQ := hideP (show numsOf x = [x.arg] by unfold numsOf; rw [if_neg (by omega), if_neg (by omega), if_neg (by omega), if_pos h5])
    clear h5
    go_wp2_with fail
    try go_ret
    have ho := own_base (base' := w.heap.size) (own_lit (w := w2) #[.int .i64 x.arg] 3 (by unfold maxLen; simp)) (fun g hg => by simp [Value.ownBlock] at hg; omega)
    exact HP.out [x.arg] _ _ _ HQ.out ho (HU.out.alloc _)
  by_cases h7 : x.op = 7
  · skip
    have k1 : (x.op == 1) = false := by rw [h7]; rfl
    have k2 : (x.op == 2) = false := by rw [h7]; rfl
    have k3 : (x.op == 3) = false := by rw [h7]; rfl
    have k4 : (x.op == 4) = false := by rw [h7]; rfl
    have k5 : (x.op == 5) = false := by rw [h7]; rfl
    have k6 : (x.op == 6) = false := by rw [h7]; rfl
    have k7 : (x.op == 7) = true := by rw [h7]; rfl
    have HQ := hideP (show numsOf x = [x.x] by unfold numsOf; rw [if_neg (by omega), if_neg (by omega), if_neg (by omega), if_neg (by omega), if_pos h7])
    clear h7
    go_wp2_with fail
    try go_ret
    have ho := own_base (base' := w.heap.size) (own_lit (w := w2) #[.int .i64 x.x] 3 (by unfold maxLen; simp)) (fun g hg => by simp [Value.ownBlock] at hg; omega)
    exact HP.out [x.x] _ _ _ HQ.out ho (HU.out.alloc _)
  by_cases h1 : x.op = 1
  · have k1 : (x.op == 1) = true := by rw [h1]; rfl
    have HQ := hideP (show numsOf x = x.x :: (x.rs.length : Int) :: flatR x.rs by unfold numsOf; rw [if_pos h1])
    clear h1 h2 h3 h4 h5 h7
    have hA := (Upd.refl Nob w2).alloc (.cells #[.int .i64 x.x, .int .i64 (x.rs.length : Int)] 3)
    have f4 : (w2.alloc (.cells #[.int .i64 x.x, .int .i64 (x.rs.length : Int)] 3)).cell? ⟨w.heap.size, 4, none⟩ = some (.slice B x.rs.length c) := (HC.out.upd hA not_nob).cellv rfl
    have HA := hideP hA
    have HO := hideP (own_base (base' := w.heap.size) (own_lit (w := w2) #[.int .i64 x.x, .int .i64 (x.rs.length : Int)] 3 (by unfold maxLen; simp)) (fun g hg => by simp [Value.ownBlock] at hg; omega))
    clear hA
    go_wp2_with fail
    clear f4 k1 e0 e1 e2 e3 e4
    generalize w2.alloc (.cells #[.int .i64 x.x, .int .i64 (x.rs.length : Int)] 3) = w3 at *
    have hs3 := HA.out.size
    generalize w2.heap.size = g0 at *
    go_loopg [3, 19] x.rs.length (fun gk v3 v19 wr => ∃ (k : Nat) (L : List Int) (A : Option Addr) (c' : Nat), k + gk = x.rs.length ∧ v19 = .int .i64 (k : Int) ∧ L = x.x :: (x.rs.length : Int) :: flatR (x.rs.take k) ∧ v3 = .slice A L.length c' ∧ L.length = 2 + 2 * k ∧ wr.ownsRow w.heap.size 3 1 (.slice A L.length c') L.length (L.map (Value.int .i64)) ∧ Upd Nob w wr)
    case atStart => exact ⟨0, [x.x, (x.rs.length : Int)], some ⟨g0, 0, none⟩, 2, by omega, rfl, by simp [flatR], rfl, rfl, HO.out, HU.out.trans HA.out (fun _ _ h => h)⟩
    case round =>
      obtain ⟨k, L, A, c', hk, rfl, hL, rfl, hLl, ho, hUr⟩ := hrel
      have HLl := hideP hLl
      clear hLl
      by_cases hlt : k < x.rs.length
      · have g1 : (k : Int) < (x.rs.length : Int) := by omega
        obtain ⟨ad, y, g, o, rfl, hy, -, -, hadd, r0, r1, -⟩ := (HR.out.upd hUr (fun _ _ => not_nob)).at1 hlt
        obtain ⟨lo, hi⟩ := y
        simp only at r0 r1
        have hst := flatR_step hy
        have HST := hideP (show L ++ [lo, hi] = x.x :: (x.rs.length : Int) :: flatR (x.rs.take (k + 1)) by rw [hL, hst]; simp)
        have hA := ((Upd.refl Nob wr).alloc (.cells #[.int .i64 lo, .int .i64 hi] 50)).alloc (.cells #[.int .i64 lo, .int .i64 hi] 3)
        have HOo := hideP ((ho.alloc (.cells #[.int .i64 lo, .int .i64 hi] 50)).alloc (.cells #[.int .i64 lo, .int .i64 hi] 3))
        have HUu := hideP (hUr.trans hA (fun _ _ h => h))
        have hsz2 := hUr.size
        have hln := HLl.out
        have hlb : L.length ≤ 20000 := by omega
        have HK := hideP hk
        clear hL hst hy ho hUr hA hk hln
        go_wp2_with (at_builtin; refine wpList_append_own_at _ rfl _ _ 71 rfl w.heap.size 3 i0 (.int .i64 0) 1 8 Tryd.underlying71 hi0 hz0 hz1 hz2 rfl (by decide) _ _ _ rfl HOo.out ⟨wr.heap.size + 1, 0, none⟩ 2 2 [(.int .i64 lo), (.int .i64 hi)] rfl rfl ?d1 ?d2 ?d3 ?d4 ?d5 ?_)
        case d1 => exact World.news_of_block (cs := #[(.int .i64 lo), (.int .i64 hi)]) (t := 3) (fr := (0, 0)) (by rw [show wr.heap.size + 1 = (wr.alloc (.cells #[.int .i64 lo, .int .i64 hi] 50)).heap.size from (by simp)]; exact heap_alloc_new _ _)
        case d2 => intro u hu; simp at hu; rcases hu with rfl | rfl <;> rfl
        case d3 => unfold maxLen; simp; omega
        case d4 => omega
        case d5 => simp; omega
        intro v8 w8 o8 g8 _ hat
        obtain ⟨A8, c8, rfl⟩ := own_shape o8
        have hU8 : Upd Nob w w8 := HUu.out.trans ((Upd.refl (fun b => (Value.slice A L.length c').ownBlock = some b) _).grown g8 (fun b hb _ => hb)) (fun b hb h => by have := own_lo HOo.out h; omega)
        have h9 : L.length + 2 = (L ++ [lo, hi]).length := by simp
        have HO8 := hideP (show w8.ownsRow w.heap.size 3 1 (.slice A8 (L ++ [lo, hi]).length c8) (L ++ [lo, hi]).length ((L ++ [lo, hi]).map (Value.int .i64)) from by rw [← h9]; simpa using o8)
        rw [h9]
        have HU8 := hideP hU8
        clear o8 g8 hat hU8 h9
        go_wp2_with fail
        have hk := HK.out
        go_roundg (x.rs.length - (k + 1))
        case measure => omega
        case rel => exact ⟨k + 1, L ++ [lo, hi], A8, c8, by omega, by go_num, HST.out, rfl, by have := HLl.out; simp; omega, HO8.out, HU8.out⟩
      · have g1 : ¬ (k : Int) < (x.rs.length : Int) := by omega
        obtain rfl : k = x.rs.length := by omega
        rw [List.take_length] at hL
        have HL := hideP hL
        have HOz := hideP ho
        have HUz := hideP hUr
        clear hL ho hUr hk
        go_wp2_with fail
        try go_ret
        exact HP.out L _ _ _ (HQ.out.trans HL.out.symm) HOz.out HUz.out
  have k1 := HE.out _ _ h1
  have k2 := HE.out _ _ h2
  have k3 := HE.out _ _ h3
  have k4 := HE.out _ _ h4
  have k5 := HE.out _ _ h5
  have k7 := HE.out _ _ h7
  have HQ := hideP (show numsOf x = [] by unfold numsOf; rw [if_neg h1, if_neg h2, if_neg (by omega), if_neg h5, if_neg h7])
  clear h1 h2 h3 h4 h5 h7
  go_wp2_with fail
  try go_ret
  exact HP.out [] none 0 _ HQ.out (World.ownsRow_nil _ _ _ _) HU.out
end Go.Proofs.YtdbdokjlcdogiaaDoor
