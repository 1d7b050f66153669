/-
  Fields, RefPrint, Bytes, put together.
-/
import Derived.Test.YtdbdokjlcdogiaaDoorZ05Held
import Derived.Deep.RegionHeld3
import Derived.Deep.AppendLies
import Derived.Test.YtdbdokjlcdogiaaDoorZ11TextW
import Derived.Test.YtdbdokjlcdogiaaDoorZ22Load7
import Derived.Test.YtdbdokjlcdogiaaDoorZ07BytesP
import Derived.Deep.RegionHeld
import Derived.Lib.SlBytesConst

/-
  The walk of heronref10.fields: an instruction's numbers.
-/
namespace Go.Proofs.YtdbdokjlcdogiaaDoor
open Go.RowKit
set_option linter.unusedVariables false

set_option maxRecDepth 100000 in
set_option maxHeartbeats 4000000 in
theorem fields_any (w : World) (S : Nat → Prop) (B : Option Addr) (c : Nat) (x : PInst) (h : RangesR w S B x.rs.length x.rs) (hf : x.rs.length ≤ 5000) :
    Calls Tryd.prog 50 #[.agg #[.int .i64 x.op, .int .i64 x.x, .int .i64 x.y, .int .i64 x.arg, .slice B x.rs.length c]] w (NumsAns w (numsOf x)) := by
  have C0 := Cells.new w 48 #[.int .i64 x.op, .int .i64 x.x, .int .i64 x.y, .int .i64 x.arg, .slice B x.rs.length c]
  have hU := (Upd.refl Nob w).alloc (.cells #[.int .i64 x.op, .int .i64 x.x, .int .i64 x.y, .int .i64 x.arg, .slice B x.rs.length c] 48)
  have HR := hideP h
  clear h
  generalize hP : NumsAns w (numsOf x) = P
  have HP := hideP (show ∀ l A c w', numsOf x = l → w'.ownsRow w.heap.size 3 1 (.slice A l.length c) l.length (l.map (Value.int .i64)) → Upd Nob w w' → P (.returned (.slice A l.length c)) w' from fun l A c w' h1 h2 h3 => by rw [← hP, h1]; exact ⟨A, c, rfl, h2, h3⟩)
  clear hP
  obtain ⟨i0, hi0, hz0, hz1, hz2⟩ := info_parts nuinfo_int
  go_enter Tryd.func50, Tryd.ntmps50
  go_upto_region 1 with fail
  generalize w.alloc (.cells #[.int .i64 x.op, .int .i64 x.x, .int .i64 x.y, .int .i64 x.arg, .slice B x.rs.length c] 48) = w2 at *
  have HU := hideP hU
  have hsz := hU.size
  have HC := hideP C0
  have e0 : w2.cell? ⟨w.heap.size, 0, none⟩ = some (.int .i64 x.op) := C0.cellv rfl
  have e1 : w2.cell? ⟨w.heap.size, 1, none⟩ = some (.int .i64 x.x) := C0.cellv rfl
  have e2 : w2.cell? ⟨w.heap.size, 2, none⟩ = some (.int .i64 x.y) := C0.cellv rfl
  have e3 : w2.cell? ⟨w.heap.size, 3, none⟩ = some (.int .i64 x.arg) := C0.cellv rfl
  have e4 : w2.cell? ⟨w.heap.size, 4, none⟩ = some (.slice B x.rs.length c) := C0.cellv rfl
  clear C0 hU
  have HE := hideP (show ∀ a b : Int, ¬ a = b → (a == b) = false from fun a b h => by simpa using h)
  by_cases h2 : x.op = 2
  · have k1 : (x.op == 1) = false := by rw [h2]; rfl
    have k2 : (x.op == 2) = true := by rw [h2]; rfl
    have HQ := hideP (show numsOf x = [x.x, x.y] by unfold numsOf; rw [if_neg (by omega), if_pos h2])
    clear h2
    go_wp2_with fail
    try go_ret
    have ho := own_base (base' := w.heap.size) (own_lit (w := w2) #[.int .i64 x.x, .int .i64 x.y] 3 (by unfold maxLen; simp)) (fun g hg => by simp [Value.ownBlock] at hg; omega)
    exact HP.out [x.x, x.y] _ _ _ HQ.out ho (HU.out.alloc _)
  by_cases h3 : x.op = 3
  · skip
    have k1 : (x.op == 1) = false := by rw [h3]; rfl
    have k2 : (x.op == 2) = false := by rw [h3]; rfl
    have k3 : (x.op == 3) = true := by rw [h3]; rfl
    have HQ := hideP (show numsOf x = [x.arg, x.x] by unfold numsOf; rw [if_neg (by omega), if_neg (by omega), if_pos (by omega)])
    clear h3
    go_wp2_with fail
    try go_ret
    have ho := own_base (base' := w.heap.size) (own_lit (w := w2) #[.int .i64 x.arg, .int .i64 x.x] 3 (by unfold maxLen; simp)) (fun g hg => by simp [Value.ownBlock] at hg; omega)
    exact HP.out [x.arg, x.x] _ _ _ HQ.out ho (HU.out.alloc _)
  by_cases h4 : x.op = 4
  · skip
    have k1 : (x.op == 1) = false := by rw [h4]; rfl
    have k2 : (x.op == 2) = false := by rw [h4]; rfl
    have k3 : (x.op == 3) = false := by rw [h4]; rfl
    have k4 : (x.op == 4) = true := by rw [h4]; rfl
    have HQ := hideP (show numsOf x = [x.arg, x.x] by unfold numsOf; rw [if_neg (by omega), if_neg (by omega), if_pos (by omega)])
    clear h4
    go_wp2_with fail
    try go_ret
    have ho := own_base (base' := w.heap.size) (own_lit (w := w2) #[.int .i64 x.arg, .int .i64 x.x] 3 (by unfold maxLen; simp)) (fun g hg => by simp [Value.ownBlock] at hg; omega)
    exact HP.out [x.arg, x.x] _ _ _ HQ.out ho (HU.out.alloc _)
  by_cases h5 : x.op = 5
  · skip
    have k1 : (x.op == 1) = false := by rw [h5]; rfl
    have k2 : (x.op == 2) = false := by rw [h5]; rfl
    have k3 : (x.op == 3) = false := by rw [h5]; rfl
    have k4 : (x.op == 4) = false := by rw [h5]; rfl
    have k5 : (x.op == 5) = true := by rw [h5]; rfl
    have HQ := hideP (show numsOf x = [x.arg] by unfold numsOf; rw [if_neg (by omega), if_neg (by omega), if_neg (by omega), if_pos h5])
    clear h5
    go_wp2_with fail
    try go_ret
    have ho := own_base (base' := w.heap.size) (own_lit (w := w2) #[.int .i64 x.arg] 3 (by unfold maxLen; simp)) (fun g hg => by simp [Value.ownBlock] at hg; omega)
    exact HP.out [x.arg] _ _ _ HQ.out ho (HU.out.alloc _)
  by_cases h7 : x.op = 7
  · skip
    have k1 : (x.op == 1) = false := by rw [h7]; rfl
    have k2 : (x.op == 2) = false := by rw [h7]; rfl
    have k3 : (x.op == 3) = false := by rw [h7]; rfl
    have k4 : (x.op == 4) = false := by rw [h7]; rfl
    have k5 : (x.op == 5) = false := by rw [h7]; rfl
    have k6 : (x.op == 6) = false := by rw [h7]; rfl
    have k7 : (x.op == 7) = true := by rw [h7]; rfl
    have HQ := hideP (show numsOf x = [x.x] by unfold numsOf; rw [if_neg (by omega), if_neg (by omega), if_neg (by omega), if_neg (by omega), if_pos h7])
    clear h7
    go_wp2_with fail
    try go_ret
    have ho := own_base (base' := w.heap.size) (own_lit (w := w2) #[.int .i64 x.x] 3 (by unfold maxLen; simp)) (fun g hg => by simp [Value.ownBlock] at hg; omega)
    exact HP.out [x.x] _ _ _ HQ.out ho (HU.out.alloc _)
  by_cases h1 : x.op = 1
  · have k1 : (x.op == 1) = true := by rw [h1]; rfl
    have HQ := hideP (show numsOf x = x.x :: (x.rs.length : Int) :: flatR x.rs by unfold numsOf; rw [if_pos h1])
    clear h1 h2 h3 h4 h5 h7
    have hA := (Upd.refl Nob w2).alloc (.cells #[.int .i64 x.x, .int .i64 (x.rs.length : Int)] 3)
    have f4 : (w2.alloc (.cells #[.int .i64 x.x, .int .i64 (x.rs.length : Int)] 3)).cell? ⟨w.heap.size, 4, none⟩ = some (.slice B x.rs.length c) := (HC.out.upd hA not_nob).cellv rfl
    have HA := hideP hA
    have HO := hideP (own_lit (w := w2) #[.int .i64 x.x, .int .i64 (x.rs.length : Int)] 3 (by unfold maxLen; simp))
    clear hA
    go_wp2_with fail
    clear f4 k1 e0 e1 e2 e3 e4
    generalize w2.alloc (.cells #[.int .i64 x.x, .int .i64 (x.rs.length : Int)] 3) = w3 at *
    have hs3 := HA.out.size
    obtain ⟨g0, hg0⟩ : ∃ g0, w2.heap.size = g0 := ⟨_, rfl⟩
    rw [hg0] at HO hs3 hsz
    simp only [hg0]
    go_loopg [3, 4] x.rs.length (fun gk v3 v4 wr => ∃ (k : Nat) (L : List Int) (A : Option Addr) (c' : Nat), k + gk = x.rs.length ∧ v4 = .int .i64 (k : Int) ∧ L = x.x :: (x.rs.length : Int) :: flatR (x.rs.take k) ∧ v3 = .slice A L.length c' ∧ L.length = 2 + 2 * k ∧ wr.ownsRow g0 3 1 (.slice A L.length c') L.length (L.map (Value.int .i64)) ∧ Upd Nob w2 wr)
    case atStart => exact ⟨0, [x.x, (x.rs.length : Int)], some ⟨g0, 0, none⟩, 2, by omega, rfl, by simp [flatR], rfl, rfl, HO.out, HA.out⟩
    case round =>
      obtain ⟨k, L, A, c', hk, rfl, hL, rfl, hLl, ho, hUr⟩ := hrel
      have HLl := hideP hLl
      have f4 : wr.cell? ⟨w.heap.size, 4, none⟩ = some (.slice B x.rs.length c) := (HC.out.upd hUr not_nob).cellv rfl
      clear hLl
      by_cases hlt : k < x.rs.length
      · have g1 : (k : Int) < (x.rs.length : Int) := by omega
        obtain ⟨ad, y, g, o, rfl, hy, -, -, hadd, r0, r1, -⟩ := (HR.out.upd HU.out (fun _ _ => not_nob)).at1 hlt
        have f5 : w2.cell? ⟨w.heap.size, 4, none⟩ = some (.slice (some ad) x.rs.length c) := HC.out.cellv rfl
        obtain ⟨lo, hi⟩ := y
        simp only at r0 r1
        have hst := flatR_step hy
        have HST := hideP (show L ++ [lo, hi] = x.x :: (x.rs.length : Int) :: flatR (x.rs.take (k + 1)) by rw [hL, hst]; simp)
        have hU0 := hUr.drew
        have HU0 := hideP hU0
        have HU1 := hideP (hU0.alloc (.cells #[.int .i64 lo, .int .i64 hi] 3))
        have HOo := hideP ((own_upd ho ((Upd.refl Nob wr).drew) (fun _ _ => not_nob)).alloc (.cells #[.int .i64 lo, .int .i64 hi] 3))
        have hsz2 := hUr.size
        have hln := HLl.out
        have hlb : L.length ≤ 20000 := by omega
        have HK := hideP hk
        have HSL := hideP (show ∀ w', Upd Nob w2 w' → (w'.cell? ⟨w.heap.size, 0 + 4, none⟩ = some (.slice (some ad) x.rs.length c) ∧ w'.cell? ⟨g, o, none⟩ = some (.int .i64 lo) ∧ w'.cell? ⟨g, o + 1, none⟩ = some (.int .i64 hi)) from fun w' hv => ⟨(hv.cell (World.block_lt_of_cell? _ _ f5) not_nob).trans f5, (hv.cell (World.block_lt_of_cell? _ _ r0) not_nob).trans r0, (hv.cell (World.block_lt_of_cell? _ _ r1) not_nob).trans r1⟩)
        clear hL hst hy ho hUr hU0 hk hln
        go_upto_region 7 with fail
        clear f4 f5 r0 r1
        go_region_held3 (fun w' => w'.cell? ⟨w.heap.size, 0 + 4, none⟩ = some (.slice (some ad) x.rs.length c) ∧ w'.cell? ⟨g, o, none⟩ = some (.int .i64 lo) ∧ w'.cell? ⟨g, o + 1, none⟩ = some (.int .i64 hi))
          (first | exact HSL.out _ HU0.out | exact HSL.out _ HU1.out | exact HSL.out _ HU9.out)
          (first
          | (refine step_append_lies _ rfl (.tmp 22) (.tmp 35) 71 rfl g0 3 i0 (.int .i64 0) 1 8 Tryd.underlying71 hi0 hz0 hz1 hz2 rfl (by decide) (.slice A L.length c') L.length (L.map (Value.int .i64)) (by rfl) HOo.out ⟨wr.heap.size, 0, none⟩ 2 2 [(.int .i64 lo), (.int .i64 hi)] (by rfl) (by rfl) (World.news_of_block (cs := #[(.int .i64 lo), (.int .i64 hi)]) (t := 3) (fr := (0, 0)) (heap_alloc_new wr.drew _)) (by intro u hu; simp at hu; rcases hu with rfl | rfl <;> rfl) (by decide) (by unfold maxLen; simp; omega) (by omega) (by simp; omega) (wr.heap.size + 1) (by simp) ?_; intro gN cN w9 oN gr hat hlt; have HON := hideP oN; have HU9 := hideP (HU1.out.grown gr (fun b hb h => by have := own_lo HOo.out hb; omega)); clear oN gr hat hlt))
        go_wp2_with fail
        have hU8 : Upd Nob w2 w9 := HU9.out
        have h9 : L.length + 2 = (L ++ [lo, hi]).length := by simp
        have HO8 := hideP (show w9.ownsRow g0 3 1 (.slice (some ⟨gN, 0, none⟩) (L ++ [lo, hi]).length cN) (L ++ [lo, hi]).length ((L ++ [lo, hi]).map (Value.int .i64)) from by rw [← h9]; simpa using HON.out)
        have hk := HK.out
        go_roundg (x.rs.length - (k + 1))
        case measure => omega
        case rel => exact ⟨k + 1, L ++ [lo, hi], some ⟨gN, 0, none⟩, cN, by omega, by go_num, HST.out, by rw [h9], by have := HLl.out; simp; omega, HO8.out, hU8⟩
      · have g1 : ¬ (k : Int) < (x.rs.length : Int) := by omega
        obtain rfl : k = x.rs.length := by omega
        rw [List.take_length] at hL
        have HL := hideP hL
        have HOz := hideP ho
        have HUz := hideP hUr
        clear hL ho hUr hk
        go_wp2_with fail
        try go_ret
        exact HP.out L _ _ _ (HQ.out.trans HL.out.symm) (own_base HOz.out (fun g hg => by have := own_lo HOz.out hg; omega)) (HU.out.trans HUz.out (fun _ _ h => h))
  have k1 := HE.out _ _ h1
  have k2 := HE.out _ _ h2
  have k3 := HE.out _ _ h3
  have k4 := HE.out _ _ h4
  have k5 := HE.out _ _ h5
  have k7 := HE.out _ _ h7
  have HQ := hideP (show numsOf x = [] by unfold numsOf; rw [if_neg h1, if_neg h2, if_neg (by omega), if_neg h5, if_neg h7])
  clear h1 h2 h3 h4 h5 h7
  go_wp2_with fail
  try go_ret
  exact HP.out [] none 0 _ HQ.out (World.ownsRow_nil _ _ _ _) HU.out
end Go.Proofs.YtdbdokjlcdogiaaDoor

/-
  The walk of heronref10.Print.
-/
namespace Go.Proofs.YtdbdokjlcdogiaaDoor
open Go.RowKit Go.Lib
set_option linter.unusedVariables false

set_option maxRecDepth 100000 in
set_option maxHeartbeats 4000000 in
theorem refPrint_any (w : World) (S : Nat → Prop) (A : Option Addr) (n c : Nat) (is : List PInst) (start caps : Int) (h : InstsR w S A n is) (hs : In64 start) (hc : In64 caps) (hn : n ≤ 140737488355328) :
    Calls Tryd.prog 23 #[.agg #[.slice A n c, .int .i64 start, .int .i64 caps]] w (TextAns w (textOf is start caps)) := by
  obtain rfl : is.length = n := h.len
  have C0 := Cells.new w 24 #[.slice A is.length c, .int .i64 start, .int .i64 caps]
  have hU := (Upd.refl Nob w).alloc (.cells #[.slice A is.length c, .int .i64 start, .int .i64 caps] 24)
  have HI := hideP h
  clear h
  generalize hP : TextAns w (textOf is start caps) = P
  have HP := hideP (show ∀ R w', textOf is start caps = R → Upd Nob w w' → P (.returned (.tuple #[.string ⟨R.1.toArray⟩, .int .i64 R.2])) w' from fun R w' h1 h3 => by rw [← hP, h1]; exact ⟨rfl, h3⟩)
  clear hP
  go_enter Tryd.func23, Tryd.ntmps23
  go_upto_region 1 with fail
  generalize w.alloc (.cells #[.slice A is.length c, .int .i64 start, .int .i64 caps] 24) = w2 at *
  have HC := hideP C0
  have HU := hideP hU
  have e0 : w2.cell? ⟨w.heap.size, 0, none⟩ = some (.slice A is.length c) := C0.cellv rfl
  have e1 : w2.cell? ⟨w.heap.size, 0 + 1, none⟩ = some (.int .i64 start) := C0.cellv rfl
  have e2 : w2.cell? ⟨w.heap.size, 0 + 2, none⟩ = some (.int .i64 caps) := C0.cellv rfl
  have HI2 := hideP (HI.out.upd hU (fun _ _ => not_nob))
  clear C0 hU HI
  cases hv : checkB is start caps
  · have HB := hideP (show textOf is start caps = ([], 90) by unfold textOf; rw [hv]; rfl)
    have HE := hideP (show errOf (checkB is start caps) = 90 by rw [hv]; rfl)
    clear hv
    go_wp2_with (go_at_call 28; refine (ref_check _ S A is.length c is start caps HI2.out hs hc hn).mono ?_; rintro e w3 ⟨he, hU3⟩; rw [HE.out] at he; subst he)
    try go_ret
    exact HP.out ([], 90) _ HB.out (HU.out.trans hU3 (fun _ _ h => h))
  have F := fineP hv
  obtain ⟨l0, l1, s0, s1, k0, k1, hfi⟩ := F
  have HF := hideP hfi
  obtain ⟨cN, rfl⟩ := Int.eq_ofNat_of_zero_le (show 0 ≤ caps by omega)
  obtain ⟨sN, rfl⟩ := Int.eq_ofNat_of_zero_le s0
  have HB := hideP (show textOf is sN cN = match linesT is (headT sN cN) with | some b => (b, 0) | none => ([], 3) by unfold textOf; rw [hv]; rfl)
  have HE := hideP (show errOf (checkB is sN cN) = 0 by rw [hv]; rfl)
  clear hv hfi
  go_upto_region 5 with (go_at_call 28; refine (ref_check _ S A is.length c is sN cN HI2.out hs hc hn).mono ?_; rintro e w3 ⟨he, hU3⟩; rw [HE.out] at he; subst he)
  have hsz2 := HU.out.size
  have hle3 := hU3.size
  have HU3 := hideP hU3
  have HSL := hideP (show ∀ w', Upd Nob w2 w' → (w'.cell? ⟨w.heap.size, 0 + 2, none⟩ = some (.int .i64 (cN : Int)) ∧ w'.cell? ⟨w.heap.size, 0 + 1, none⟩ = some (.int .i64 (sN : Int)) ∧ w'.cell? ⟨w.heap.size, 0, none⟩ = some (.slice A is.length c)) from fun w' hv => ⟨(HC.out.upd hv not_nob).cellv rfl, (HC.out.upd hv not_nob).cellv rfl, (HC.out.upd hv not_nob).cellv rfl⟩)
  clear e0 e1 e2 hU3
  go_wp2_with (at_builtin; refine text_append rfl _ _ rfl w2.heap.size none 0 [] [99, 97, 112, 115, 32] rfl (TextR.nil_ _ _) _ rfl rfl (by decide) hle3 ?_)
  intro A4 c4 w4 T4 H4 o4 u4
  have HO4 := hideP o4
  have HU4 := hideP ((TextR.nil_ w3 w2.heap.size).step HU3.out u4)
  have hl4 : T4.length ≤ 5 := by rw [← H4.out]; decide
  clear o4 u4
  obtain ⟨a1, a2, a0⟩ := HSL.out _ HU4.out
  have pl1 := dec_len (n := cN) (by omega)
  have pl2 := dec_len (n := sN) (by omega)
  go_upto_region 7 with (go_at_call 48; refine (decimal_text _ w2.heap.size _ _ T4 cN HO4.out HU4.out.size (by omega) (by omega)).mono ?_; rintro e w5 ⟨A5, c5, T5, H5, rfl, o5, u5⟩)
  have HO5 := hideP o5
  have HU5 := hideP (HO4.out.step HU4.out u5)
  have hl5 := cat_len H5
  have hs5 := HU5.out.size
  clear o5 u5 a1 a2 a0
  go_wp2_with (at_builtin; refine text_append rfl _ _ rfl w2.heap.size _ _ T5 [32, 115, 116, 97, 114, 116, 32] rfl HO5.out _ rfl rfl ?d1 hs5 ?_)
  case d1 => simp; omega
  intro A6 c6 w6 T6 H6 o6 u6
  have HO6 := hideP o6
  have HU6 := hideP (HO5.out.step HU5.out u6)
  have hl6 := cat_len H6
  have hs6 := HU6.out.size
  simp only [List.length_cons, List.length_nil] at hl6
  clear o6 u6
  obtain ⟨a1, a2, a0⟩ := HSL.out _ HU6.out
  go_upto_region 9 with (go_at_call 48; refine (decimal_text _ w2.heap.size _ _ T6 sN HO6.out HU6.out.size (by omega) (by omega)).mono ?_; rintro e w7 ⟨A7, c7, T7, H7, rfl, o7, u7⟩)
  have HO7 := hideP o7
  have HU7 := hideP (HO6.out.step HU6.out u7)
  have hl7 := cat_len H7
  have hs7 := HU7.out.size
  clear o7 u7 a1 a2 a0
  go_wp2_with (at_builtin; refine text_byte rfl _ _ rfl w2.heap.size _ _ T7 rfl w7 10 rfl HO7.out 10 rfl rfl (by omega) hs7 ?_)
  intro A8 c8 w8 T8 H8 o8 u8
  have HO8 := hideP o8
  have HU8 := hideP (HO7.out.step HU7.out u8)
  have hl8 := cat_len H8
  have hs8 := HU8.out.size
  have hT0 : headT sN cN = T8 := by
    rw [← H8.out, ← H7.out, ← H6.out, ← H5.out, ← H4.out]
    simp [headT]
  simp only [List.length_cons, List.length_nil] at hl8
  have HNE := hideP (show T8 ≠ [] from cat_ne H8 (cat_ne H7 (cat_ne H6 (cat_ne H5 (by rw [← H4.out]; simp)))))
  rw [hT0] at HB
  clear o8 u8 hT0 HO4 HO5 HO6 HO7 HU4 HU5 HU6 HU7 HSL
  go_wp2_with fail
  go_loopg [5, 6] is.length (fun gk v5 v6 wr => ∃ (k : Nat) (T : List UInt8) (A' : Option Addr) (c' : Nat), k + gk = is.length ∧ v6 = .int .i64 (k : Int) ∧ v5 = .slice A' T.length c' ∧ TextR wr w2.heap.size A' c' T ∧ linesT (is.drop k) T = linesT is T8 ∧ T.length ≤ 8388608 ∧ T ≠ [] ∧ Upd Nob w2 wr)
  case atStart => exact ⟨0, T8, A8, c8, by omega, rfl, rfl, HO8.out, rfl, by omega, HNE.out, HU8.out⟩
  case round =>
    obtain ⟨k, T, A', c', hk, rfl, rfl, ho, hq, hbs, hne, hU⟩ := hrel
    have HOo := hideP ho
    have HQ := hideP hq
    have HUu := hideP hU
    have HNe := hideP hne
    have hszr := hU.size
    clear ho hq hne
    by_cases hlt : k < is.length
    · have gk1 : (k : Int) < (is.length : Int) := by omega
      obtain ⟨ad, g, o, x, B, m, c2, rfl, hx, hadd, -, hg, hR, hI, d0, d1, d3, d4, d5⟩ := HI2.out.at1 hlt
      have hin : ∀ w', Upd Nob w2 w' → (w'.cell? ⟨w.heap.size, 0, none⟩ = some (.slice (some ad) is.length c) ∧ w'.cell? ⟨g, o, none⟩ = some (.int .i64 x.op) ∧ w'.cell? ⟨g, o + 1, none⟩ = some (.int .i64 x.x) ∧ w'.cell? ⟨g, o + 2, none⟩ = some (.int .i64 x.y) ∧ w'.cell? ⟨g, o + 3, none⟩ = some (.int .i64 x.arg) ∧ w'.cell? ⟨g, o + 4, none⟩ = some (.slice B m c2)) := fun w' hv => ⟨(HC.out.upd hv not_nob).cellv rfl, (hv.cell (World.block_lt_of_cell? _ _ d0) not_nob).trans d0, (hv.cell (World.block_lt_of_cell? _ _ d1) not_nob).trans d1, (hv.cell (World.block_lt_of_cell? _ _ d3) not_nob).trans d3, (hv.cell (World.block_lt_of_cell? _ _ d4) not_nob).trans d4, (hv.cell (World.block_lt_of_cell? _ _ d5) not_nob).trans d5⟩
      obtain ⟨cb, c0, c1, c3, c4, c5⟩ := hin wr hU
      have HIN := hideP hin
      obtain rfl : x.rs.length = m := hR.len
      have hfx := HF.out x (List.mem_of_getElem? hx)
      have HST := hideP (linesT_drop T hx)
      have HR := hideP hR
      have hop0 := hfx.op0
      have hop1 := hfx.op1
      have hrs := hfx.rs
      have HNL := hideP (numsOf_len hrs)
      have HNI := hideP hfx.nums
      clear hx hR hI hfx hU d0 d1 d3 d4 d5 hin hg c0 c1 c3 c4 c5
      go_wp2_with (at_builtin; refine text_append rfl _ _ rfl w2.heap.size _ _ T [32, 32] rfl HOo.out _ rfl rfl ?d1 hszr ?_)
      case d1 => simp; omega
      intro A3 c3 w3' T3 H3 o3 u3
      have HO3 := hideP o3
      have HU3' := hideP (HOo.out.step HUu.out u3)
      have hl3 := cat_len H3
      have hs3 := HU3'.out.size
      simp only [List.length_cons, List.length_nil] at hl3
      clear o3 u3 cb
      obtain ⟨cb, c0, c1, c3', c4, c5⟩ := HIN.out w3' HU3'.out
      clear c1 c3' c4 c5
      go_upto_region 15 with (go_at_call 49; refine (word_any _ x.op hop0 hop1).mono ?_; rintro e w4' ⟨rfl, rfl⟩)
      have hwl := wordT_len x.op
      go_wp2_with (at_builtin; refine text_append rfl _ _ rfl w2.heap.size _ _ T3 (wordT x.op) rfl HO3.out _ rfl (wordS_list _) ?e1 hs3 ?_)
      case e1 => omega
      intro A9 c9 w9 T9 H9 o9 u9
      have HO9 := hideP o9
      have HU9 := hideP (HO3.out.step HU3'.out u9)
      have hl9 := cat_len H9
      have hs9 := HU9.out.size
      clear o9 u9 cb c0
      obtain ⟨cb, c0, c1, c3', c4, c5⟩ := HIN.out w9 HU9.out
      have HR9 := hideP (HR.out.upd HU9.out (fun _ _ => not_nob))
      go_wp2_with (go_at_call 50; refine (fields_any w9 S B c2 x HR9.out hrs).mono ?_; rintro e w10 ⟨NA, nc, rfl, o10, u10⟩; have HO10 := hideP o10; have HU10 := hideP (HU9.out.trans u10 (fun _ _ h => h)); have HT10 := hideP (HO9.out.upd u10 (fun _ _ => not_nob)); clear o10 u10)
      clear cb c0 c1 c3' c4 c5
      have HK := hideP hk
      obtain ⟨nN, hnN⟩ : ∃ nN, (numsOf x).length = nN := ⟨_, rfl⟩
      rw [hnN] at HNL
      have hnl := HNL.out
      rw [hnN] at HO10
      rw [hnN]
      have HNN := hideP hnN
      clear hk hnN
      go_loopg [5, 9] nN (fun gj v5 v9 wq => ∃ (j : Nat) (T2 : List UInt8) (A2 : Option Addr) (c3 : Nat), j + gj = nN ∧ v9 = .int .i64 (j : Int) ∧ v5 = .slice A2 T2.length c3 ∧ TextR wq w2.heap.size A2 c3 T2 ∧ T2 ++ ((numsOf x).drop j).flatMap numT = T9 ++ (numsOf x).flatMap numT ∧ T2.length ≤ 8388616 + 8 * j ∧ T2 ≠ [] ∧ wq.ownsRow w9.heap.size 3 1 (.slice NA nN nc) nN ((numsOf x).map (Value.int .i64)) ∧ Upd Nob w2 wq)
      case atStart => exact ⟨0, T9, A9, c9, by omega, rfl, rfl, HT10.out, rfl, by omega, cat_ne H9 (cat_ne H3 HNe.out), HO10.out, HU10.out⟩
      case round =>
        obtain ⟨j, T2, A2, c3, hj, rfl, rfl, ho2, hq2, hb2l, hne2, ho3, hU2⟩ := hrel
        have HO2 := hideP ho2
        have HQ2 := hideP hq2
        have HN3 := hideP ho3
        have HU2 := hideP hU2
        have HNe2 := hideP hne2
        have hsz2' := hU2.size
        clear ho2 hq2 hU2 hne2
        by_cases hjl : j < nN
        · have g2 : (j : Int) < (nN : Int) := by omega
          obtain ⟨ad2, u, rfl, -, -, hu, hcell⟩ := (Reads.of_own ho3).at1 hjl
          simp only [List.getElem?_map, Option.map_eq_some_iff] at hu
          obtain ⟨n0, hn0, rfl⟩ := hu
          obtain ⟨z0, z1⟩ := HNI.out n0 (List.mem_of_getElem? hn0)
          have HFD := hideP (flat_drop numT hn0)
          have hn1 : ((numsOf x).map (Value.int .i64))[j]? = some (.int .i64 n0) := by rw [List.getElem?_map, hn0]; rfl
          have HN1 := hideP hn1
          clear hn1
          obtain ⟨n1, rfl⟩ := Int.eq_ofNat_of_zero_le z0
          have HJ := hideP hj
          clear hn0 ho3 hj
          go_wp2_with (at_builtin; refine text_byte rfl _ _ rfl w2.heap.size _ _ T2 rfl wr 32 rfl HO2.out 32 rfl rfl ?f1 hsz2' ?_)
          case f1 => omega
          intro A11 c11 w11 T11 H11 o11 u11
          have HO11 := hideP o11
          have HU11 := hideP (HO2.out.step HU2.out u11)
          have HN11 := hideP (own_upd HN3.out u11 (fun b hb h => by
              obtain ⟨cur, hcur, -⟩ := own_cells HN3.out hb
              exact OwnT.ne HO2.out hcur (by decide) h))
          have hl11 := cat_len H11
          have hs11 := HU11.out.size
          simp only [List.length_cons, List.length_nil] at hl11
          clear o11 u11 hcell
          have hcell : w11.cell? (ad2.add j) = some (.int .i64 (n1 : Int)) := by
            obtain ⟨ad3, u, he, -, -, hu, hcell⟩ := (Reads.of_own HN11.out).at1 hjl
            injection he with he
            subst he
            rw [HN1.out] at hu
            injection hu with hu
            rw [hu]
            exact hcell
          have hp4 := dec_len (n := n1) (by omega)
          go_wp2_with (go_at_call 48; refine (decimal_text _ w2.heap.size _ _ T11 n1 HO11.out hs11 (by omega) (by omega)).mono ?_; rintro e w12 ⟨A12, c12, T12, H12, rfl, o12, u12⟩; have HO12 := hideP o12; have HU12 := hideP u12; have hl12 := cat_len H12; clear o12 u12)
          have hj := HJ.out
          go_roundg (nN - (j + 1))
          case measure => omega
          case rel => exact ⟨j + 1, T12, A12, c12, by omega, by go_num, rfl, HO12.out, by
            have h := HQ2.out
            rw [HFD.out] at h
            rw [← H12.out, ← H11.out, ← h]
            simp [numT], by omega, cat_ne H12 (cat_ne H11 HNe2.out), own_upd HN11.out HU12.out (fun b hb h => by
              obtain ⟨cur, hcur, -⟩ := own_cells HN11.out hb
              exact OwnT.ne HO11.out hcur (by decide) h), HO11.out.step HU11.out HU12.out⟩
        · have g2 : ¬ (j : Int) < (nN : Int) := by omega
          obtain rfl : j = nN := by omega
          have hb3 : T2 = T9 ++ (numsOf x).flatMap numT := by
            have h := HQ2.out
            rw [List.drop_of_length_le (by rw [HNN.out]; exact Nat.le_refl _)] at h
            simpa using h
          have HB3 := hideP hb3
          clear hb3 hj ho3
          go_upto_region 22 with fail
          go_wp2_with (at_builtin; refine text_byte rfl _ _ rfl w2.heap.size _ _ T2 rfl wr 10 rfl HO2.out 10 rfl rfl ?g1 hsz2' ?_)
          case g1 => omega
          intro A13 c13 w13 T13 H13 o13 u13
          have HO13 := hideP o13
          have HU13 := hideP (HO2.out.step HU2.out u13)
          have hl13 := cat_len H13
          have hs13 := HU13.out.size
          have HLN := hideP (show T13 = T ++ lineT x by
            rw [← H13.out, HB3.out, ← H9.out, ← H3.out]
            simp [lineT])
          have HNE13 := hideP (cat_ne H13 HNe2.out)
          simp only [List.length_cons, List.length_nil] at hl13
          clear o13 u13
          by_cases hbig : 8388608 < T13.length
          · have hbig' : (8388608 : Int) < (T13.length : Int) := by omega
            have HNO := hideP (show linesT is T8 = none by rw [← HQ.out, HST.out, ← HLN.out, if_pos hbig])
            go_wp2_with fail
            try go_ret
            exact HP.out ([], 3) _ (by rw [HB.out, HNO.out]) (HU.out.trans HU13.out (fun _ _ h => h))
          · have hbig' : ¬ (8388608 : Int) < (T13.length : Int) := by omega
            have HYES := hideP (show linesT (is.drop (k + 1)) T13 = linesT is T8 by rw [← HQ.out, HST.out, ← HLN.out, if_neg hbig])
            go_wp2_with fail
            have hk := HK.out
            go_roundg (is.length - (k + 1))
            case measure => omega
            case rel => exact ⟨k + 1, T13, A13, c13, by omega, by go_num, rfl, HO13.out, HYES.out, by omega, HNE13.out, HU13.out⟩
    · have g1 : ¬ (k : Int) < (is.length : Int) := by omega
      have cb : wr.cell? ⟨w.heap.size, 0, none⟩ = some (.slice A is.length c) := (HC.out.upd hU not_nob).cellv rfl
      obtain rfl : k = is.length := by omega
      have HY := hideP (show linesT is T8 = some T by rw [← HQ.out, List.drop_length]; rfl)
      have hcv := text_string HOo.out HNe.out
      clear hk
      go_wp2_with fail
      try go_ret
      exact HP.out (T, 0) _ (by rw [HB.out, HY.out]) (HU.out.trans HUu.out (fun _ _ h => h))
end Go.Proofs.YtdbdokjlcdogiaaDoor

/-
  The walk of code.Bytes.
-/
namespace Go.Proofs.YtdbdokjlcdogiaaDoor
open Go.RowKit
set_option linter.unusedVariables false

/-- the answer of Bytes -/
def BytesAns (w : World) (R : List Int × Int) (e : Ending) (w' : World) : Prop :=
  ∃ A c, e = .returned (.tuple #[.slice A R.1.length c, .int .i64 R.2]) ∧ OwnT w' w.heap.size 5 (.slice A R.1.length c) R.1.length (bytv R.1) ∧ Upd Nob w w'

set_option maxRecDepth 100000 in
set_option maxHeartbeats 4000000 in
theorem bytes_any (w : World) (S : Nat → Prop) (A : Option Addr) (n c : Nat) (is : List PInst) (start caps : Int) (h : InstsR w S A n is) (hs : In64 start) (hc : In64 caps) (hn : n ≤ 140737488355328) :
    Calls Tryd.prog 18 #[.agg #[.slice A n c, .int .i64 start, .int .i64 caps]] w (BytesAns w (bytesOf is start caps)) := by
  obtain rfl : is.length = n := h.len
  have C0 := Cells.new w 24 #[.slice A is.length c, .int .i64 start, .int .i64 caps]
  have hU := (Upd.refl Nob w).alloc (.cells #[.slice A is.length c, .int .i64 start, .int .i64 caps] 24)
  have HI := hideP h
  clear h
  generalize hP : BytesAns w (bytesOf is start caps) = P
  have HP := hideP (show ∀ R A c w', bytesOf is start caps = R → OwnT w' w.heap.size 5 (.slice A R.1.length c) R.1.length (bytv R.1) → Upd Nob w w' → P (.returned (.tuple #[.slice A R.1.length c, .int .i64 R.2])) w' from fun R A c w' h1 h2 h3 => by rw [← hP, h1]; exact ⟨A, c, rfl, h2, h3⟩)
  clear hP
  obtain ⟨i0, hi0, hz0, hz1, hz2⟩ := info_parts cinfo_u8
  go_enter Tryd.func18, Tryd.ntmps18
  go_upto_region 1 with fail
  generalize w.alloc (.cells #[.slice A is.length c, .int .i64 start, .int .i64 caps] 24) = w2 at *
  have HC := hideP C0
  have HU := hideP hU
  have e0 : w2.cell? ⟨w.heap.size, 0, none⟩ = some (.slice A is.length c) := C0.cellv rfl
  have e1 : w2.cell? ⟨w.heap.size, 0 + 1, none⟩ = some (.int .i64 start) := C0.cellv rfl
  have e2 : w2.cell? ⟨w.heap.size, 0 + 2, none⟩ = some (.int .i64 caps) := C0.cellv rfl
  have HI2 := hideP (HI.out.upd hU (fun _ _ => not_nob))
  clear C0 hU HI
  cases hv : checkB is start caps
  · have HB := hideP (show bytesOf is start caps = ([], 90) by unfold bytesOf; rw [hv]; rfl)
    have HE := hideP (show errOf (checkB is start caps) = 90 by rw [hv]; rfl)
    clear hv
    go_wp2_with (go_at_call 37; refine (check_any _ S A is.length c is start caps HI2.out hs hc hn).mono ?_; rintro e w3 ⟨he, hU3⟩; rw [HE.out] at he; subst he)
    try go_ret
    exact HP.out ([], 90) none 0 _ HB.out (OwnT.nil_ _ _ _) (HU.out.trans hU3 (fun _ _ h => h))
  have F := fineP hv
  obtain ⟨l0, l1, s0, s1, k0, k1, hfi⟩ := F
  have HF := hideP hfi
  obtain ⟨cN, rfl⟩ := Int.eq_ofNat_of_zero_le (show 0 ≤ caps by omega)
  obtain ⟨sN, rfl⟩ := Int.eq_ofNat_of_zero_le s0
  have HB := hideP (show bytesOf is sN cN = match instsB is (headB is.length sN cN) with | some b => (b ++ tail4 (sumV b), 0) | none => ([], 3) by unfold bytesOf; rw [hv]; rfl)
  have HE := hideP (show errOf (checkB is sN cN) = 0 by rw [hv]; rfl)
  clear hv hfi
  go_upto_region 4 with (go_at_call 37; refine (check_any _ S A is.length c is sN cN HI2.out hs hc hn).mono ?_; rintro e w3 ⟨he, hU3⟩; rw [HE.out] at he; subst he)
  have HC3 := hideP (HC.out.upd hU3 not_nob)
  have hle3 := hU3.size
  have hlt3 := HC.out.lt
  have HU3 := hideP hU3
  have HSL := hideP (show ∀ w', Upd Nob w3 w' → (w'.cell? ⟨w.heap.size, 0 + 2, none⟩ = some (.int .i64 (cN : Int)) ∧ w'.cell? ⟨w.heap.size, 0 + 1, none⟩ = some (.int .i64 (sN : Int)) ∧ w'.cell? ⟨w.heap.size, 0, none⟩ = some (.slice A is.length c)) from fun w' hv => ⟨(HC3.out.upd hv not_nob).cellv rfl, (HC3.out.upd hv not_nob).cellv rfl, (HC3.out.upd hv not_nob).cellv rfl⟩)
  have kc : (convert 30 30 (.slice (some ⟨w3.heap.size, 0, none⟩) 4 4)).run Tryd.prog (w3.alloc (.cells #[.int .u8 72, .int .u8 82, .int .u8 80, .int .u8 71] 5)).drew = .ok (.slice (some ⟨w3.heap.size, 0, none⟩) 4 4) (w3.alloc (.cells #[.int .u8 72, .int .u8 82, .int .u8 80, .int .u8 71] 5 (4, 5))).drew := Lib.run_convert_bytes_const (P := Tryd.prog) w3.drew 30 5 #[.int .u8 72, .int .u8 82, .int .u8 80, .int .u8 71] 4 4 Tryd.underlying30 Tryd.underlying5
  have HU0 := hideP ((Upd.refl Nob w3).drew)
  have HUa := hideP (((Upd.refl Nob w3).alloc (.cells #[.int .u8 72, .int .u8 82, .int .u8 80, .int .u8 71] 5)).drew)
  have HU1 := hideP (((Upd.refl Nob w3).alloc (.cells #[.int .u8 72, .int .u8 82, .int .u8 80, .int .u8 71] 5 (4, 5))).drew)
  have HO1 := hideP (show OwnT (w3.alloc (.cells #[.int .u8 72, .int .u8 82, .int .u8 80, .int .u8 71] 5 (4, 5))).drew w3.heap.size 5 (.slice (some ⟨w3.heap.size, 0, none⟩) 4 4) 4 _ from OwnT.marked w3.drew #[.int .u8 72, .int .u8 82, .int .u8 80, .int .u8 71] 5 (by unfold maxLen; simp))
  have pl1 := putN_len (n := cN) (by omega)
  have pl2 := putN_len (n := sN) (by omega)
  clear e0 e1 e2 hU3
  go_region_held (fun w' => w'.cell? ⟨w.heap.size, 0 + 2, none⟩ = some (.int .i64 (cN : Int)) ∧ w'.cell? ⟨w.heap.size, 0 + 1, none⟩ = some (.int .i64 (sN : Int)) ∧ w'.cell? ⟨w.heap.size, 0, none⟩ = some (.slice A is.length c))
    (first | exact HSL.out _ HU7.out | exact HSL.out _ HU6.out | exact HSL.out _ HU5.out | exact HSL.out _ HU1.out | exact HSL.out _ HUa.out | exact HSL.out _ HU0.out)
    (first
    | (go_at_call 38; refine (number_any _ w3.heap.size _ (4 + (putN cN).length + (putN sN).length) _ _ is.length HO6.out HU6.out.size (by omega) (by omega)).mono ?_; rintro e w7 ⟨A7, c7, rfl, o7, u7⟩; have HO7 := hideP o7; have HU7 := hideP (HU6.out.trans u7 (fun k hk h => by have := HO6.out.lo h; omega)); clear o7 u7)
    | (go_at_call 38; refine (number_any _ w3.heap.size _ (4 + (putN cN).length) _ _ sN HO5.out HU5.out.size (by omega) (by omega)).mono ?_; rintro e w6 ⟨A6, c6, rfl, o6, u6⟩; have HO6 := hideP o6; have HU6 := hideP (HU5.out.trans u6 (fun k hk h => by have := HO5.out.lo h; omega)); clear o6 u6)
    | (go_at_call 38; refine (number_any _ w3.heap.size _ 4 4 _ cN HO1.out HU1.out.size (by omega) (by omega)).mono ?_; rintro e w5 ⟨A5, c5, rfl, o5, u5⟩; have HO5 := hideP o5; have HU5 := hideP (HU1.out.trans u5 (fun k hk h => by have := HO1.out.lo h; omega)); clear o5 u5))
  have e0 : w7.cell? ⟨w.heap.size, 0, none⟩ = some (.slice A is.length c) := (HSL.out _ HU7.out).2.2
  have hbl := headB_len (n := is.length) (start := (sN : Int)) (caps := (cN : Int)) (by omega) (by omega) (by omega)
  have hhl : 4 + (putN cN).length + (putN sN).length + (putN is.length).length = (headB is.length sN cN).length := by simp [headB]; omega
  have HO := hideP (show OwnT w7 w2.heap.size 5 (.slice A7 (headB is.length sN cN).length c7) (headB is.length sN cN).length (bytv (headB is.length sN cN)) from by
    have h1 := HO7.out.base_ (base' := w2.heap.size) (fun g hg => by have := HO7.out.lo hg; omega)
    rw [hhl] at h1
    have h2 : bytv (headB is.length sN cN) = #[Value.int .u8 72, .int .u8 82, .int .u8 80, .int .u8 71].toList ++ bytv (putN cN) ++ bytv (putN sN) ++ bytv (putN is.length) := by simp [headB, bytv]
    rw [h2]
    exact h1)
  have HW := hideP (show Upd Nob w2 w7 from HU3.out.trans HU7.out (fun _ _ h => h))
  rw [hhl]
  have HHB := hideP (headB_byte is.length sN cN)
  obtain ⟨b0, hb0⟩ : ∃ b0, headB is.length sN cN = b0 := ⟨_, rfl⟩
  rw [hb0] at HO HHB HB hbl
  rw [hb0]
  have hsz2 := HU.out.size
  clear hhl hb0 HO1 HO5 HO6 HO7 HU0 HUa HU1 HU5 HU6 HU7 HSL HC HC3 kc
  go_upto_region 5 with fail
  go_wp2_with fail
  go_loopg [5, 31] is.length (fun gk v5 v31 wr => ∃ (k : Nat) (bs : List Int) (A' : Option Addr) (c' : Nat), k + gk = is.length ∧ v31 = .int .i64 (k : Int) ∧ v5 = .slice A' bs.length c' ∧ OwnT wr w2.heap.size 5 (.slice A' bs.length c') bs.length (bytv bs) ∧ instsB (is.drop k) bs = instsB is b0 ∧ bs.length ≤ 8388604 ∧ Upd Nob w2 wr)
  case atStart => exact ⟨0, b0, A7, c7, by omega, rfl, rfl, HO.out, rfl, by omega, HW.out⟩
  case round =>
    obtain ⟨k, bs, A', c', hk, rfl, rfl, ho, hq, hbs, hU⟩ := hrel
    have HOo := hideP ho
    have HQ := hideP hq
    have HUu := hideP hU
    have hszr := hU.size
    clear ho hq
    by_cases hlt : k < is.length
    · obtain ⟨ad, g, o, x, B, m, c2, rfl, hx, hadd, -, hg, hR, hI, d0, d1, d3, d4, d5⟩ := HI2.out.at1 hlt
      have c0 := (hU.cell (World.block_lt_of_cell? _ _ d0) not_nob).trans d0
      have c1 := (hU.cell (World.block_lt_of_cell? _ _ d1) not_nob).trans d1
      have c3 := (hU.cell (World.block_lt_of_cell? _ _ d3) not_nob).trans d3
      have c4 := (hU.cell (World.block_lt_of_cell? _ _ d4) not_nob).trans d4
      have c5 := (hU.cell (World.block_lt_of_cell? _ _ d5) not_nob).trans d5
      clear d0 d1 d3 d4 d5
      obtain rfl : x.rs.length = m := hR.len
      have hfx := HF.out x (List.mem_of_getElem? hx)
      have HST := hideP (instsB_drop bs hx)
      have HR := hideP hR
      have hop0 := hfx.op0
      have hop1 := hfx.op1
      have hrs := hfx.rs
      have hmod : x.op % 256 = x.op := by omega
      have HNL := hideP (numsOf_len hrs)
      have HNI := hideP hfx.nums
      clear hx hR hI hfx hU
      have C2 := Cells.new wr 48 #[.int .i64 x.op, .int .i64 x.x, .int .i64 x.y, .int .i64 x.arg, .slice B x.rs.length c2]
      have hU1 := (Upd.refl Nob wr).alloc (.cells #[.int .i64 x.op, .int .i64 x.x, .int .i64 x.y, .int .i64 x.arg, .slice B x.rs.length c2] 48)
      have HO4 := hideP (HOo.out.alloc (.cells #[.int .i64 x.op, .int .i64 x.x, .int .i64 x.y, .int .i64 x.arg, .slice B x.rs.length c2] 48))
      go_upto_region 8 with fail
      generalize wr.alloc (.cells #[.int .i64 x.op, .int .i64 x.x, .int .i64 x.y, .int .i64 x.arg, .slice B x.rs.length c2] 48) = w4 at *
      generalize hxb : wr.heap.size = xb at *
      have HXB := hideP hxb
      clear hxb
      have l0 : w4.cell? ⟨xb, 0, none⟩ = some (.int .i64 x.op) := C2.cellv rfl
      have HC2 := hideP C2
      have HU4 := hideP hU1
      clear C2 hU1 c0 c1 c3 c4 c5 hadd hg
      go_wp2_with (at_builtin; refine wpList_append_T rfl _ _ 30 rfl w2.heap.size 5 i0 (.int .u8 0) Tryd.underlying30 hi0 hz0 hz1 hz2 rfl _ _ _ rfl (HO4.out.alloc _) ⟨w4.heap.size, 0, none⟩ 1 1 [(.int .u8 x.op)] rfl rfl ?d1 ?d2 ?d3 ?d4 ?d5 ?_)
      case d1 => exact World.news_of_block (cs := #[(.int .u8 x.op)]) (t := 5) (fr := (0, 0)) (heap_alloc_new _ _)
      case d2 => intro u hu; simp at hu; subst hu; rfl
      case d3 => unfold maxLen; omega
      case d4 => omega
      case d5 => simp; have := HU4.out.size; have := HXB.out; omega
      intro A8 c8 w8 o8 g8 hat
      have hs4 := HU4.out.size
      have hxr := HXB.out
      have hU8 : Upd Nob w2 w8 := (HUu.out.trans HU4.out (fun _ _ h => h)).trans (((Upd.refl (fun b => (Value.slice A' bs.length c').ownBlock = some b) w4).alloc (.cells #[(.int .u8 x.op)] 5)).grown g8 (fun b hb _ => hb)) (fun b hb h => by have h1 := HOo.out.lo h; exact absurd h1 (by omega))
      have hC8 : Cells w8 xb 48 #[.int .i64 x.op, .int .i64 x.x, .int .i64 x.y, .int .i64 x.arg, .slice B x.rs.length c2] := (HC2.out.alloc _).grown g8 (HO4.out.ne HC2.out (by decide))
      have n0 : w8.cell? ⟨xb, 0, none⟩ = some (.int .i64 x.op) := hC8.cellv rfl
      have n1 : w8.cell? ⟨xb, 1, none⟩ = some (.int .i64 x.x) := hC8.cellv rfl
      have n2 : w8.cell? ⟨xb, 2, none⟩ = some (.int .i64 x.y) := hC8.cellv rfl
      have n3 : w8.cell? ⟨xb, 3, none⟩ = some (.int .i64 x.arg) := hC8.cellv rfl
      have n4 : w8.cell? ⟨xb, 4, none⟩ = some (.slice B x.rs.length c2) := hC8.cellv rfl
      have HR8 := hideP (HR.out.upd hU8 (fun _ _ => not_nob))
      have HU8 := hideP hU8
      have HO8 := hideP o8
      have hs8 := hU8.size
      clear hC8 hU8 o8 g8 hat l0
      go_wp2_with (go_at_call 39; refine (numbers_any w8 S B c2 x HR8.out hrs).mono ?_; rintro e w9 ⟨NA, nc, rfl, o9, u9⟩; have HO9 := hideP o9; have HU9 := hideP u9; clear o9 u9)
      clear n0 n1 n2 n3 n4
      have HK := hideP hk
      have hb1 : (bs ++ [x.op]).length = bs.length + 1 := by simp
      have HO8' := hideP (show OwnT w9 w2.heap.size 5 (.slice A8 (bs ++ [x.op]).length c8) (bs ++ [x.op]).length (bytv (bs ++ [x.op])) from by
        rw [hb1]
        have h := HO8.out.upd HU9.out (fun _ _ => not_nob)
        simpa [bytv] using h)
      rw [← hb1]
      have hb2 : (bs ++ [x.op]).length ≤ 8388605 := by omega
      have HB0 := hideP (show (bs ++ [x.op]) ++ (numsOf x).flatMap (fun n => putN n.toNat) = bs ++ instB x by simp [instB])
      generalize bs ++ [x.op] = b1 at *
      have HU9' := hideP (HU8.out.trans HU9.out (fun _ _ h => h))
      obtain ⟨nN, hnN⟩ : ∃ nN, (numsOf x).length = nN := ⟨_, rfl⟩
      rw [hnN] at HNL
      have hnl := HNL.out
      rw [hnN] at HO9
      rw [hnN]
      have HNN := hideP hnN
      clear hk hb1 hnN
      go_loopg [5, 44] nN (fun gj v5 v44 wq => ∃ (j : Nat) (b2 : List Int) (A2 : Option Addr) (c3 : Nat), j + gj = nN ∧ v44 = .int .i64 (j : Int) ∧ v5 = .slice A2 b2.length c3 ∧ OwnT wq w2.heap.size 5 (.slice A2 b2.length c3) b2.length (bytv b2) ∧ b2 ++ ((numsOf x).drop j).flatMap (fun n => putN n.toNat) = bs ++ instB x ∧ b2.length ≤ 8388605 + 4 * j ∧ wq.ownsRow w8.heap.size 3 1 (.slice NA nN nc) nN ((numsOf x).map (Value.int .i64)) ∧ Upd Nob w2 wq)
      case atStart => exact ⟨0, b1, A8, c8, by omega, rfl, rfl, HO8'.out, by simpa using HB0.out, by omega, HO9.out, HU9'.out⟩
      case round =>
        obtain ⟨j, b2, A2, c3, hj, rfl, rfl, ho2, hq2, hb2l, ho3, hU2⟩ := hrel
        have HO2 := hideP ho2
        have HQ2 := hideP hq2
        have HO3 := hideP ho3
        have HU2 := hideP hU2
        have hsz2' := hU2.size
        clear ho2 hq2 hU2
        by_cases hjl : j < nN
        · have g2 : (j : Int) < (nN : Int) := by omega
          obtain ⟨ad2, u, rfl, -, -, hu, hcell⟩ := (Reads.of_own ho3).at1 hjl
          simp only [List.getElem?_map, Option.map_eq_some_iff] at hu
          obtain ⟨n0, hn0, rfl⟩ := hu
          obtain ⟨z0, z1⟩ := HNI.out n0 (List.mem_of_getElem? hn0)
          have HFD := hideP (flat_drop (fun n => putN n.toNat) hn0)
          obtain ⟨n1, rfl⟩ := Int.eq_ofNat_of_zero_le z0
          have HJ := hideP hj
          clear hn0 ho3 hj
          go_wp2_with (go_at_call 38; refine (number_any _ w2.heap.size _ b2.length _ _ n1 HO2.out hsz2' (by omega) (by omega)).mono ?_; rintro e w10 ⟨A10, c10, rfl, o10, u10⟩; have HO10 := hideP o10; have HU10 := hideP u10; clear o10 u10)
          have hj := HJ.out
          have hp4 := putN_len (n := n1) (by omega)
          have hbl3 : b2.length + (putN n1).length = (b2 ++ putN n1).length := by simp
          go_roundg (nN - (j + 1))
          case measure => omega
          case rel => exact ⟨j + 1, b2 ++ putN n1, A10, c10, by omega, by go_num, by rw [hbl3], by
            have h := HO10.out
            rw [hbl3, ← bytv_append] at h
            exact h, by
            have h := HQ2.out
            rw [HFD.out] at h
            rw [List.append_assoc]
            simpa using h, by rw [← hbl3]; omega, own_upd HO3.out HU10.out (fun b hb h => by
              obtain ⟨cur, hcur, -⟩ := own_cells HO3.out hb
              exact HO2.out.ne hcur (by decide) h), HU2.out.trans HU10.out (fun b hb h => by have h1 := HO2.out.lo h; exact absurd h1 (by omega))⟩
        · have g2 : ¬ (j : Int) < (nN : Int) := by omega
          obtain rfl : j = nN := by omega
          have hb3 : b2 = bs ++ instB x := by
            have h := HQ2.out
            rw [List.drop_of_length_le (by rw [HNN.out]; exact Nat.le_refl _)] at h
            simpa using h
          have HB3 := hideP hb3
          clear hb3 hj ho3
          by_cases hbig : 8388604 < b2.length
          · have hbig' : (8388604 : Int) < (b2.length : Int) := by omega
            have HNO := hideP (show instsB is b0 = none by rw [← HQ.out, HST.out, ← HB3.out, if_pos hbig])
            go_wp2_with fail
            try go_ret
            exact HP.out ([], 3) none 0 _ (by rw [HB.out, HNO.out]) (OwnT.nil_ _ _ _) (HU.out.trans HU2.out (fun _ _ h => h))
          · have hbig' : ¬ (8388604 : Int) < (b2.length : Int) := by omega
            have HYES := hideP (show instsB (is.drop (k + 1)) b2 = instsB is b0 by rw [← HQ.out, HST.out, ← HB3.out, if_neg hbig])
            go_wp2_with fail
            have hk := HK.out
            go_roundg (is.length - (k + 1))
            case measure => omega
            case rel => exact ⟨k + 1, b2, A2, c3, by omega, by go_num, rfl, HO2.out, HYES.out, by omega, HU2.out⟩
    · have g1 : ¬ (k : Int) < (is.length : Int) := by omega
      obtain rfl : k = is.length := by omega
      have HY := hideP (show instsB is b0 = some bs by rw [← HQ.out, List.drop_length]; rfl)
      have HBY := hideP (instsB_byte HF.out HHB.out HY.out)
      have HRD := hideP (Reads.of_ownT HOo.out)
      obtain ⟨sv, hsv⟩ : ∃ sv, sumV bs = sv := ⟨_, rfl⟩
      have HSV := hideP hsv
      have hs0 : 0 ≤ sv := by rw [← hsv]; exact Int.natCast_nonneg _
      have hs1 : sv < 4294967296 := by
        rw [← hsv]
        have := (~~~ (crcL 0xFFFFFFFF#32 (bytesB bs))).isLt
        unfold sumV
        omega
      have hs2 : sv / 16777216 % 256 = sv / 16777216 := by omega
      have HT4 := hideP (show tail4 (sumV bs) = [sv % 256, sv / 256 % 256, sv / 65536 % 256, sv / 16777216] by rw [hsv]; unfold tail4; rw [hs2])
      clear hk hsv hs2
      go_wp2_with (first | (go_at_call 32; refine (sum_any _ _ _ bs.length _ bs HRD.out HBY.out (by omega)).mono ?_; rintro e w9 ⟨rfl, q, rfl⟩; rw [HSV.out]) | (at_builtin; refine wpList_append_T rfl _ _ 30 rfl w2.heap.size 5 i0 (.int .u8 0) Tryd.underlying30 hi0 hz0 hz1 hz2 rfl _ _ _ rfl ((HOo.out.upd ((Upd.refl Nob wr).drewN q) (fun _ _ => not_nob)).alloc _) ⟨wr.heap.size, 0, none⟩ 4 4 [.int .u8 (sv % 256), .int .u8 (sv / 256 % 256), .int .u8 (sv / 65536 % 256), .int .u8 (sv / 16777216)] rfl rfl ?f1 ?f2 ?f3 ?f4 ?f5 ?_))
      case f1 => exact World.news_of_block (cs := #[.int .u8 (sv % 256), .int .u8 (sv / 256 % 256), .int .u8 (sv / 65536 % 256), .int .u8 (sv / 16777216)]) (t := 5) (fr := (0, 0)) (heap_alloc_new (wr.drewN q) _)
      case f2 => intro u hu; simp at hu; rcases hu with rfl | rfl | rfl | rfl <;> rfl
      case f3 => unfold maxLen; omega
      case f4 => omega
      case f5 => simp; omega
      intro A8 c8 w8 o8 g8 hat
      have hU8 : Upd Nob w2 w8 := HUu.out.trans ((((Upd.refl (fun b => (Value.slice A' bs.length c').ownBlock = some b) wr).drewN q).alloc (.cells #[.int .u8 (sv % 256), .int .u8 (sv / 256 % 256), .int .u8 (sv / 65536 % 256), .int .u8 (sv / 16777216)] 5)).grown g8 (fun b hb _ => hb)) (fun b hb h => by have h1 := HOo.out.lo h; exact absurd h1 (by omega))
      have h4 : bs.length + 4 = (bs ++ tail4 (sumV bs)).length := by simp [tail4]
      have HO8 := hideP (show OwnT w8 w.heap.size 5 (.slice A8 (bs ++ tail4 (sumV bs)).length c8) (bs ++ tail4 (sumV bs)).length (bytv (bs ++ tail4 (sumV bs))) from by
        have h := o8.base_ (base' := w.heap.size) (fun g hg => by have := o8.lo hg; omega)
        rw [h4] at h
        rw [bytv_append]
        have ht : bytv (tail4 (sumV bs)) = [.int .u8 (sv % 256), .int .u8 (sv / 256 % 256), .int .u8 (sv / 65536 % 256), .int .u8 (sv / 16777216)] := by rw [HT4.out]; rfl
        rw [ht]
        exact h)
      have HU8 := hideP hU8
      rw [h4]
      clear o8 g8 hat hU8 h4
      go_wp2_with fail
      try go_ret
      exact HP.out (bs ++ tail4 (sumV bs), 0) A8 c8 _ (by rw [HB.out, HY.out]) HO8.out (HU.out.trans HU8.out (fun _ _ h => h))
end Go.Proofs.YtdbdokjlcdogiaaDoor
