/-
  RefBytes, Says, Awake, put together.
-/
import Derived.Test.YtdbdokjlcdogiaaDoorZ32Bytes
import Derived.Test.YtdbdokjlcdogiaaDoorZ22Load7
import Derived.Deep.RegionHeld3
import Derived.Deep.RegionHeld
import Derived.Deep.AppendLies
import Derived.Lib.SlBytesConst
import Derived.Test.YtdbdokjlcdogiaaDoorZ31Small
import Derived.Test.YtdbdokjlcdogiaaDoorZ12Print
import Derived.Handy

/-
  The walk of heronref10.Bytes.
-/
namespace Go.Proofs.YtdbdokjlcdogiaaDoor
open Go.RowKit
set_option linter.unusedVariables false

set_option maxRecDepth 100000 in
set_option maxHeartbeats 4000000 in
theorem refBytes_any (w : World) (S : Nat → Prop) (A : Option Addr) (n c : Nat) (is : List PInst) (start caps : Int) (h : InstsR w S A n is) (hs : In64 start) (hc : In64 caps) (hn : n ≤ 140737488355328) :
    Calls Tryd.prog 24 #[.agg #[.slice A n c, .int .i64 start, .int .i64 caps]] w (BytesAns w (bytesOf is start caps)) := by
  obtain rfl : is.length = n := h.len
  have C0 := Cells.new w 24 #[.slice A is.length c, .int .i64 start, .int .i64 caps]
  have hU := (Upd.refl Nob w).alloc (.cells #[.slice A is.length c, .int .i64 start, .int .i64 caps] 24)
  have HI := hideP h
  clear h
  generalize hP : BytesAns w (bytesOf is start caps) = P
  have HP := hideP (show ∀ R A c w', bytesOf is start caps = R → OwnT w' w.heap.size 5 (.slice A R.1.length c) R.1.length (bytv R.1) → Upd Nob w w' → P (.returned (.tuple #[.slice A R.1.length c, .int .i64 R.2])) w' from fun R A c w' h1 h2 h3 => by rw [← hP, h1]; exact ⟨A, c, rfl, h2, h3⟩)
  clear hP
  obtain ⟨i0, hi0, hz0, hz1, hz2⟩ := info_parts cinfo_u8
  go_enter Tryd.func24, Tryd.ntmps24
  go_upto_region 1 with fail
  generalize w.alloc (.cells #[.slice A is.length c, .int .i64 start, .int .i64 caps] 24) = w2 at *
  have HC := hideP C0
  have HU := hideP hU
  have e0 : w2.cell? ⟨w.heap.size, 0, none⟩ = some (.slice A is.length c) := C0.cellv rfl
  have e1 : w2.cell? ⟨w.heap.size, 0 + 1, none⟩ = some (.int .i64 start) := C0.cellv rfl
  have e2 : w2.cell? ⟨w.heap.size, 0 + 2, none⟩ = some (.int .i64 caps) := C0.cellv rfl
  have HI2 := hideP (HI.out.upd hU (fun _ _ => not_nob))
  clear C0 hU HI
  cases hv : checkB is start caps
  · have HB := hideP (show bytesOf is start caps = ([], 90) by unfold bytesOf; rw [hv]; rfl)
    have HE := hideP (show errOf (checkB is start caps) = 90 by rw [hv]; rfl)
    clear hv
    go_wp2_with (go_at_call 28; refine (ref_check _ S A is.length c is start caps HI2.out hs hc hn).mono ?_; rintro e w3 ⟨he, hU3⟩; rw [HE.out] at he; subst he)
    try go_ret
    exact HP.out ([], 90) none 0 _ HB.out (OwnT.nil_ _ _ _) (HU.out.trans hU3 (fun _ _ h => h))
  have F := fineP hv
  obtain ⟨l0, l1, s0, s1, k0, k1, hfi⟩ := F
  have HF := hideP hfi
  obtain ⟨cN, rfl⟩ := Int.eq_ofNat_of_zero_le (show 0 ≤ caps by omega)
  obtain ⟨sN, rfl⟩ := Int.eq_ofNat_of_zero_le s0
  have HB := hideP (show bytesOf is sN cN = match instsB is (headB is.length sN cN) with | some b => (b ++ tail4 (sumV b), 0) | none => ([], 3) by unfold bytesOf; rw [hv]; rfl)
  have HE := hideP (show errOf (checkB is sN cN) = 0 by rw [hv]; rfl)
  clear hv hfi
  go_upto_region 4 with (go_at_call 28; refine (ref_check _ S A is.length c is sN cN HI2.out hs hc hn).mono ?_; rintro e w3 ⟨he, hU3⟩; rw [HE.out] at he; subst he)
  have HC3 := hideP (HC.out.upd hU3 not_nob)
  have hle3 := hU3.size
  have hlt3 := HC.out.lt
  have HU3 := hideP hU3
  have HSL := hideP (show ∀ w', Upd Nob w3 w' → (w'.cell? ⟨w.heap.size, 0 + 2, none⟩ = some (.int .i64 (cN : Int)) ∧ w'.cell? ⟨w.heap.size, 0 + 1, none⟩ = some (.int .i64 (sN : Int)) ∧ w'.cell? ⟨w.heap.size, 0, none⟩ = some (.slice A is.length c)) from fun w' hv => ⟨(HC3.out.upd hv not_nob).cellv rfl, (HC3.out.upd hv not_nob).cellv rfl, (HC3.out.upd hv not_nob).cellv rfl⟩)
  have HU1 := hideP ((Upd.refl Nob w3).alloc (.cells #[.int .u8 72, .int .u8 82, .int .u8 80, .int .u8 71] 5))
  have HO1 := hideP (OwnT.of (own_lit (w := w3) #[.int .u8 72, .int .u8 82, .int .u8 80, .int .u8 71] 5 (by unfold maxLen; simp)))
  have pl1 := putN_len (n := cN) (by omega)
  have pl2 := putN_len (n := sN) (by omega)
  clear e0 e1 e2 hU3
  obtain ⟨a1, a2, a0⟩ := HSL.out _ HU1.out
  go_upto_region 6 with (go_at_call 51; refine (put_any _ w3.heap.size _ 4 4 _ cN HO1.out HU1.out.size (by omega) (by omega)).mono ?_; rintro e w5 ⟨A5, c5, rfl, o5, u5⟩)
  have HO5 := hideP o5
  have HU5 := hideP (HU1.out.trans u5 (fun k hk h => by have := HO1.out.lo h; omega))
  clear o5 u5 a1 a2 a0
  obtain ⟨a1, a2, a0⟩ := HSL.out _ HU5.out
  go_upto_region 7 with (go_at_call 51; refine (put_any _ w3.heap.size _ (4 + (putN cN).length) _ _ sN HO5.out HU5.out.size (by omega) (by omega)).mono ?_; rintro e w6 ⟨A6, c6, rfl, o6, u6⟩)
  have HO6 := hideP o6
  have HU6 := hideP (HU5.out.trans u6 (fun k hk h => by have := HO5.out.lo h; omega))
  clear o6 u6 a1 a2 a0
  obtain ⟨a1, a2, a0⟩ := HSL.out _ HU6.out
  go_upto_region 8 with (go_at_call 51; refine (put_any _ w3.heap.size _ (4 + (putN cN).length + (putN sN).length) _ _ is.length HO6.out HU6.out.size (by omega) (by omega)).mono ?_; rintro e w7 ⟨A7, c7, rfl, o7, u7⟩)
  have HO7 := hideP o7
  have HU7 := hideP (HU6.out.trans u7 (fun k hk h => by have := HO6.out.lo h; omega))
  clear o7 u7 a1 a2 a0
  have e0 : w7.cell? ⟨w.heap.size, 0, none⟩ = some (.slice A is.length c) := (HSL.out _ HU7.out).2.2
  have hbl := headB_len (n := is.length) (start := (sN : Int)) (caps := (cN : Int)) (by omega) (by omega) (by omega)
  have hhl : 4 + (putN cN).length + (putN sN).length + (putN is.length).length = (headB is.length sN cN).length := by simp [headB]; omega
  have HO := hideP (show OwnT w7 w2.heap.size 5 (.slice A7 (headB is.length sN cN).length c7) (headB is.length sN cN).length (bytv (headB is.length sN cN)) from by
    have h1 := HO7.out.base_ (base' := w2.heap.size) (fun g hg => by have := HO7.out.lo hg; omega)
    rw [hhl] at h1
    have h2 : bytv (headB is.length sN cN) = #[Value.int .u8 72, .int .u8 82, .int .u8 80, .int .u8 71].toList ++ bytv (putN cN) ++ bytv (putN sN) ++ bytv (putN is.length) := by simp [headB, bytv]
    rw [h2]
    exact h1)
  have HW := hideP (show Upd Nob w2 w7 from HU3.out.trans HU7.out (fun _ _ h => h))
  rw [hhl]
  have HHB := hideP (headB_byte is.length sN cN)
  obtain ⟨b0, hb0⟩ : ∃ b0, headB is.length sN cN = b0 := ⟨_, rfl⟩
  rw [hb0] at HO HHB HB hbl
  rw [hb0]
  have hsz2 := HU.out.size
  clear hhl hb0 e0 HO1 HO5 HO6 HO7 HU1 HU5 HU6 HU7 HSL HC3
  go_wp2_with fail
  go_loopg [5, 6] is.length (fun gk v5 v6 wr => ∃ (k : Nat) (bs : List Int) (A' : Option Addr) (c' : Nat), k + gk = is.length ∧ v6 = .int .i64 (k : Int) ∧ v5 = .slice A' bs.length c' ∧ OwnT wr w2.heap.size 5 (.slice A' bs.length c') bs.length (bytv bs) ∧ instsB (is.drop k) bs = instsB is b0 ∧ bs.length ≤ 8388604 ∧ Upd Nob w2 wr)
  case atStart => exact ⟨0, b0, A7, c7, by omega, rfl, rfl, HO.out, rfl, by omega, HW.out⟩
  case round =>
    obtain ⟨k, bs, A', c', hk, rfl, rfl, ho, hq, hbs, hU⟩ := hrel
    have HOo := hideP ho
    have HQ := hideP hq
    have HUu := hideP hU
    have hszr := hU.size
    clear ho hq
    by_cases hlt : k < is.length
    · have gk1 : (k : Int) < (is.length : Int) := by omega
      obtain ⟨ad, g, o, x, B, m, c2, rfl, hx, hadd, -, hg, hR, hI, d0, d1, d3, d4, d5⟩ := HI2.out.at1 hlt
      have hin : ∀ w', Upd Nob w2 w' → (w'.cell? ⟨w.heap.size, 0, none⟩ = some (.slice (some ad) is.length c) ∧ w'.cell? ⟨g, o, none⟩ = some (.int .i64 x.op) ∧ w'.cell? ⟨g, o + 1, none⟩ = some (.int .i64 x.x) ∧ w'.cell? ⟨g, o + 2, none⟩ = some (.int .i64 x.y) ∧ w'.cell? ⟨g, o + 3, none⟩ = some (.int .i64 x.arg) ∧ w'.cell? ⟨g, o + 4, none⟩ = some (.slice B m c2)) := fun w' hv => ⟨(HC.out.upd hv not_nob).cellv rfl, (hv.cell (World.block_lt_of_cell? _ _ d0) not_nob).trans d0, (hv.cell (World.block_lt_of_cell? _ _ d1) not_nob).trans d1, (hv.cell (World.block_lt_of_cell? _ _ d3) not_nob).trans d3, (hv.cell (World.block_lt_of_cell? _ _ d4) not_nob).trans d4, (hv.cell (World.block_lt_of_cell? _ _ d5) not_nob).trans d5⟩
      obtain ⟨cb, c0, c1, c3, c4, c5⟩ := hin wr hU
      have HIN := hideP hin
      obtain rfl : x.rs.length = m := hR.len
      have hfx := HF.out x (List.mem_of_getElem? hx)
      have HST := hideP (instsB_drop bs hx)
      have HR := hideP hR
      have hop0 := hfx.op0
      have hop1 := hfx.op1
      have hrs := hfx.rs
      have hmod : x.op % 256 = x.op := by omega
      have HNL := hideP (numsOf_len hrs)
      have HNI := hideP hfx.nums
      clear hx hR hI hfx hU d0 d1 d3 d4 d5 hin hg
      go_wp2_with (at_builtin; refine wpList_append_T rfl _ _ 30 rfl w2.heap.size 5 i0 (.int .u8 0) Tryd.underlying30 hi0 hz0 hz1 hz2 rfl _ _ _ rfl (HOo.out.alloc _) ⟨wr.heap.size, 0, none⟩ 1 1 [(.int .u8 x.op)] rfl rfl ?d1 ?d2 ?d3 ?d4 ?d5 ?_)
      case d1 => exact World.news_of_block (cs := #[(.int .u8 x.op)]) (t := 5) (fr := (0, 0)) (heap_alloc_new _ _)
      case d2 => intro u hu; simp at hu; subst hu; rfl
      case d3 => unfold maxLen; omega
      case d4 => omega
      case d5 => simp; omega
      intro A8 c8 w8 o8 g8 hat
      have hU8 : Upd Nob w2 w8 := HUu.out.trans (((Upd.refl (fun b => (Value.slice A' bs.length c').ownBlock = some b) wr).alloc (.cells #[(.int .u8 x.op)] 5)).grown g8 (fun b hb _ => hb)) (fun b hb h => by have h1 := HOo.out.lo h; exact absurd h1 (by omega))
      clear cb c0 c1 c3 c4 c5
      obtain ⟨nb, n0, n1, n2, n3, n4⟩ := HIN.out w8 hU8
      have HR8 := hideP (HR.out.upd hU8 (fun _ _ => not_nob))
      have HU8 := hideP hU8
      have HO8 := hideP o8
      have hs8 := hU8.size
      clear hU8 o8 g8 hat
      go_wp2_with (go_at_call 50; refine (fields_any w8 S B c2 x HR8.out hrs).mono ?_; rintro e w9 ⟨NA, nc, rfl, o9, u9⟩; have HO9 := hideP o9; have HU9 := hideP u9; clear o9 u9)
      clear nb n0 n1 n2 n3 n4
      have HK := hideP hk
      have hb1 : (bs ++ [x.op]).length = bs.length + 1 := by simp
      have HO8' := hideP (show OwnT w9 w2.heap.size 5 (.slice A8 (bs ++ [x.op]).length c8) (bs ++ [x.op]).length (bytv (bs ++ [x.op])) from by
        rw [hb1]
        have h := HO8.out.upd HU9.out (fun _ _ => not_nob)
        simpa [bytv] using h)
      rw [← hb1]
      have hb2 : (bs ++ [x.op]).length ≤ 8388605 := by omega
      have HB0 := hideP (show (bs ++ [x.op]) ++ (numsOf x).flatMap (fun n => putN n.toNat) = bs ++ instB x by simp [instB])
      generalize bs ++ [x.op] = b1 at *
      have HU9' := hideP (HU8.out.trans HU9.out (fun _ _ h => h))
      obtain ⟨nN, hnN⟩ : ∃ nN, (numsOf x).length = nN := ⟨_, rfl⟩
      rw [hnN] at HNL
      have hnl := HNL.out
      rw [hnN] at HO9
      rw [hnN]
      have HNN := hideP hnN
      clear hk hb1 hnN
      go_loopg [5, 8] nN (fun gj v5 v8 wq => ∃ (j : Nat) (b2 : List Int) (A2 : Option Addr) (c3 : Nat), j + gj = nN ∧ v8 = .int .i64 (j : Int) ∧ v5 = .slice A2 b2.length c3 ∧ OwnT wq w2.heap.size 5 (.slice A2 b2.length c3) b2.length (bytv b2) ∧ b2 ++ ((numsOf x).drop j).flatMap (fun n => putN n.toNat) = bs ++ instB x ∧ b2.length ≤ 8388605 + 4 * j ∧ wq.ownsRow w8.heap.size 3 1 (.slice NA nN nc) nN ((numsOf x).map (Value.int .i64)) ∧ Upd Nob w2 wq)
      case atStart => exact ⟨0, b1, A8, c8, by omega, rfl, rfl, HO8'.out, by simpa using HB0.out, by omega, HO9.out, HU9'.out⟩
      case round =>
        obtain ⟨j, b2, A2, c3, hj, rfl, rfl, ho2, hq2, hb2l, ho3, hU2⟩ := hrel
        have HO2 := hideP ho2
        have HQ2 := hideP hq2
        have HO3 := hideP ho3
        have HU2 := hideP hU2
        have hsz2' := hU2.size
        clear ho2 hq2 hU2
        by_cases hjl : j < nN
        · have g2 : (j : Int) < (nN : Int) := by omega
          obtain ⟨ad2, u, rfl, -, -, hu, hcell⟩ := (Reads.of_own ho3).at1 hjl
          simp only [List.getElem?_map, Option.map_eq_some_iff] at hu
          obtain ⟨n0, hn0, rfl⟩ := hu
          obtain ⟨z0, z1⟩ := HNI.out n0 (List.mem_of_getElem? hn0)
          have HFD := hideP (flat_drop (fun n => putN n.toNat) hn0)
          obtain ⟨n1, rfl⟩ := Int.eq_ofNat_of_zero_le z0
          have HJ := hideP hj
          clear hn0 ho3 hj
          go_wp2_with (go_at_call 51; refine (put_any _ w2.heap.size _ b2.length _ _ n1 HO2.out hsz2' (by omega) (by omega)).mono ?_; rintro e w10 ⟨A10, c10, rfl, o10, u10⟩; have HO10 := hideP o10; have HU10 := hideP u10; clear o10 u10)
          have hj := HJ.out
          have hp4 := putN_len (n := n1) (by omega)
          have hbl3 : b2.length + (putN n1).length = (b2 ++ putN n1).length := by simp
          go_roundg (nN - (j + 1))
          case measure => omega
          case rel => exact ⟨j + 1, b2 ++ putN n1, A10, c10, by omega, by go_num, by rw [hbl3], by
            have h := HO10.out
            rw [hbl3, ← bytv_append] at h
            exact h, by
            have h := HQ2.out
            rw [HFD.out] at h
            rw [List.append_assoc]
            simpa using h, by rw [← hbl3]; omega, own_upd HO3.out HU10.out (fun b hb h => by
              obtain ⟨cur, hcur, -⟩ := own_cells HO3.out hb
              exact HO2.out.ne hcur (by decide) h), HU2.out.trans HU10.out (fun b hb h => by have h1 := HO2.out.lo h; exact absurd h1 (by omega))⟩
        · have g2 : ¬ (j : Int) < (nN : Int) := by omega
          obtain rfl : j = nN := by omega
          have hb3 : b2 = bs ++ instB x := by
            have h := HQ2.out
            rw [List.drop_of_length_le (by rw [HNN.out]; exact Nat.le_refl _)] at h
            simpa using h
          have HB3 := hideP hb3
          clear hb3 hj ho3
          by_cases hbig : 8388604 < b2.length
          · have hbig' : (8388608 : Int) < (b2.length : Int) + 4 := by omega
            have HNO := hideP (show instsB is b0 = none by rw [← HQ.out, HST.out, ← HB3.out, if_pos hbig])
            go_wp2_with fail
            try go_ret
            exact HP.out ([], 3) none 0 _ (by rw [HB.out, HNO.out]) (OwnT.nil_ _ _ _) (HU.out.trans HU2.out (fun _ _ h => h))
          · have hbig' : ¬ (8388608 : Int) < (b2.length : Int) + 4 := by omega
            have HYES := hideP (show instsB (is.drop (k + 1)) b2 = instsB is b0 by rw [← HQ.out, HST.out, ← HB3.out, if_neg hbig])
            go_wp2_with fail
            have hk := HK.out
            go_roundg (is.length - (k + 1))
            case measure => omega
            case rel => exact ⟨k + 1, b2, A2, c3, by omega, by go_num, rfl, HO2.out, HYES.out, by omega, HU2.out⟩
    · have g1 : ¬ (k : Int) < (is.length : Int) := by omega
      have cb : wr.cell? ⟨w.heap.size, 0, none⟩ = some (.slice A is.length c) := (HC.out.upd hU not_nob).cellv rfl
      obtain rfl : k = is.length := by omega
      have HY := hideP (show instsB is b0 = some bs by rw [← HQ.out, List.drop_length]; rfl)
      have HBY := hideP (instsB_byte HF.out HHB.out HY.out)
      have HRD := hideP (Reads.of_ownT HOo.out)
      obtain ⟨sv, hsv⟩ : ∃ sv, sumV bs = sv := ⟨_, rfl⟩
      have HSV := hideP hsv
      have hs0 : 0 ≤ sv := by rw [← hsv]; exact Int.natCast_nonneg _
      have hs1 : sv < 4294967296 := by
        rw [← hsv]
        have := (~~~ (crcL 0xFFFFFFFF#32 (bytesB bs))).isLt
        unfold sumV
        omega
      have hs2 : sv / 16777216 % 256 = sv / 16777216 := by omega
      have HT4 := hideP (show tail4 (sumV bs) = [sv % 256, sv / 256 % 256, sv / 65536 % 256, sv / 16777216] by rw [hsv]; unfold tail4; rw [hs2])
      clear hk hsv hs2
      go_wp2_with (first | (go_at_call 25; refine (refSum_any _ _ _ bs.length _ bs HRD.out HBY.out (by omega)).mono ?_; rintro e w9 ⟨rfl, q, rfl⟩; rw [HSV.out]) | (at_builtin; refine wpList_append_T rfl _ _ 30 rfl w2.heap.size 5 i0 (.int .u8 0) Tryd.underlying30 hi0 hz0 hz1 hz2 rfl _ _ _ rfl ((HOo.out.upd ((Upd.refl Nob wr).drewN q) (fun _ _ => not_nob)).alloc _) ⟨wr.heap.size, 0, none⟩ 4 4 [.int .u8 (sv % 256), .int .u8 (sv / 256 % 256), .int .u8 (sv / 65536 % 256), .int .u8 (sv / 16777216)] rfl rfl ?f1 ?f2 ?f3 ?f4 ?f5 ?_))
      case f1 => exact World.news_of_block (cs := #[.int .u8 (sv % 256), .int .u8 (sv / 256 % 256), .int .u8 (sv / 65536 % 256), .int .u8 (sv / 16777216)]) (t := 5) (fr := (0, 0)) (heap_alloc_new (wr.drewN q) _)
      case f2 => intro u hu; simp at hu; rcases hu with rfl | rfl | rfl | rfl <;> rfl
      case f3 => unfold maxLen; omega
      case f4 => omega
      case f5 => simp; omega
      intro A8 c8 w8 o8 g8 hat
      have hU8 : Upd Nob w2 w8 := HUu.out.trans ((((Upd.refl (fun b => (Value.slice A' bs.length c').ownBlock = some b) wr).drewN q).alloc (.cells #[.int .u8 (sv % 256), .int .u8 (sv / 256 % 256), .int .u8 (sv / 65536 % 256), .int .u8 (sv / 16777216)] 5)).grown g8 (fun b hb _ => hb)) (fun b hb h => by have h1 := HOo.out.lo h; exact absurd h1 (by omega))
      have h4 : bs.length + 4 = (bs ++ tail4 (sumV bs)).length := by simp [tail4]
      have HO8 := hideP (show OwnT w8 w.heap.size 5 (.slice A8 (bs ++ tail4 (sumV bs)).length c8) (bs ++ tail4 (sumV bs)).length (bytv (bs ++ tail4 (sumV bs))) from by
        have h := o8.base_ (base' := w.heap.size) (fun g hg => by have := o8.lo hg; omega)
        rw [h4] at h
        rw [bytv_append]
        have ht : bytv (tail4 (sumV bs)) = [.int .u8 (sv % 256), .int .u8 (sv / 256 % 256), .int .u8 (sv / 65536 % 256), .int .u8 (sv / 16777216)] := by rw [HT4.out]; rfl
        rw [ht]
        exact h)
      have HU8 := hideP hU8
      rw [h4]
      clear o8 g8 hat hU8 h4
      go_wp2_with fail
      try go_ret
      exact HP.out (bs ++ tail4 (sumV bs), 0) A8 c8 _ (by rw [HB.out, HY.out]) HO8.out (HU.out.trans HU8.out (fun _ _ h => h))
end Go.Proofs.YtdbdokjlcdogiaaDoor

/-
  The walk of heronlaw10.says.
-/
namespace Go.Proofs.YtdbdokjlcdogiaaDoor
open Go.RowKit
set_option linter.unusedVariables false

/-- a row's own block is known, if it is not empty -/
theorem OwnT.form {w : World} {base n c : Nat} {e : TypeId} {A : Option Addr} {xs : List Value} (h : OwnT w base e (.slice A n c) n xs) (hn : 0 < n) :
    ∃ g, A = some ⟨g, 0, none⟩ ∧ ∀ k, k < n → (∃ u, w.cell? ⟨g, k, none⟩ = some u) ∧ w.frozen? ⟨g, k, none⟩ = false := by
  rcases h.2 with ⟨_, rfl⟩ | ⟨g, cap, cur, fz, hv, hb, hg, hfz, h1, h2, h3, h4⟩
  · omega
  · injection hv with e1 _ e3
    refine ⟨g, e1, fun k hk => ⟨⟨cur[k]'(by omega), ?_⟩, ?_⟩⟩
    · have hi : k < cur.size := by omega
      simp [World.cell?, hg, hi]
    · obtain ⟨lo, hi'⟩ := fz
      simp only [World.frozen?, hg, Bool.and_eq_false_iff, decide_eq_false_iff_not]
      unfold Loose at hfz
      simp only at hfz
      omega
theorem OwnT.stored {w : World} {base n c g k : Nat} {e : TypeId} {xs : List Value} (h : OwnT w base e (.slice (some ⟨g, 0, none⟩) n c) n xs) (u : Value) :
    OwnT (w.setCell ⟨g, k, none⟩ u) base e (.slice (some ⟨g, 0, none⟩) n c) n (xs.set k u) := by
  refine ⟨by rw [List.length_set]; exact h.1, ?_⟩
  rcases h.2 with ⟨h0, _⟩ | ⟨g', cap, cur, fz, hv, hb, hg, hfz, h1, h2, h3, h4⟩
  · cases h0
  · injection hv with e1 _ e3
    injection e1 with e1
    injection e1 with e1
    subst e1
    refine .inr ⟨g, cap, cur.setIfInBounds k u, fz, by rw [e3], hb, ?_, ?_, h1, h2, by simpa using h3, ?_⟩
    · simp [World.setCell, Array.getElem?_modify, hg]
    · unfold Loose at hfz ⊢
      simpa using hfz
    · rw [Array.toList_setIfInBounds, List.take_set, h4]

theorem instsB_len : ∀ {is : List PInst} {b b' : List Int}, b.length ≤ 8388604 → instsB is b = some b' → b'.length ≤ 8388604
  | [], b, b', hb, h => by
    injection h with h
    rw [← h]
    exact hb
  | x :: r, b, b', hb, h => by
    unfold instsB at h
    split at h
    · cases h
    · exact instsB_len (by omega) h
theorem bytesOf_len (is : List PInst) (start caps : Int) : (bytesOf is start caps).1.length ≤ 8388608 := by
  cases hv : checkB is start caps
  · unfold bytesOf
    rw [hv]
    simp
  · obtain ⟨l0, l1, s0, s1, k0, k1, hfi⟩ := fineP hv
    have h0 := headB_len (n := is.length) (start := start) (caps := caps) (by omega) (by omega) (by omega)
    unfold bytesOf
    rw [hv]
    cases hb : instsB is (headB is.length start caps) with
    | none => simp
    | some b =>
      have h1 := instsB_len (by omega) hb
      have h2 : (tail4 (sumV b)).length = 4 := rfl
      show (b ++ tail4 (sumV b)).length ≤ _
      rw [List.length_append, h2]
      omega

set_option maxRecDepth 100000 in
set_option maxHeartbeats 4000000 in
theorem says_any (w : World) (S1 S2 : Nat → Prop) (A1 A2 : Option Addr) (n c1 c2 : Nat) (is : List PInst) (start caps : Int) (h1 : InstsR w S1 A1 n is) (h2 : InstsR w S2 A2 n is) (hs : In64 start) (hc : In64 caps) (hn : n ≤ 140737488355328) (hpt : PowTab w) (hwt : WordTab w) :
    Calls Tryd.prog 10 #[.agg #[.slice A1 n c1, .int .i64 start, .int .i64 caps], .agg #[.slice A2 n c2, .int .i64 start, .int .i64 caps]] w fun e w' => e = .returned (.bool true) ∧ Upd Nob w w' := by
  obtain ⟨i0, hi0, hz0, hz1, hz2⟩ := info_parts cinfo_u8
  generalize hT : textOf is start caps = T
  generalize hB : bytesOf is start caps = B
  have hBl : B.1.length ≤ 8388608 := by rw [← hB]; exact bytesOf_len _ _ _
  have HPT := hideP hpt
  have HWT := hideP hwt
  have H1 := hideP h1
  have H2 := hideP h2
  have HT := hideP hT
  have HB := hideP hB
  have C1 : Cells ((w.alloc (.cells #[.slice A1 n c1, .int .i64 start, .int .i64 caps] 24)).alloc (.cells #[.slice A2 n c2, .int .i64 start, .int .i64 caps] 24)) w.heap.size 24 #[.slice A1 n c1, .int .i64 start, .int .i64 caps] := (Cells.new _ _ _).alloc _
  have C2 := Cells.new (w.alloc (.cells #[.slice A1 n c1, .int .i64 start, .int .i64 caps] 24)) 24 #[.slice A2 n c2, .int .i64 start, .int .i64 caps]
  rw [World.size_alloc] at C2
  have hU : Upd Nob w ((w.alloc (.cells #[.slice A1 n c1, .int .i64 start, .int .i64 caps] 24)).alloc (.cells #[.slice A2 n c2, .int .i64 start, .int .i64 caps] 24)) := ((Upd.refl Nob w).alloc _).alloc _
  clear h1 h2 hT hB hpt hwt
  go_enter Tryd.func10, Tryd.ntmps10
  go_upto_region 1 with fail
  generalize ((w.alloc (.cells #[.slice A1 n c1, .int .i64 start, .int .i64 caps] 24)).alloc (.cells #[.slice A2 n c2, .int .i64 start, .int .i64 caps] 24)) = w2 at *
  have HC1 := hideP C1
  have HC2 := hideP C2
  have HU2 := hideP hU
  have hw2 := C2.lt
  clear C1 C2 hU
  have HSL := hideP (show ∀ w', Upd Nob w2 w' → (w'.cell? ⟨w.heap.size, 0, none⟩ = some (.slice A1 n c1) ∧ w'.cell? ⟨w.heap.size, 0 + 1, none⟩ = some (.int .i64 start) ∧ w'.cell? ⟨w.heap.size, 0 + 2, none⟩ = some (.int .i64 caps)) ∧ (w'.cell? ⟨w.heap.size + 1, 0, none⟩ = some (.slice A2 n c2) ∧ w'.cell? ⟨w.heap.size + 1, 0 + 1, none⟩ = some (.int .i64 start) ∧ w'.cell? ⟨w.heap.size + 1, 0 + 2, none⟩ = some (.int .i64 caps)) from fun w' hv => ⟨⟨(HC1.out.upd hv not_nob).cellv rfl, (HC1.out.upd hv not_nob).cellv rfl, (HC1.out.upd hv not_nob).cellv rfl⟩, ⟨(HC2.out.upd hv not_nob).cellv rfl, (HC2.out.upd hv not_nob).cellv rfl, (HC2.out.upd hv not_nob).cellv rfl⟩⟩)
  obtain ⟨⟨a0, a1, a2⟩, ⟨b0, b1, b2⟩⟩ := HSL.out w2 (Upd.refl _ _)
  go_upto_region 2 with (go_at_call 23; refine (refPrint_any _ S2 A2 n c2 is start caps (H2.out.upd HU2.out (fun _ _ => not_nob)) hs hc hn).mono ?_; rintro e w3 ⟨he, hU3⟩; rw [HT.out] at he; subst he)
  clear a0 a1 a2 b0 b1 b2
  have HU3 := hideP hU3
  obtain ⟨⟨a0, a1, a2⟩, ⟨b0, b1, b2⟩⟩ := HSL.out w3 hU3
  go_upto_region 3 with (go_at_call 24; refine (refBytes_any _ S2 A2 n c2 is start caps (H2.out.upd (HU2.out.trans hU3 (fun _ _ h => h)) (fun _ _ => not_nob)) hs hc hn).mono ?_; rintro e w4 ⟨AB, cB, he, hoB, hU4⟩; rw [HB.out] at he hoB; subst he)
  clear a0 a1 a2 b0 b1 b2
  have HU4 := hideP (HU3.out.trans hU4 (fun _ _ h => h))
  have HOB := hideP hoB
  clear hoB hU3 hU4
  obtain ⟨⟨a0, a1, a2⟩, ⟨b0, b1, b2⟩⟩ := HSL.out w4 HU4.out
  go_upto_region 4 with (go_at_call 22; refine (print_any _ S1 A1 n c1 is start caps (H1.out.upd (HU2.out.trans HU4.out (fun _ _ h => h)) (fun _ _ => not_nob)) hs hc hn (HPT.out.upd (HU2.out.trans HU4.out (fun _ _ h => h))) (HWT.out.upd (HU2.out.trans HU4.out (fun _ _ h => h)))).mono ?_; rintro e w5 ⟨he, hU5⟩; rw [HT.out] at he; subst he)
  clear a0 a1 a2 b0 b1 b2
  have HOB5 := hideP (HOB.out.upd hU5 (fun _ _ => not_nob))
  have HU5 := hideP (HU4.out.trans hU5 (fun _ _ h => h))
  clear hU5 HOB
  obtain ⟨⟨a0, a1, a2⟩, ⟨b0, b1, b2⟩⟩ := HSL.out w5 HU5.out
  go_upto_region 5 with (go_at_call 18; refine (bytes_any _ S1 A1 n c1 is start caps (H1.out.upd (HU2.out.trans HU5.out (fun _ _ h => h)) (fun _ _ => not_nob)) hs hc hn).mono ?_; rintro e w6 ⟨AC, cC, he, hoC, hU6⟩; rw [HB.out] at he hoC; subst he)
  clear a0 a1 a2 b0 b1 b2
  have HOB6 := hideP (HOB5.out.upd hU6 (fun _ _ => not_nob))
  have HU6 := hideP (HU5.out.trans hU6 (fun _ _ h => h))
  have HOC := hideP hoC
  have hU6s := hU6.size
  clear hU6 hoC
  obtain ⟨⟨a0, a1, a2⟩, ⟨b0, b1, b2⟩⟩ := HSL.out w6 HU6.out
  go_upto_region 6 with (go_at_call 18; refine (bytes_any _ S1 A1 n c1 is start caps (H1.out.upd (HU2.out.trans HU6.out (fun _ _ h => h)) (fun _ _ => not_nob)) hs hc hn).mono ?_; rintro e w7 ⟨AD, cD, he, hoD, hU7⟩; rw [HB.out] at he hoD; subst he)
  clear a0 a1 a2 b0 b1 b2
  have HOB7 := hideP (HOB6.out.upd hU7 (fun _ _ => not_nob))
  have HOC7 := hideP (HOC.out.upd hU7 (fun _ _ => not_nob))
  have HU7 := hideP (HU6.out.trans hU7 (fun _ _ h => h))
  have HOD := hideP hoD
  have HCD := hideP (show ∀ g, (Value.slice AD B.1.length cD).ownBlock = some g → ¬ (Value.slice AC B.1.length cC).ownBlock = some g from fun g hg hg2 => by
    have h1 := hoD.lo hg
    have h2 := HOC.out.lt hg2
    omega)
  have HCB := hideP (show ∀ g, (Value.slice AB B.1.length cB).ownBlock = some g → ¬ (Value.slice AC B.1.length cC).ownBlock = some g from fun g hg hg2 => by
    have h1 := HOB5.out.lt hg
    have h2 := HOC.out.lo hg2
    omega)
  have HBC := hideP (show ∀ g, (Value.slice AC B.1.length cC).ownBlock = some g → g < w7.heap.size from fun g hg => HOC7.out.lt hg)
  have HU6' := hideP (show w5.heap.size ≤ w7.heap.size from Nat.le_trans hU6s hU7.size)
  clear HOB5 HOB6 HOC hU7 hoD HU6
  go_upto_region 7 with (go_at_call 16; refine (sameBytes_any _ _ _ AC AB B.1.length cC cB B.1 (Reads.of_ownT HOC7.out) (Reads.of_ownT HOB7.out) (by omega)).mono ?_; rintro e w8 ⟨rfl, hU8⟩)
  have HOB8 := hideP (HOB7.out.upd hU8 (fun _ _ => not_nob))
  have HOC8 := hideP (HOC7.out.upd hU8 (fun _ _ => not_nob))
  have HOD8 := hideP (HOD.out.upd hU8 (fun _ _ => not_nob))
  have HBC8 := hideP (show ∀ g, (Value.slice AC B.1.length cC).ownBlock = some g → g < w8.heap.size from fun g hg => Nat.lt_of_lt_of_le (HBC.out g hg) hU8.size)
  have HU8 := hideP (HU7.out.trans hU8 (fun _ _ h => h))
  have HLO := hideP (show ∀ g, (Value.slice AC B.1.length cC).ownBlock = some g → w5.heap.size ≤ g from fun g hg => HOC8.out.lo hg)
  have hw52 := HU5.out.size
  have hw58 : w5.heap.size ≤ w8.heap.size := by
    have h1 := HU6'.out
    have h2 := hU8.size
    omega
  clear HOB7 HOC7 HOD hU8 HU7 HBC HU5 HU4 HU3
  go_wp2_with fail
  go_loopg [16] B.1.length (fun gk v16 wr => ∃ (k : Nat) (xs : List Value), k + gk = B.1.length ∧ v16 = .int .i64 (k : Int) ∧ OwnT wr w5.heap.size 5 (.slice AC B.1.length cC) B.1.length xs ∧ Upd (fun b => (Value.slice AC B.1.length cC).ownBlock = some b) w8 wr)
  case atStart => exact ⟨0, _, by omega, rfl, HOC8.out, Upd.refl _ _⟩
  case round =>
    obtain ⟨k, xs, hk, rfl, hO, hU⟩ := hrel
    by_cases hlt : k < B.1.length
    · have g1 : (k : Int) < (B.1.length : Int) := by omega
      obtain ⟨g, rfl, hcells⟩ := hO.form (by omega)
      obtain ⟨⟨u, hu⟩, hf⟩ := hcells k hlt
      have HO := hideP (hO.stored (k := k) (.int .u8 201))
      have HU := hideP (hU.setCell ⟨g, k, none⟩ (.int .u8 201) (fun _ => rfl))
      clear hcells hO hU
      go_wp2_with fail
      go_roundg (B.1.length - (k + 1))
      case measure => omega
      case rel => exact ⟨k + 1, _, by omega, by go_num, HO.out, HU.out⟩
    · have g1 : ¬ (k : Int) < (B.1.length : Int) := by omega
      have HO := hideP hO
      have HU := hideP hU
      clear hO hU hk
      go_wp2_with fail
      go_loopg [11, 17] 9 (fun gk v11 v17 wq => ∃ (j : Nat) (ys : List Value) (A' : Option Addr) (c' : Nat), j + gk = 9 ∧ v17 = .int .i64 (j : Int) ∧ v11 = .slice A' (B.1.length + j) c' ∧ OwnT wq w5.heap.size 5 (.slice A' (B.1.length + j) c') (B.1.length + j) ys ∧ (∀ g, (Value.slice A' (B.1.length + j) c').ownBlock = some g → (Value.slice AC B.1.length cC).ownBlock = some g ∨ w8.heap.size ≤ g) ∧ Upd (fun b => (Value.slice AC B.1.length cC).ownBlock = some b) w8 wq)
      case atStart => exact ⟨0, _, AC, cC, by omega, rfl, rfl, HO.out, fun g hg => .inl hg, HU.out⟩
      case round =>
        obtain ⟨j, ys, A', c', hj, rfl, rfl, hOj, hbj, hUj⟩ := hrel
        have hs8 := hUj.size
        by_cases hlj : j < 9
        · have gj : (j : Int) < 9 := by omega
          have HOj := hideP (hOj.alloc (.cells #[.int .u8 202] 5))
          have HUj := hideP (hUj.alloc (.cells #[.int .u8 202] 5))
          have HBj := hideP hbj
          have HJ := hideP hj
          clear hOj hUj hbj hj
          go_wp2_with (at_builtin; refine wpList_append_T rfl _ _ 30 rfl w5.heap.size 5 i0 (.int .u8 0) Tryd.underlying30 hi0 hz0 hz1 hz2 rfl _ _ _ rfl HOj.out ⟨wr.heap.size, 0, none⟩ 1 1 [.int .u8 202] rfl rfl (World.news_of_block (cs := #[.int .u8 202]) (t := 5) (fr := (0, 0)) (heap_alloc_new wr _)) (by intro u hu; simp at hu; subst hu; rfl) (by unfold maxLen; omega) (by omega) (by simp; omega) ?_; intro A9 c9 w9 o9 g9 b9; have HO9 := hideP o9; have HG9 := hideP g9; have HB9 := hideP b9; clear o9 g9 b9)
          have hj := HJ.out
          go_roundg (9 - (j + 1))
          case measure => omega
          case rel =>
            refine ⟨j + 1, _, A9, c9, by omega, by go_num, rfl, HO9.out, fun g hg => ?_, HUj.out.grown HG9.out (fun b hb hlt => ?_)⟩
            · rcases HB9.out with e | e
              · exact HBj.out g (e ▸ hg)
              · have hg' := hg.symm.trans e
                injection hg' with hg'
                refine .inr ?_
                rw [hg', World.size_alloc]
                omega
            · exact (HBj.out b hb).resolve_right (by omega)
        · have gj : ¬ (j : Int) < 9 := by omega
          obtain rfl : j = 9 := by omega
          have HOBq := hideP (HOB8.out.upd hUj HCB.out)
          have HODq := hideP (HOD8.out.upd hUj HCD.out)
          have HUq := hideP (HU8.out.trans hUj (fun b hb h => absurd (HLO.out b h) (by omega)))
          clear hOj hUj hbj hj
          go_wp2_with (go_at_call 16; refine (sameBytes_any _ _ _ AD AB B.1.length cD cB B.1 (Reads.of_ownT HODq.out) (Reads.of_ownT HOBq.out) (by omega)).mono ?_; rintro e w9 ⟨rfl, hU9⟩)
          go_ret
          exact ⟨rfl, (HU2.out.trans HUq.out (fun _ _ h => h)).trans hU9 (fun _ _ h => h)⟩
end Go.Proofs.YtdbdokjlcdogiaaDoor

/-
  The walks of heronlaw10.one, awake.
-/
namespace Go.Proofs.YtdbdokjlcdogiaaDoor
open Go.RowKit
set_option linter.unusedVariables false

def oneI : List PInst := [⟨5, 0, 0, 0, []⟩]
theorem one_check : checkB oneI 0 2 = true := by decide
theorem one_bytes : bytesOf oneI 0 2 = ([72, 82, 80, 71, 2, 0, 1, 5, 0] ++ tail4 (sumV [72, 82, 80, 71, 2, 0, 1, 5, 0]), 0) := by
  have hp : ∀ n, n < 128 → putN n = [(n : Int)] := fun n hn => by unfold putN; simp [hn]
  have hh : headB oneI.length 0 2 = [72, 82, 80, 71, 2, 0, 1] := by
    unfold headB
    rw [hp _ (by decide), hp _ (by decide), hp _ (by decide)]
    rfl
  have hi : instB ⟨5, 0, 0, 0, []⟩ = [5, 0] := by
    unfold instB
    have : numsOf ⟨5, 0, 0, 0, []⟩ = [0] := by unfold numsOf; simp
    rw [this]
    simp only [List.flatMap_cons, List.flatMap_nil]
    rw [hp _ (by decide)]
    rfl
  unfold bytesOf
  rw [one_check, hh]
  have : instsB oneI [72, 82, 80, 71, 2, 0, 1] = some [72, 82, 80, 71, 2, 0, 1, 5, 0] := by
    unfold oneI instsB
    rw [hi]
    rfl
  rw [this]
  rfl
theorem one_text : textOf oneI 0 2 = ([99, 97, 112, 115, 32, 50, 32, 115, 116, 97, 114, 116, 32, 48, 10, 32, 32, 109, 97, 116, 99, 104, 32, 48, 10], 0) := by
  have hh : headT 0 2 = [99, 97, 112, 115, 32, 50, 32, 115, 116, 97, 114, 116, 32, 48, 10] := by
    unfold headT
    rw [decDigits_small (by decide), decDigits_small (by decide)]
    rfl
  have hi : lineT ⟨5, 0, 0, 0, []⟩ = [32, 32, 109, 97, 116, 99, 104, 32, 48, 10] := by
    unfold lineT
    have : numsOf ⟨5, 0, 0, 0, []⟩ = [0] := by unfold numsOf; simp
    rw [this]
    simp only [List.flatMap_cons, List.flatMap_nil]
    unfold numT
    rw [decDigits_small (by decide)]
    rfl
  unfold textOf
  rw [one_check, hh]
  have : linesT oneI [99, 97, 112, 115, 32, 50, 32, 115, 116, 97, 114, 116, 32, 48, 10] = some [99, 97, 112, 115, 32, 50, 32, 115, 116, 97, 114, 116, 32, 48, 10, 32, 32, 109, 97, 116, 99, 104, 32, 48, 10] := by
    unfold oneI linesT
    rw [hi]
    rfl
  rw [this]
  rfl
def OnePost (w : World) (e : Ending) (w' : World) : Prop :=
  ∃ g, e = .returned (.agg #[.slice (some ⟨g, 0, none⟩) 1 1, .int .i64 0, .int .i64 2]) ∧ InstsR w' (fun k => w.heap.size ≤ k) (some ⟨g, 0, none⟩) 1 oneI ∧ Upd Nob w w'
theorem one_insts {w : World} {S : Nat → Prop} {g : Nat} {t : TypeId} (h : Cells w g t #[.int .i64 5, .int .i64 0, .int .i64 0, .int .i64 0, .slice none 0 0]) (hg : S g) : InstsR w S (some ⟨g, 0, none⟩) 1 oneI := by
  have k0 : In64 0 := by unfold In64; omega
  have k5 : In64 5 := by unfold In64; omega
  refine ⟨rfl, fun i x hx => ?_⟩
  have hl := (List.getElem?_eq_some_iff.1 hx).1
  match i, hl with
  | 0, _ =>
    obtain rfl : (⟨5, 0, 0, 0, []⟩ : PInst) = x := by injection hx
    refine ⟨_, g, 0, none, 0, 0, rfl, by rw [add_lit_], hg, h.lt, ⟨Reads.nil_, (fun x h => by cases h), by omega⟩, ⟨k5, k0, k0, k0⟩, fun j v hv => ?_⟩
    rw [h.cell, Nat.zero_add]
    exact hv
set_option maxHeartbeats 1000000 in
theorem one_any (w : World) : Calls Tryd.prog 21 #[] w (OnePost w) := by
  have hw : ∃ w2 : World, w2 = (w.alloc (.cells #[.slice (some ⟨w.heap.size + 1, 0, none⟩) 1 1, .int .i64 0, .int .i64 2] 24)).alloc (.cells #[.int .i64 5, .int .i64 0, .int .i64 0, .int .i64 0, .slice none 0 0] 48) := ⟨_, rfl⟩
  obtain ⟨w2, hw⟩ := hw
  have C1 : Cells w2 (w.heap.size + 1) 48 #[.int .i64 5, .int .i64 0, .int .i64 0, .int .i64 0, .slice none 0 0] := by
    have := Cells.new (w.alloc (.cells #[.slice (some ⟨w.heap.size + 1, 0, none⟩) 1 1, .int .i64 0, .int .i64 2] 24)) 48 #[.int .i64 5, .int .i64 0, .int .i64 0, .int .i64 0, .slice none 0 0]
    rw [World.size_alloc] at this
    rw [hw]
    exact this
  have C0 : Cells w2 w.heap.size 24 #[.slice (some ⟨w.heap.size + 1, 0, none⟩) 1 1, .int .i64 0, .int .i64 2] := by rw [hw]; exact (Cells.new _ _ _).alloc _
  have hU : Upd Nob w w2 := by rw [hw]; exact ((Upd.refl Nob w).alloc _).alloc _
  have HW := hideP hw
  clear hw
  go_enter Tryd.func21, Tryd.ntmps21
  go_wp2_with fail
  rw [← HW.out]
  have e0 : w2.cell? ⟨w.heap.size, 0, none⟩ = some (.slice (some ⟨w.heap.size + 1, 0, none⟩) 1 1) := C0.cellv rfl
  have e1 : w2.cell? ⟨w.heap.size, 1, none⟩ = some (.int .i64 0) := C0.cellv rfl
  have e2 : w2.cell? ⟨w.heap.size, 2, none⟩ = some (.int .i64 2) := C0.cellv rfl
  refine bodyPost_ret (by simp [results, Tryd.results21, go_sem, e0, e1, e2]; try rfl) rfl ?_
  exact ⟨_, rfl, one_insts C1 (by omega), hU⟩

set_option maxRecDepth 100000 in
set_option maxHeartbeats 2000000 in
theorem awake_any (w : World) (hpt : PowTab w) (hwt : WordTab w) : Calls Tryd.prog 7 #[] w fun e w' => e = .returned (.bool true) ∧ Upd Nob w w' := by
  have k0 : In64 0 := by unfold In64; omega
  have k2 : In64 2 := by unfold In64; omega
  have HPT := hideP hpt
  have HWT := hideP hwt
  have HB := hideP one_bytes
  have HT := hideP one_text
  clear hpt hwt
  go_enter Tryd.func7, Tryd.ntmps7
  go_upto_region 2 with (first
    | (go_at_call 21; refine (one_any w).mono ?_; rintro e w2 ⟨g, rfl, hI, hU⟩)
    | (go_at_call 18; refine (bytes_any _ _ _ 1 1 oneI 0 2 hI k0 k2 (by omega)).mono ?_; rintro e w3 ⟨A, c, he, ho, hU3⟩; rw [HB.out] at he ho; subst he))
  have hU3' := hU.trans hU3 (fun _ _ h => h)
  have HU3 := hideP hU3'
  obtain ⟨gb, rfl, hcb⟩ := ho.form (by decide)
  have hb0 : w3.cell? ⟨gb, 0, none⟩ = some (.int .u8 72) := by have := ho.cells rfl 0 (.int .u8 72) rfl; rw [add_lit_] at this; exact this
  have hb7 : w3.cell? ⟨gb, 7, none⟩ = some (.int .u8 5) := by have := ho.cells rfl 7 (.int .u8 5) rfl; rw [add_lit_] at this; exact this
  have HO := hideP ho
  clear ho hcb hU3 hU3' hU hI
  go_upto_region 3 with (first
    | (go_at_call 21; refine (one_any w3).mono ?_; rintro e w4 ⟨g4, rfl, hI, hU⟩)
    | (go_at_call 22; refine (print_any _ _ _ 1 1 oneI 0 2 hI k0 k2 (by omega) (HPT.out.upd (HU3.out.trans hU (fun _ _ h => h))) (HWT.out.upd (HU3.out.trans hU (fun _ _ h => h)))).mono ?_; rintro e w5 ⟨he, hU5⟩; rw [HT.out] at he; subst he))
  have hU35 := hU.trans hU5 (fun _ _ h => h)
  have hb0' : w5.cell? ⟨gb, 0, none⟩ = some (.int .u8 72) := (hU35.cell (World.block_lt_of_cell? _ _ hb0) not_nob).trans hb0
  have hb7' : w5.cell? ⟨gb, 7, none⟩ = some (.int .u8 5) := (hU35.cell (World.block_lt_of_cell? _ _ hb7) not_nob).trans hb7
  have HU5 := hideP (HU3.out.trans hU35 (fun _ _ h => h))
  clear hb0 hb7 hU hU5 hU35 hI
  go_wp2_with fail
  go_ret
  exact ⟨rfl, HU5.out⟩
end Go.Proofs.YtdbdokjlcdogiaaDoor
