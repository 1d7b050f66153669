/-
  The walk of heronref10.Print.
-/
import Derived.Test.YtdbdokjlcdogiaaDoorTextW
import Derived.Test.YtdbdokjlcdogiaaDoorFields
import Derived.Test.YtdbdokjlcdogiaaDoorRefCheck
namespace Go.Proofs.YtdbdokjlcdogiaaDoor
open Go.RowKit Go.Lib
set_option linter.unusedVariables false

set_option maxRecDepth 100000 in
set_option maxHeartbeats 4000000 in
theorem refPrint_any (w : World) (S : Nat → Prop) (A : Option Addr) (n c : Nat) (is : List PInst) (start caps : Int) (h : InstsR w S A n is) (hs : In64 start) (hc : In64 caps) (hn : n ≤ 140737488355328) :
    Calls Tryd.prog 23 #[.agg #[.slice A n c, .int .i64 start, .int .i64 caps]] w (TextAns w (textOf is start caps)) := by
  obtain rfl : is.length = n := h.len
  have C0 := Cells.new w 24 #[.slice A is.length c, .int .i64 start, .int .i64 caps]
  have hU := (Upd.refl Nob w).alloc (.cells #[.slice A is.length c, .int .i64 start, .int .i64 caps] 24)
  have HI := hideP h
  clear h
  generalize hP : TextAns w (textOf is start caps) = P
  have HP := hideP (show ∀ R w', textOf is start caps = R → Upd Nob w w' → P (.returned (.tuple #[.string ⟨R.1.toArray⟩, .int .i64 R.2])) w' from fun R w' h1 h3 => by rw [← hP, h1]; exact ⟨rfl, h3⟩)
  clear hP
  go_enter Tryd.func23, Tryd.ntmps23
  go_upto_region 1 with fail
  generalize w.alloc (.cells #[.slice A is.length c, .int .i64 start, .int .i64 caps] 24) = w2 at *
  have HC := hideP C0
  have HU := hideP hU
  have e0 : w2.cell? ⟨w.heap.size, 0, none⟩ = some (.slice A is.length c) := C0.cellv rfl
  have e1 : w2.cell? ⟨w.heap.size, 0 + 1, none⟩ = some (.int .i64 start) := C0.cellv rfl
  have e2 : w2.cell? ⟨w.heap.size, 0 + 2, none⟩ = some (.int .i64 caps) := C0.cellv rfl
  have HI2 := hideP (HI.out.upd hU (fun _ _ => not_nob))
  clear C0 hU HI
  cases hv : checkB is start caps
  · have HB := hideP (show textOf is start caps = ([], 90) by unfold textOf; rw [hv]; rfl)
    have HE := hideP (show errOf (checkB is start caps) = 90 by rw [hv]; rfl)
    clear hv
    go_wp2_with (go_at_call 28; refine (ref_check _ S A is.length c is start caps HI2.out hs hc hn).mono ?_; rintro e w3 ⟨he, hU3⟩; rw [HE.out] at he; subst he)
    try go_ret
    exact HP.out ([], 90) _ HB.out (HU.out.trans hU3 (fun _ _ h => h))
  have F := fineP hv
  obtain ⟨l0, l1, s0, s1, k0, k1, hfi⟩ := F
  have HF := hideP hfi
  obtain ⟨cN, rfl⟩ := Int.eq_ofNat_of_zero_le (show 0 ≤ caps by omega)
  obtain ⟨sN, rfl⟩ := Int.eq_ofNat_of_zero_le s0
  have HB := hideP (show textOf is sN cN = match linesT is (headT sN cN) with | some b => (b, 0) | none => ([], 3) by unfold textOf; rw [hv]; rfl)
  have HE := hideP (show errOf (checkB is sN cN) = 0 by rw [hv]; rfl)
  clear hv hfi
  go_upto_region 5 with (go_at_call 28; refine (ref_check _ S A is.length c is sN cN HI2.out hs hc hn).mono ?_; rintro e w3 ⟨he, hU3⟩; rw [HE.out] at he; subst he)
  have hsz2 := HU.out.size
  have hle3 := hU3.size
  have HU3 := hideP hU3
  have HSL := hideP (show ∀ w', Upd Nob w2 w' → (w'.cell? ⟨w.heap.size, 0 + 2, none⟩ = some (.int .i64 (cN : Int)) ∧ w'.cell? ⟨w.heap.size, 0 + 1, none⟩ = some (.int .i64 (sN : Int)) ∧ w'.cell? ⟨w.heap.size, 0, none⟩ = some (.slice A is.length c)) from fun w' hv => ⟨(HC.out.upd hv not_nob).cellv rfl, (HC.out.upd hv not_nob).cellv rfl, (HC.out.upd hv not_nob).cellv rfl⟩)
  clear e0 e1 e2 hU3
  go_wp2_with (at_builtin; refine text_append rfl _ _ rfl w2.heap.size none 0 [] [99, 97, 112, 115, 32] rfl (TextR.nil_ _ _) _ rfl rfl (by decide) hle3 ?_)
  intro A4 c4 w4 T4 H4 o4 u4
  have HO4 := hideP o4
  have HU4 := hideP ((TextR.nil_ w3 w2.heap.size).step HU3.out u4)
  have hl4 : T4.length ≤ 5 := by rw [← H4.out]; decide
  clear o4 u4
  obtain ⟨a1, a2, a0⟩ := HSL.out _ HU4.out
  have pl1 := dec_len (n := cN) (by omega)
  have pl2 := dec_len (n := sN) (by omega)
  go_upto_region 7 with (go_at_call 48; refine (decimal_text _ w2.heap.size _ _ T4 cN HO4.out HU4.out.size (by omega) (by omega)).mono ?_; rintro e w5 ⟨A5, c5, T5, H5, rfl, o5, u5⟩)
  have HO5 := hideP o5
  have HU5 := hideP (HO4.out.step HU4.out u5)
  have hl5 := cat_len H5
  have hs5 := HU5.out.size
  clear o5 u5 a1 a2 a0
  go_wp2_with (at_builtin; refine text_append rfl _ _ rfl w2.heap.size _ _ T5 [32, 115, 116, 97, 114, 116, 32] rfl HO5.out _ rfl rfl ?d1 hs5 ?_)
  case d1 => simp; omega
  intro A6 c6 w6 T6 H6 o6 u6
  have HO6 := hideP o6
  have HU6 := hideP (HO5.out.step HU5.out u6)
  have hl6 := cat_len H6
  have hs6 := HU6.out.size
  simp only [List.length_cons, List.length_nil] at hl6
  clear o6 u6
  obtain ⟨a1, a2, a0⟩ := HSL.out _ HU6.out
  go_upto_region 9 with (go_at_call 48; refine (decimal_text _ w2.heap.size _ _ T6 sN HO6.out HU6.out.size (by omega) (by omega)).mono ?_; rintro e w7 ⟨A7, c7, T7, H7, rfl, o7, u7⟩)
  have HO7 := hideP o7
  have HU7 := hideP (HO6.out.step HU6.out u7)
  have hl7 := cat_len H7
  have hs7 := HU7.out.size
  clear o7 u7 a1 a2 a0
  go_wp2_with (at_builtin; refine text_byte rfl _ _ rfl w2.heap.size _ _ T7 rfl w7 10 rfl HO7.out 10 rfl rfl (by omega) hs7 ?_)
  intro A8 c8 w8 T8 H8 o8 u8
  have HO8 := hideP o8
  have HU8 := hideP (HO7.out.step HU7.out u8)
  have hl8 := cat_len H8
  have hs8 := HU8.out.size
  have hT0 : headT sN cN = T8 := by
    rw [← H8.out, ← H7.out, ← H6.out, ← H5.out, ← H4.out]
    simp [headT]
  simp only [List.length_cons, List.length_nil] at hl8
  have HNE := hideP (show T8 ≠ [] from cat_ne H8 (cat_ne H7 (cat_ne H6 (cat_ne H5 (by rw [← H4.out]; simp)))))
  rw [hT0] at HB
  clear o8 u8 hT0 HO4 HO5 HO6 HO7 HU4 HU5 HU6 HU7 HSL
  go_wp2_with fail
  go_loopg [5, 6] is.length (fun gk v5 v6 wr => ∃ (k : Nat) (T : List UInt8) (A' : Option Addr) (c' : Nat), k + gk = is.length ∧ v6 = .int .i64 (k : Int) ∧ v5 = .slice A' T.length c' ∧ TextR wr w2.heap.size A' c' T ∧ linesT (is.drop k) T = linesT is T8 ∧ T.length ≤ 8388608 ∧ T ≠ [] ∧ Upd Nob w2 wr)
  case atStart => exact ⟨0, T8, A8, c8, by omega, rfl, rfl, HO8.out, rfl, by omega, HNE.out, HU8.out⟩
  case round =>
    obtain ⟨k, T, A', c', hk, rfl, rfl, ho, hq, hbs, hne, hU⟩ := hrel
    have HOo := hideP ho
    have HQ := hideP hq
    have HUu := hideP hU
    have HNe := hideP hne
    have hszr := hU.size
    clear ho hq hne
    by_cases hlt : k < is.length
    · have gk1 : (k : Int) < (is.length : Int) := by omega
      obtain ⟨ad, g, o, x, B, m, c2, rfl, hx, hadd, -, hg, hR, hI, d0, d1, d3, d4, d5⟩ := HI2.out.at1 hlt
      have hin : ∀ w', Upd Nob w2 w' → (w'.cell? ⟨w.heap.size, 0, none⟩ = some (.slice (some ad) is.length c) ∧ w'.cell? ⟨g, o, none⟩ = some (.int .i64 x.op) ∧ w'.cell? ⟨g, o + 1, none⟩ = some (.int .i64 x.x) ∧ w'.cell? ⟨g, o + 2, none⟩ = some (.int .i64 x.y) ∧ w'.cell? ⟨g, o + 3, none⟩ = some (.int .i64 x.arg) ∧ w'.cell? ⟨g, o + 4, none⟩ = some (.slice B m c2)) := fun w' hv => ⟨(HC.out.upd hv not_nob).cellv rfl, (hv.cell (World.block_lt_of_cell? _ _ d0) not_nob).trans d0, (hv.cell (World.block_lt_of_cell? _ _ d1) not_nob).trans d1, (hv.cell (World.block_lt_of_cell? _ _ d3) not_nob).trans d3, (hv.cell (World.block_lt_of_cell? _ _ d4) not_nob).trans d4, (hv.cell (World.block_lt_of_cell? _ _ d5) not_nob).trans d5⟩
      obtain ⟨cb, c0, c1, c3, c4, c5⟩ := hin wr hU
      have HIN := hideP hin
      obtain rfl : x.rs.length = m := hR.len
      have hfx := HF.out x (List.mem_of_getElem? hx)
      have HST := hideP (linesT_drop T hx)
      have HR := hideP hR
      have hop0 := hfx.op0
      have hop1 := hfx.op1
      have hrs := hfx.rs
      have HNL := hideP (numsOf_len hrs)
      have HNI := hideP hfx.nums
      clear hx hR hI hfx hU d0 d1 d3 d4 d5 hin hg c0 c1 c3 c4 c5
      go_wp2_with (at_builtin; refine text_append rfl _ _ rfl w2.heap.size _ _ T [32, 32] rfl HOo.out _ rfl rfl ?d1 hszr ?_)
      case d1 => simp; omega
      intro A3 c3 w3' T3 H3 o3 u3
      have HO3 := hideP o3
      have HU3' := hideP (HOo.out.step HUu.out u3)
      have hl3 := cat_len H3
      have hs3 := HU3'.out.size
      simp only [List.length_cons, List.length_nil] at hl3
      clear o3 u3 cb
      obtain ⟨cb, c0, c1, c3', c4, c5⟩ := HIN.out w3' HU3'.out
      clear c1 c3' c4 c5
      go_upto_region 15 with (go_at_call 49; refine (word_any _ x.op hop0 hop1).mono ?_; rintro e w4' ⟨rfl, rfl⟩)
      have hwl := wordT_len x.op
      go_wp2_with (at_builtin; refine text_append rfl _ _ rfl w2.heap.size _ _ T3 (wordT x.op) rfl HO3.out _ rfl (wordS_list _) ?e1 hs3 ?_)
      case e1 => omega
      intro A9 c9 w9 T9 H9 o9 u9
      have HO9 := hideP o9
      have HU9 := hideP (HO3.out.step HU3'.out u9)
      have hl9 := cat_len H9
      have hs9 := HU9.out.size
      clear o9 u9 cb c0
      obtain ⟨cb, c0, c1, c3', c4, c5⟩ := HIN.out w9 HU9.out
      have HR9 := hideP (HR.out.upd HU9.out (fun _ _ => not_nob))
      go_wp2_with (go_at_call 50; refine (fields_any w9 S B c2 x HR9.out hrs).mono ?_; rintro e w10 ⟨NA, nc, rfl, o10, u10⟩; have HO10 := hideP o10; have HU10 := hideP (HU9.out.trans u10 (fun _ _ h => h)); have HT10 := hideP (HO9.out.upd u10 (fun _ _ => not_nob)); clear o10 u10)
      clear cb c0 c1 c3' c4 c5
      have HK := hideP hk
      obtain ⟨nN, hnN⟩ : ∃ nN, (numsOf x).length = nN := ⟨_, rfl⟩
      rw [hnN] at HNL
      have hnl := HNL.out
      rw [hnN] at HO10
      rw [hnN]
      have HNN := hideP hnN
      clear hk hnN
      go_loopg [5, 9] nN (fun gj v5 v9 wq => ∃ (j : Nat) (T2 : List UInt8) (A2 : Option Addr) (c3 : Nat), j + gj = nN ∧ v9 = .int .i64 (j : Int) ∧ v5 = .slice A2 T2.length c3 ∧ TextR wq w2.heap.size A2 c3 T2 ∧ T2 ++ ((numsOf x).drop j).flatMap numT = T9 ++ (numsOf x).flatMap numT ∧ T2.length ≤ 8388616 + 8 * j ∧ T2 ≠ [] ∧ wq.ownsRow w9.heap.size 3 1 (.slice NA nN nc) nN ((numsOf x).map (Value.int .i64)) ∧ Upd Nob w2 wq)
      case atStart => exact ⟨0, T9, A9, c9, by omega, rfl, rfl, HT10.out, rfl, by omega, cat_ne H9 (cat_ne H3 HNe.out), HO10.out, HU10.out⟩
      case round =>
        obtain ⟨j, T2, A2, c3, hj, rfl, rfl, ho2, hq2, hb2l, hne2, ho3, hU2⟩ := hrel
        have HO2 := hideP ho2
        have HQ2 := hideP hq2
        have HN3 := hideP ho3
        have HU2 := hideP hU2
        have HNe2 := hideP hne2
        have hsz2' := hU2.size
        clear ho2 hq2 hU2 hne2
        by_cases hjl : j < nN
        · have g2 : (j : Int) < (nN : Int) := by omega
          obtain ⟨ad2, u, rfl, -, -, hu, hcell⟩ := (Reads.of_own ho3).at1 hjl
          simp only [List.getElem?_map, Option.map_eq_some_iff] at hu
          obtain ⟨n0, hn0, rfl⟩ := hu
          obtain ⟨z0, z1⟩ := HNI.out n0 (List.mem_of_getElem? hn0)
          have HFD := hideP (flat_drop numT hn0)
          have hn1 : ((numsOf x).map (Value.int .i64))[j]? = some (.int .i64 n0) := by rw [List.getElem?_map, hn0]; rfl
          have HN1 := hideP hn1
          clear hn1
          obtain ⟨n1, rfl⟩ := Int.eq_ofNat_of_zero_le z0
          have HJ := hideP hj
          clear hn0 ho3 hj
          go_wp2_with (at_builtin; refine text_byte rfl _ _ rfl w2.heap.size _ _ T2 rfl wr 32 rfl HO2.out 32 rfl rfl ?f1 hsz2' ?_)
          case f1 => omega
          intro A11 c11 w11 T11 H11 o11 u11
          have HO11 := hideP o11
          have HU11 := hideP (HO2.out.step HU2.out u11)
          have HN11 := hideP (own_upd HN3.out u11 (fun b hb h => by
              obtain ⟨cur, hcur, -⟩ := own_cells HN3.out hb
              exact OwnT.ne HO2.out hcur (by decide) h))
          have hl11 := cat_len H11
          have hs11 := HU11.out.size
          simp only [List.length_cons, List.length_nil] at hl11
          clear o11 u11 hcell
          have hcell : w11.cell? (ad2.add j) = some (.int .i64 (n1 : Int)) := by
            obtain ⟨ad3, u, he, -, -, hu, hcell⟩ := (Reads.of_own HN11.out).at1 hjl
            injection he with he
            subst he
            rw [HN1.out] at hu
            injection hu with hu
            rw [hu]
            exact hcell
          have hp4 := dec_len (n := n1) (by omega)
          go_wp2_with (go_at_call 48; refine (decimal_text _ w2.heap.size _ _ T11 n1 HO11.out hs11 (by omega) (by omega)).mono ?_; rintro e w12 ⟨A12, c12, T12, H12, rfl, o12, u12⟩; have HO12 := hideP o12; have HU12 := hideP u12; have hl12 := cat_len H12; clear o12 u12)
          have hj := HJ.out
          go_roundg (nN - (j + 1))
          case measure => omega
          case rel => exact ⟨j + 1, T12, A12, c12, by omega, by go_num, rfl, HO12.out, by
            have h := HQ2.out
            rw [HFD.out] at h
            rw [← H12.out, ← H11.out, ← h]
            simp [numT], by omega, cat_ne H12 (cat_ne H11 HNe2.out), own_upd HN11.out HU12.out (fun b hb h => by
              obtain ⟨cur, hcur, -⟩ := own_cells HN11.out hb
              exact OwnT.ne HO11.out hcur (by decide) h), HO11.out.step HU11.out HU12.out⟩
        · have g2 : ¬ (j : Int) < (nN : Int) := by omega
          obtain rfl : j = nN := by omega
          have hb3 : T2 = T9 ++ (numsOf x).flatMap numT := by
            have h := HQ2.out
            rw [List.drop_of_length_le (by rw [HNN.out]; exact Nat.le_refl _)] at h
            simpa using h
          have HB3 := hideP hb3
          clear hb3 hj ho3
          go_upto_region 22 with fail
          go_wp2_with (at_builtin; refine text_byte rfl _ _ rfl w2.heap.size _ _ T2 rfl wr 10 rfl HO2.out 10 rfl rfl ?g1 hsz2' ?_)
          case g1 => omega
          intro A13 c13 w13 T13 H13 o13 u13
          have HO13 := hideP o13
          have HU13 := hideP (HO2.out.step HU2.out u13)
          have hl13 := cat_len H13
          have hs13 := HU13.out.size
          have HLN := hideP (show T13 = T ++ lineT x by
            rw [← H13.out, HB3.out, ← H9.out, ← H3.out]
            simp [lineT])
          have HNE13 := hideP (cat_ne H13 HNe2.out)
          simp only [List.length_cons, List.length_nil] at hl13
          clear o13 u13
          by_cases hbig : 8388608 < T13.length
          · have hbig' : (8388608 : Int) < (T13.length : Int) := by omega
            have HNO := hideP (show linesT is T8 = none by rw [← HQ.out, HST.out, ← HLN.out, if_pos hbig])
            go_wp2_with fail
            try go_ret
            exact HP.out ([], 3) _ (by rw [HB.out, HNO.out]) (HU.out.trans HU13.out (fun _ _ h => h))
          · have hbig' : ¬ (8388608 : Int) < (T13.length : Int) := by omega
            have HYES := hideP (show linesT (is.drop (k + 1)) T13 = linesT is T8 by rw [← HQ.out, HST.out, ← HLN.out, if_neg hbig])
            go_wp2_with fail
            have hk := HK.out
            go_roundg (is.length - (k + 1))
            case measure => omega
            case rel => exact ⟨k + 1, T13, A13, c13, by omega, by go_num, rfl, HO13.out, HYES.out, by omega, HNE13.out, HU13.out⟩
    · have g1 : ¬ (k : Int) < (is.length : Int) := by omega
      have cb : wr.cell? ⟨w.heap.size, 0, none⟩ = some (.slice A is.length c) := (HC.out.upd hU not_nob).cellv rfl
      obtain rfl : k = is.length := by omega
      have HY := hideP (show linesT is T8 = some T by rw [← HQ.out, List.drop_length]; rfl)
      have hcv := text_string HOo.out HNe.out
      clear hk
      go_wp2_with fail
      try go_ret
      exact HP.out (T, 0) _ (by rw [HB.out, HY.out]) (HU.out.trans HUu.out (fun _ _ h => h))
end Go.Proofs.YtdbdokjlcdogiaaDoor
