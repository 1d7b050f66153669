/-
  The walk of heronlaw08.MirrorBacks.
-/
import Derived.Test.YtlaofcgllchedaaAwake
import Derived.Laws.CopyOwn
namespace Go.Proofs.Ytlaofcgllchedaa
open Go.RowKit
set_option linter.unusedVariables false

theorem zeros_two (xs : List Int) (n : Nat) : intv xs ++ (List.replicate (n + 2) (Value.int .i64 0)).drop (n * 1) = intv (xs ++ [0, 0]) := by
  rw [intv_append, List.drop_replicate, Nat.mul_one]
  congr 1
  rw [show n + 2 - n = 2 by omega]
  rfl
theorem mark_cells {w2 : World} {base g n : Nat} {xs : List Int} (hl : xs.length = n) (o2 : w2.ownsRow base 3 1 (.slice (some ⟨g, 0, none⟩) (n + 2) (n + 2)) (n + 2) (intv xs ++ (List.replicate (n + 2) (Value.int .i64 0)).drop (n * 1))) :
    w2.cell? ⟨g, n, none⟩ = some (.int .i64 0) ∧ w2.frozen? ⟨g, n, none⟩ = false ∧ w2.cell? ⟨g, n + 1, none⟩ = some (.int .i64 0) ∧ w2.frozen? ⟨g, n + 1, none⟩ = false := by
  rw [zeros_two] at o2
  refine ⟨?_, o2.frozenAt n, ?_, o2.frozenAt (n + 1)⟩
  · rw [o2.cellAt n (by omega), intv_append, List.getElem?_append_right (by simp [intv]; omega)]
    simp [intv, hl]
  · rw [o2.cellAt (n + 1) (by omega), intv_append, List.getElem?_append_right (by simp [intv]; omega)]
    simp [intv, hl]
theorem mark_set {xs : List Int} {n : Nat} (hl : xs.length = n) : ((intv (xs ++ [0, 0])).set n (.int .i64 (-77))).set (n + 1) (.int .i64 (-78)) = intv (xs ++ [-77, -78]) := by
  have hil : (intv xs).length = n := by simp [intv, hl]
  rw [intv_append, intv_append, List.set_append_right _ _ (by omega), List.set_append_right _ _ (by omega), hil]
  simp [intv]
theorem in_reads {w : World} {lo rg n : Nat} {xs : List Int} (h : w.ownsRow lo 3 1 (.slice (some ⟨rg, 0, none⟩) (n + 2) (n + 2)) (n + 2) (intv (xs ++ [-77, -78]))) (hl : xs.length = n) : Reads w (fun k => k = rg) 1 (some ⟨rg, 0, none⟩) n (intv xs) := by
  refine ⟨by simp [intv, hl], fun _ => ⟨_, rfl, (h.lt rg rfl).2, rfl, fun j u hj => ?_⟩⟩
  have hjl : j < n := by have := (List.getElem?_eq_some_iff.1 hj).1; simpa [intv, hl] using this
  rw [add_lit_, Nat.zero_add, h.cellAt j (by omega), intv_append, List.getElem?_append_left (by simp [intv, hl]; omega)]
  exact hj
theorem in_marks {w : World} {lo rg n : Nat} {xs : List Int} (h : w.ownsRow lo 3 1 (.slice (some ⟨rg, 0, none⟩) (n + 2) (n + 2)) (n + 2) (intv (xs ++ [-77, -78]))) (hl : xs.length = n) :
    w.cell? ⟨rg, n, none⟩ = some (.int .i64 (-77)) ∧ w.cell? ⟨rg, n + 1, none⟩ = some (.int .i64 (-78)) := by
  refine ⟨?_, ?_⟩
  · rw [h.cellAt n (by omega), intv_append, List.getElem?_append_right (by simp [intv]; omega)]
    simp [intv, hl]
  · rw [h.cellAt (n + 1) (by omega), intv_append, List.getElem?_append_right (by simp [intv]; omega)]
    simp [intv, hl]

theorem reads_drewN {w : World} {S : Nat → Prop} {size n : Nat} {A : Option Addr} {xs : List Value} (h : Reads w S size A n xs) (q : Nat) : Reads (w.drewN q) S size A n xs := h.upd ((Upd.refl Nob w).drewN q) (fun _ _ => not_nob)

set_option maxRecDepth 100000 in
set_option maxHeartbeats 8000000 in
theorem mirrorBacks_any (w : World) (A : Option Addr) (n c : Nat) (xs : List Int) (hx : Reads w (· < w.heap.size) 1 A n (intv xs)) (hn : n * 8 ≤ 140737488351232) :
    Calls Try.prog 3 #[.slice A n c] w fun e w' => e = .returned (.bool true) ∧ Upd Nob w w' := by
  obtain rfl : xs.length = n := by have := hx.1; simpa [intv] using this
  obtain ⟨i0, hi0, hz0, hz1, hz2⟩ := info_parts binfo_int
  have HX := hideP hx
  clear hx
  have hz : (madeCells (Value.int .i64 0).cells ((xs.length + 2) * 1)).toList = List.replicate (xs.length + 2) (.int .i64 0) := by
    have : (Value.int .i64 0).cells = #[Value.int .i64 0] := rfl
    rw [this, toList_madeCells_one, Nat.mul_one]
  have HZ := hideP hz
  clear hz
  go_enter Try.func3, Try.ntmps3
  go_wp2_with fail
  refine (awake_any w).mono ?_
  rintro e w1 ⟨rfl, hU1⟩
  have HX1 := hideP (HX.out.upd hU1 (fun _ _ => not_nob))
  go_wp2_with fail
  refine (refBack_any w1 _ A xs.length c xs HX1.out (by omega)).mono ?_
  rintro e w2 ⟨BW, cW, rfl, oW, hU2⟩
  have HU2 := hideP (hU1.trans hU2 (fun _ _ h => h))
  have HX2 := hideP (HX1.out.upd hU2 (fun _ _ => not_nob))
  have HW := hideP oW
  have LW := hideP (fun (b : Nat) (hb : (Value.slice BW xs.length cW).ownBlock = some b) => oW.lt b hb)
  have z1 := hU1.size
  have z1b := hU2.size
  clear hU1 hU2 oW HX1
  -- from here on printed (gen_backs.py)
  go_upto_region 5 with (first
    | (at_make; refine wpList_make_full w2 rfl _ _ 22 rfl w2.heap.size 3 i0 (.int .i64 0) 1 Try.underlying22 hi0 hz0 hz1 .i64 .i64 ((xs.length : Int) + 2) ((xs.length : Int) + 2) (xs.length + 2) rfl rfl (by omega) (by omega) (by rw [hz2]; omega) (by unfold maxLen; omega) (Nat.le_refl _) ?_; intro wa oa hga; rw [HZ.out] at oa; have hra := HX2.out.upd ((Upd.refl Nob w2).grown hga (by simp)) (fun _ _ => not_nob))
    | ((with_reducible show wpList _ _ _ _ _ _); refine wpList_copy_reads rfl _ _ 22 22 rfl w2.heap.size 3 i0 1 Try.underlying22 hi0 hz1 w2.heap.size (xs.length + 2) (xs.length + 2) _ rfl oa _ A xs.length c (intv xs) rfl hra (intv_one xs) (by omega) ?_; intro wb ob hgb))
  obtain ⟨b0, b1, b2, b3⟩ := mark_cells rfl ob
  have hUb : Upd Nob w2 wb := ((Upd.refl Nob w2).grown hga (by simp)).grown hgb (fun k hk hlt => by injection hk with hk; omega)
  have hUd := (hUb.setCell ⟨w2.heap.size, xs.length, none⟩ (.int .i64 (-77)) (fun hlt => by simp at hlt)).setCell ⟨w2.heap.size, xs.length + 1, none⟩ (.int .i64 (-78)) (fun hlt => by simp at hlt)
  have hRow : ((wb.setCell ⟨w2.heap.size, xs.length, none⟩ (.int .i64 (-77))).setCell ⟨w2.heap.size, xs.length + 1, none⟩ (.int .i64 (-78))).ownsRow w2.heap.size 3 1 (.slice (some ⟨w2.heap.size, 0, none⟩) (xs.length + 2) (xs.length + 2)) (xs.length + 2) (intv (xs ++ [-77, -78])) := by
    have o2 := ob
    rw [zeros_two] at o2
    have o3 := (((o2.stored xs.length (.int .i64 (-77))).1.stored (xs.length + 1) (.int .i64 (-78))).1)
    rw [mark_set rfl] at o3
    exact o3
  have HI := hideP hRow
  have HX3 := hideP (HX2.out.upd hUd (fun _ _ => not_nob))
  have HW := hideP (own_upd HW.out hUd (fun _ _ => not_nob))
  have HU3 := hideP (HU2.out.trans hUd (fun _ _ h => h))
  have zz2 := hUd.size
  clear hUb hUd hRow ob oa hga hgb hra HX2 HU2 HZ
  go_upto_region 7 with fail
  generalize (wb.setCell ⟨w2.heap.size, xs.length, none⟩ (.int .i64 (-77))).setCell ⟨w2.heap.size, xs.length + 1, none⟩ (.int .i64 (-78)) = w3 at *
  clear b0 b1 b2 b3
  have hI0 := (HI.out.lt _ rfl).2
  generalize hrg : w2.heap.size = rg at *
  go_wp2_with fail
  refine (back_any w3 _ (some ⟨rg, 0, none⟩) xs.length (xs.length + 2) xs (in_reads HI.out rfl) (by omega)).mono ?_
  rintro e w4 ⟨gA, rfl, oA, U3⟩
  replace HW := hideP (own_upd HW.out U3 (fun _ _ => not_nob))
  replace HI := hideP (own_upd HI.out U3 (fun _ _ => not_nob))
  have HX4 := hideP (HX3.out.upd U3 (fun _ _ => not_nob))
  have HU4 := hideP (HU3.out.trans U3 (fun _ _ h => h))
  have zz3 := U3.size
  clear HX3 HU3 U3
  have HA := hideP oA
  have lA := oA.lt _ rfl
  clear oA
  go_wp2_with fail
  refine (back_any w4 _ (some ⟨rg, 0, none⟩) xs.length (xs.length + 2) xs (in_reads HI.out rfl) (by omega)).mono ?_
  rintro e w5 ⟨gB, rfl, oB, U4⟩
  replace HW := hideP (own_upd HW.out U4 (fun _ _ => not_nob))
  replace HI := hideP (own_upd HI.out U4 (fun _ _ => not_nob))
  replace HA := hideP (own_upd HA.out U4 (fun _ _ => not_nob))
  have HX5 := hideP (HX4.out.upd U4 (fun _ _ => not_nob))
  have HU5 := hideP (HU4.out.trans U4 (fun _ _ h => h))
  have zz4 := U4.size
  clear HX4 HU4 U4
  have HB := hideP oB
  have lB := oB.lt _ rfl
  clear oB
  go_wp2_with fail
  refine (back_any w5 _ (some ⟨gA, 0, none⟩) xs.length xs.length xs.reverse (Reads.of_own HA.out) (by omega)).mono ?_
  rintro e w6 ⟨gC, rfl, oC, U5⟩
  replace HW := hideP (own_upd HW.out U5 (fun _ _ => not_nob))
  replace HI := hideP (own_upd HI.out U5 (fun _ _ => not_nob))
  replace HA := hideP (own_upd HA.out U5 (fun _ _ => not_nob))
  replace HB := hideP (own_upd HB.out U5 (fun _ _ => not_nob))
  have HX6 := hideP (HX5.out.upd U5 (fun _ _ => not_nob))
  have HU6 := hideP (HU5.out.trans U5 (fun _ _ h => h))
  have zz5 := U5.size
  clear HX5 HU5 U5
  have HC := hideP oC
  have lC := oC.lt _ rfl
  rw [List.reverse_reverse] at oC
  have HC := hideP oC
  clear oC
  go_wp2_with fail
  refine (same_any w6 _ _ (some ⟨gA, 0, none⟩) BW xs.length xs.length xs.length cW xs.reverse xs.reverse (Reads.of_own HA.out) (Reads.of_own HW.out) (by omega)).mono ?_
  rintro e w7 ⟨he, qq, hq⟩
  rw [decide_eq_true rfl] at he
  subst he
  have U6 : Upd Nob w6 w7 := by rw [hq]; exact (Upd.refl _ _).drewN _
  clear hq qq
  replace HW := hideP (own_upd HW.out U6 (fun _ _ => not_nob))
  replace HI := hideP (own_upd HI.out U6 (fun _ _ => not_nob))
  replace HA := hideP (own_upd HA.out U6 (fun _ _ => not_nob))
  replace HB := hideP (own_upd HB.out U6 (fun _ _ => not_nob))
  replace HC := hideP (own_upd HC.out U6 (fun _ _ => not_nob))
  have HX7 := hideP (HX6.out.upd U6 (fun _ _ => not_nob))
  have HU7 := hideP (HU6.out.trans U6 (fun _ _ h => h))
  have zz6 := U6.size
  clear HX6 HU6 U6
  go_wp2_with fail
  refine (same_any w7 _ _ (some ⟨gB, 0, none⟩) BW xs.length xs.length xs.length cW xs.reverse xs.reverse (Reads.of_own HB.out) (Reads.of_own HW.out) (by omega)).mono ?_
  rintro e w8 ⟨he, qq, hq⟩
  rw [decide_eq_true rfl] at he
  subst he
  have U7 : Upd Nob w7 w8 := by rw [hq]; exact (Upd.refl _ _).drewN _
  clear hq qq
  replace HW := hideP (own_upd HW.out U7 (fun _ _ => not_nob))
  replace HI := hideP (own_upd HI.out U7 (fun _ _ => not_nob))
  replace HA := hideP (own_upd HA.out U7 (fun _ _ => not_nob))
  replace HB := hideP (own_upd HB.out U7 (fun _ _ => not_nob))
  replace HC := hideP (own_upd HC.out U7 (fun _ _ => not_nob))
  have HX8 := hideP (HX7.out.upd U7 (fun _ _ => not_nob))
  have HU8 := hideP (HU7.out.trans U7 (fun _ _ h => h))
  have zz7 := U7.size
  clear HX7 HU7 U7
  go_wp2_with fail
  refine (same_any w8 _ _ (some ⟨gC, 0, none⟩) A xs.length xs.length xs.length c xs xs (Reads.of_own HC.out) HX8.out (by omega)).mono ?_
  rintro e w9 ⟨he, qq, hq⟩
  rw [decide_eq_true rfl] at he
  subst he
  have U8 : Upd Nob w8 w9 := by rw [hq]; exact (Upd.refl _ _).drewN _
  clear hq qq
  replace HW := hideP (own_upd HW.out U8 (fun _ _ => not_nob))
  replace HI := hideP (own_upd HI.out U8 (fun _ _ => not_nob))
  replace HA := hideP (own_upd HA.out U8 (fun _ _ => not_nob))
  replace HB := hideP (own_upd HB.out U8 (fun _ _ => not_nob))
  replace HC := hideP (own_upd HC.out U8 (fun _ _ => not_nob))
  have HX9 := hideP (HX8.out.upd U8 (fun _ _ => not_nob))
  have HU9 := hideP (HU8.out.trans U8 (fun _ _ h => h))
  have zz8 := U8.size
  clear HX8 HU8 U8
  go_wp2_with fail
  refine (same_any w9 _ _ (some ⟨rg, 0, none⟩) A xs.length xs.length (xs.length + 2) c xs xs (in_reads HI.out rfl) HX9.out (by omega)).mono ?_
  rintro e w10 ⟨he, qq, hq⟩
  rw [decide_eq_true rfl] at he
  subst he
  have U9 : Upd Nob w9 w10 := by rw [hq]; exact (Upd.refl _ _).drewN _
  clear hq qq
  replace HW := hideP (own_upd HW.out U9 (fun _ _ => not_nob))
  replace HI := hideP (own_upd HI.out U9 (fun _ _ => not_nob))
  replace HA := hideP (own_upd HA.out U9 (fun _ _ => not_nob))
  replace HB := hideP (own_upd HB.out U9 (fun _ _ => not_nob))
  replace HC := hideP (own_upd HC.out U9 (fun _ _ => not_nob))
  have HX10 := hideP (HX9.out.upd U9 (fun _ _ => not_nob))
  have HU10 := hideP (HU9.out.trans U9 (fun _ _ h => h))
  have zz9 := U9.size
  clear HX9 HU9 U9
  obtain ⟨m0, m1⟩ := in_marks HI.out rfl
  go_wp2_with fail
  clear m0 m1
  have hIv := HI.out
  -- a is written over
  go_loopg [13] xs.length (fun gk v13 wr => ∃ (i : Nat) (ys : List Value), i + gk = xs.length ∧ v13 = .int .i64 (i : Int) ∧ wr.ownsRow w3.heap.size 3 1 (.slice (some ⟨gA, 0, none⟩) xs.length xs.length) xs.length ys ∧ Upd (fun b => b = gA) w10 wr)
  case atStart => exact ⟨0, _, by omega, rfl, HA.out, Upd.refl _ _⟩
  case round =>
    obtain ⟨i, ys, hk, rfl, hO, hUr⟩ := hrel
    by_cases hlt : i < xs.length
    · have g1 : (i : Int) < (xs.length : Int) := by omega
      have fz : wr.frozen? ⟨gA, i, none⟩ = false := hO.frozenAt i
      obtain ⟨u, cu⟩ : ∃ u, wr.cell? ⟨gA, i, none⟩ = some u := by
        have h1 := hO.cellAt i (by omega)
        rw [List.getElem?_eq_getElem (by have := hO.1; omega)] at h1
        exact ⟨_, h1⟩
      have HO := hideP (hO.stored i (.int .i64 (-9))).1
      have HUr := hideP (hUr.setCell ⟨gA, i, none⟩ (.int .i64 (-9)) (fun _ => rfl))
      clear hO hUr
      go_wp2_with fail
      go_roundg (xs.length - (i + 1))
      case measure => omega
      case rel => exact ⟨i + 1, _, by omega, by go_num, HO.out, HUr.out⟩
    have g1 : ¬ (i : Int) < (xs.length : Int) := by omega
    obtain rfl : i = xs.length := by omega
    have HO := hideP hO
    have HW9 := hideP (HW.out)
    have hUa := hUr
    have HUA := hideP hUr
    have szr := hUr.size
    have HXr := hideP (HX10.out.upd hUr (fun b hb => by have := (HU10.out).size; (try simp only at hb); omega))
    clear hO hUr hUa g1 hlt hk
    go_wp2_with fail
    obtain ⟨wA, hwA⟩ : ∃ wA, wA = wr := ⟨_, rfl⟩
    rw [← hwA]
    rw [← hwA] at HO HUA szr HXr
    clear hwA
    -- a grows
    go_loopg [6, 14] 9 (fun gk v6 v14 wr => ∃ (i : Nat) (B : Option Addr) (d : Nat) (ys : List Value), i + gk = 9 ∧ v14 = .int .i64 (i : Int) ∧ v6 = .slice B (xs.length + i) d ∧ wr.ownsRow w3.heap.size 3 1 (.slice B (xs.length + i) d) (xs.length + i) ys ∧ (∀ b, (Value.slice B (xs.length + i) d).ownBlock = some b → b = gA ∨ wA.heap.size ≤ b) ∧ Upd (fun b => b = gA) wA wr)
    case atStart => exact ⟨0, _, _, _, by omega, rfl, rfl, HO.out, fun b hb => .inl (by simpa [Value.ownBlock] using hb.symm), Upd.refl _ _⟩
    case round =>
      obtain ⟨i, B, d, ys, hk, rfl, rfl, hO, hB, hUr⟩ := hrel
      by_cases hlt : i < 9
      · have g1 : (i : Int) < 9 := by omega
        have HO := hideP hO
        have HB9 := hideP hB
        have HUr := hideP hUr
        have hsz := hUr.size
        clear hO hB hUr
        go_wp2_with (at_builtin; refine wpList_append_own_at _ rfl _ _ 22 rfl w3.heap.size 3 i0 (.int .i64 0) 1 8 Try.underlying22 hi0 hz0 hz1 hz2 rfl (by decide) _ _ _ rfl (HO.out.alloc _) ⟨wr.heap.size, 0, none⟩ 1 1 [(.int .i64 (-9))] rfl rfl ?d1 ?d2 ?d3 ?d4 ?d5 ?_)
        case d1 => exact World.news_of_block (cs := #[(.int .i64 (-9))]) (t := 3) (fr := (0, 0)) (heap_alloc_new _ _)
        case d2 => first | rfl | exact ⟨rfl⟩ | trivial | (intro u hu; simp at hu; subst hu; rfl) | simp
        case d3 => unfold maxLen; omega
        case d4 => omega
        case d5 => simp; omega
        intro v8 w8 o8 g8 _ hat
        obtain ⟨A8, c8, rfl⟩ := own_shape o8
        have hU8 := HUr.out.trans (((Upd.refl (fun b => (Value.slice B (xs.length + i) d).ownBlock = some b) wr).alloc (.cells #[(.int .i64 (-9))] 3)).grown g8 (fun b hb _ => hb)) (fun b hb h => by rcases HB9.out b h with h | h; exact h; omega)
        have hB8 : ∀ b, (Value.slice A8 (xs.length + i + 1) c8).ownBlock = some b → b = gA ∨ wA.heap.size ≤ b := fun b hb => by
          rcases hat with h | h
          · rw [h] at hb
            exact HB9.out b hb
          · rw [h] at hb
            injection hb with hb
            try simp at hb
            right
            omega
        have HO8 := hideP o8
        have HB8 := hideP hB8
        have HU8 := hideP hU8
        clear o8 g8 hat hU8 hB8
        go_wp2_with fail
        go_roundg (9 - (i + 1))
        case measure => omega
        case rel => exact ⟨i + 1, A8, c8, _, by omega, by go_num, rfl, HO8.out, HB8.out, HU8.out⟩
      have g1 : ¬ (i : Int) < 9 := by omega
      obtain rfl : i = 9 := by omega
      have HUG := hideP hUr
      have HXg := hideP (HXr.out.upd hUr (fun b hb => by have := (HU10.out).size; (try simp only at hb); omega))
      clear hO hB hUr g1 hlt hk
      go_wp2_with fail
      obtain ⟨wG, hwG⟩ : ∃ wG, wG = wr := ⟨_, rfl⟩
      rw [← hwG]
      rw [← hwG] at HUG HXg
      clear hwG
      have hneI : rg ≠ gA := by omega
      have HIg := hideP (own_upd (own_upd HI.out HUA.out (fun b hb => by injection hb with hb; (try simp only at hb); omega)) HUG.out (fun b hb => by injection hb with hb; (try simp only at hb); omega))
      have HBg := hideP (own_upd (own_upd HB.out HUA.out (fun b hb => by injection hb with hb; (try simp only at hb); omega)) HUG.out (fun b hb => by injection hb with hb; (try simp only at hb); omega))
      have HCg := hideP (own_upd (own_upd HC.out HUA.out (fun b hb => by injection hb with hb; (try simp only at hb); omega)) HUG.out (fun b hb => by injection hb with hb; (try simp only at hb); omega))
      have HWg := hideP (own_upd (own_upd HW.out HUA.out (fun b hb => by have := (LW.out b hb); omega)) HUG.out (fun b hb => by have := (LW.out b hb); omega))
      -- in is written over
      go_loopg [15] (xs.length + 2) (fun gk v15 wr => ∃ (i : Nat) (ys : List Value), i + gk = xs.length + 2 ∧ v15 = .int .i64 (i : Int) ∧ wr.ownsRow rg 3 1 (.slice (some ⟨rg, 0, none⟩) (xs.length + 2) (xs.length + 2)) (xs.length + 2) ys ∧ Upd (fun b => b = rg) wG wr)
      case atStart => exact ⟨0, _, by omega, rfl, HIg.out, Upd.refl _ _⟩
      case round =>
        obtain ⟨i, ys, hk, rfl, hO, hUr⟩ := hrel
        by_cases hlt : i < xs.length + 2
        · have g1 : (i : Int) < (xs.length : Int) + 2 := by omega
          have fz : wr.frozen? ⟨rg, i, none⟩ = false := hO.frozenAt i
          obtain ⟨u, cu⟩ : ∃ u, wr.cell? ⟨rg, i, none⟩ = some u := by
            have h1 := hO.cellAt i (by omega)
            rw [List.getElem?_eq_getElem (by have := hO.1; omega)] at h1
            exact ⟨_, h1⟩
          have HO := hideP (hO.stored i (.int .i64 (-5))).1
          have HUr := hideP (hUr.setCell ⟨rg, i, none⟩ (.int .i64 (-5)) (fun _ => rfl))
          clear hO hUr
          go_wp2_with fail
          go_roundg (xs.length + 2 - (i + 1))
          case measure => omega
          case rel => exact ⟨i + 1, _, by omega, by go_num, HO.out, HUr.out⟩
        have g1 : ¬ (i : Int) < (xs.length : Int) + 2 := by omega
        have HBz := hideP (own_upd HBg.out hUr (fun b hb => by injection hb with hb; (try simp only at hb); omega))
        have HCz := hideP (own_upd HCg.out hUr (fun b hb => by injection hb with hb; (try simp only at hb); omega))
        have HWz := hideP (own_upd HWg.out hUr (fun b hb => by have := (LW.out b hb); omega))
        have HXz := hideP (HXg.out.upd hUr (fun b hb => by have := (HU10.out).size; (try simp only at hb); omega))
        have HUz := hideP ((((HU10.out.trans HUA.out (fun b hb h => by omega)).trans HUG.out (fun b hb h => by omega))).trans hUr (fun b hb h => by omega))
        clear hO hUr
        obtain rfl : i = xs.length + 2 := by omega
        clear hk hlt
        go_wp2_with fail
        refine (same_any wr _ _ (some ⟨gB, 0, none⟩) BW xs.length xs.length xs.length cW xs.reverse xs.reverse (Reads.of_own HBz.out) (Reads.of_own HWz.out) (by omega)).mono ?_
        rintro e wy ⟨he, q1, rfl⟩
        rw [decide_eq_true rfl] at he
        subst he
        go_wp2_with fail
        refine (same_any _ _ _ (some ⟨gC, 0, none⟩) A xs.length xs.length xs.length c xs xs (reads_drewN (Reads.of_own HCz.out) q1) (reads_drewN HXz.out q1) (by omega)).mono ?_
        rintro e wz ⟨he, q2, rfl⟩
        rw [decide_eq_true rfl] at he
        subst he
        go_wp2_with fail
        go_ret
        exact ⟨by first | rfl | simp, HUz.out.drewN (q1 + q2)⟩
end Go.Proofs.Ytlaofcgllchedaa
