/-
  The walk of heronlaw11.PikeRuns.
-/
import Derived.Test.YtnkefclbchpafaaRunsS
import Derived.Laws.CopyOwn
namespace Go.Proofs.Ytnkefclbchpafaa
open Go.RowKit
set_option linter.unusedVariables false

theorem zeros_two (xs : List Int) (n : Nat) : intv xs ++ (List.replicate (n + 2) (Value.int .i64 0)).drop (n * 1) = intv (xs ++ [0, 0]) := by
  rw [intv_append, List.drop_replicate, Nat.mul_one]
  congr 1
  rw [show n + 2 - n = 2 by omega]
  rfl
theorem mark_cells {w2 : World} {base g n : Nat} {xs : List Int} (hl : xs.length = n) (o2 : w2.ownsRow base 3 1 (.slice (some ⟨g, 0, none⟩) (n + 2) (n + 2)) (n + 2) (intv xs ++ (List.replicate (n + 2) (Value.int .i64 0)).drop (n * 1))) :
    w2.cell? ⟨g, n, none⟩ = some (.int .i64 0) ∧ w2.frozen? ⟨g, n, none⟩ = false ∧ w2.cell? ⟨g, n + 1, none⟩ = some (.int .i64 0) ∧ w2.frozen? ⟨g, n + 1, none⟩ = false := by
  rw [zeros_two] at o2
  refine ⟨?_, o2.frozenAt n, ?_, o2.frozenAt (n + 1)⟩
  · rw [o2.cellAt n (by omega), intv_append, List.getElem?_append_right (by simp [intv]; omega)]
    simp [intv, hl]
  · rw [o2.cellAt (n + 1) (by omega), intv_append, List.getElem?_append_right (by simp [intv]; omega)]
    simp [intv, hl]
theorem mark_set {xs : List Int} {n : Nat} (hl : xs.length = n) : ((intv (xs ++ [0, 0])).set n (.int .i64 71)).set (n + 1) (.int .i64 72) = intv (xs ++ [71, 72]) := by
  have hil : (intv xs).length = n := by simp [intv, hl]
  rw [intv_append, intv_append, List.set_append_right _ _ (by omega), List.set_append_right _ _ (by omega), hil]
  simp [intv]

set_option maxRecDepth 100000 in
set_option maxHeartbeats 8000000 in
theorem pikeRuns_any (w : World) (A1 A2 T : Option Addr) (n1 c1 n2 c2 tn tc : Nat) (is1 is2 : List PInst) (s1 k1 s2 k2 : Int) (text : List Int) (a : Int) (an : Bool) (hp : InstsR w (· < w.heap.size) A1 n1 is1) (ho : InstsR w (· < w.heap.size) A2 n2 is2) (ht : TextR w (· < w.heap.size) T tn text)
    (i1 : In64 s1) (j1 : In64 k1) (i2 : In64 s2) (j2 : In64 k2) (ia : In64 a) (hb1 : n1 * 56 ≤ 140737488351232) (hb2 : n2 * 56 ≤ 140737488351232) (hr1 : ∀ x ∈ is1, x.rs.length * 16 ≤ 140737488351232) (hbt : tn * 8 ≤ 140737488351232) :
    Calls Try.prog 4 #[.agg #[.slice A1 n1 c1, .int .i64 s1, .int .i64 k1], .agg #[.slice A2 n2 c2, .int .i64 s2, .int .i64 k2], .agg #[.slice T tn tc, .int .i64 a, .bool an]] w fun e w' => e = .returned (.bool true) ∧ Upd Nob w w' := by
  obtain rfl : is1.length = n1 := hp.len
  obtain rfl : is2.length = n2 := ho.len
  obtain rfl : text.length = tn := ht.len
  have HWF := hideP hp.wf
  have HTI := hideP ht.i
  have hsz : ((w.alloc (.cells #[.slice A1 is1.length c1, .int .i64 s1, .int .i64 k1] 27)).alloc (.cells #[.slice A2 is2.length c2, .int .i64 s2, .int .i64 k2] 27)).heap.size = w.heap.size + 1 + 1 := by simp
  have C0 := ((Cells.new w 27 #[.slice A1 is1.length c1, .int .i64 s1, .int .i64 k1]).alloc (.cells #[.slice A2 is2.length c2, .int .i64 s2, .int .i64 k2] 27)).alloc (.cells #[.slice T text.length tc, .int .i64 a, .bool an] 30)
  have C1 := (Cells.new (w.alloc (.cells #[.slice A1 is1.length c1, .int .i64 s1, .int .i64 k1] 27)) 27 #[.slice A2 is2.length c2, .int .i64 s2, .int .i64 k2]).alloc (.cells #[.slice T text.length tc, .int .i64 a, .bool an] 30)
  have C2 := Cells.new ((w.alloc (.cells #[.slice A1 is1.length c1, .int .i64 s1, .int .i64 k1] 27)).alloc (.cells #[.slice A2 is2.length c2, .int .i64 s2, .int .i64 k2] 27)) 30 #[.slice T text.length tc, .int .i64 a, .bool an]
  rw [World.size_alloc] at C1
  rw [hsz] at C2
  have hU := (((Upd.refl Nob w).alloc (.cells #[.slice A1 is1.length c1, .int .i64 s1, .int .i64 k1] 27)).alloc (.cells #[.slice A2 is2.length c2, .int .i64 s2, .int .i64 k2] 27)).alloc (.cells #[.slice T text.length tc, .int .i64 a, .bool an] 30)
  have HP := hideP hp
  have HO := hideP ho
  have HT := hideP ht
  clear hp ho ht hsz
  obtain ⟨i0, hi0, hz0, hz1, hz2⟩ := info_parts oinfo_int
  obtain ⟨⟨⟨foA, stA⟩, erA⟩, EA⟩ : ∃ R, ansF is1 s1 k1 text a an = R := ⟨_, rfl⟩
  obtain ⟨⟨⟨foB, stB⟩, erB⟩, EB⟩ : ∃ R, ansF is2 s2 k2 text a an = R := ⟨_, rfl⟩
  obtain ⟨⟨⟨foD, stD⟩, erD⟩, ED⟩ : ∃ R, ansF (is1.map turnI) s1 k1 (List.replicate text.length 97) a (!an) = R := ⟨_, rfl⟩
  go_enter Try.func4, Try.ntmps4
  go_upto_region 1 with fail
  generalize ((w.alloc (.cells #[.slice A1 is1.length c1, .int .i64 s1, .int .i64 k1] 27)).alloc (.cells #[.slice A2 is2.length c2, .int .i64 s2, .int .i64 k2] 27)).alloc (.cells #[.slice T text.length tc, .int .i64 a, .bool an] 30) = w2 at *
  go_wp2_with fail
  refine (awake_any w2).mono ?_
  rintro e w3 ⟨rfl, hU3⟩
  have hV3 := hU.trans hU3 (fun _ _ h => h)
  have D0 := C0.upd hU3 not_nob
  have D1 := C1.upd hU3 not_nob
  have D2 := C2.upd hU3 not_nob
  have x0 : w3.cell? ⟨w.heap.size + 1 + 1, 0, none⟩ = some (.slice T text.length tc) := D2.cellv rfl
  clear C0 C1 C2 hU hU3
  have hz : (madeCells (Value.int .i64 0).cells ((text.length + 2) * 1)).toList = List.replicate (text.length + 2) (.int .i64 0) := by
    have : (Value.int .i64 0).cells = #[Value.int .i64 0] := rfl
    rw [this, toList_madeCells_one, Nat.mul_one]
  have HZ := hideP hz
  have HT3 := hideP (HT.out.upd hV3 (fun _ _ => not_nob))
  clear hz
  go_upto_region 4 with (first
    | (at_make; refine wpList_make_full w3 rfl _ _ 28 rfl w3.heap.size 3 i0 (.int .i64 0) 1 Try.underlying28 hi0 hz0 hz1 .i64 .i64 ((text.length : Int) + 2) ((text.length : Int) + 2) (text.length + 2) rfl rfl (by omega) (by omega) (by rw [hz2]; omega) (by unfold maxLen; omega) (Nat.le_refl _) ?_; intro wa oa hga; rw [HZ.out] at oa; have hra := HT3.out.r.upd ((Upd.refl Nob w3).grown hga (by simp)) (fun _ _ => not_nob); have xa : wa.cell? ⟨w.heap.size + 1 + 1, 0, none⟩ = some (.slice T text.length tc) := (D2.grown hga (by simp)).cellv rfl)
    | ((with_reducible show wpList _ _ _ _ _ _); refine wpList_copy_reads rfl _ _ 28 28 rfl w3.heap.size 3 i0 1 Try.underlying28 hi0 hz1 w3.heap.size (text.length + 2) (text.length + 2) _ rfl oa _ T text.length tc (intv text) rfl hra (intv_one text) (by omega) ?_; intro wb ob hgb))
  obtain ⟨b0, b1, b2, b3⟩ := mark_cells rfl ob
  have hgs : w.heap.size + 1 + 1 < w3.heap.size := D2.lt
  have hUb : Upd Nob w3 wb := ((Upd.refl Nob w3).grown hga (by simp)).grown hgb (fun k hk hlt => by injection hk with hk; omega)
  have hUc := hUb.setCell ⟨w3.heap.size, text.length, none⟩ (.int .i64 71) (fun hlt => by simp at hlt)
  have hUd := hUc.setCell ⟨w3.heap.size, text.length + 1, none⟩ (.int .i64 72) (fun hlt => by simp at hlt)
  have hRow : ((wb.setCell ⟨w3.heap.size, text.length, none⟩ (.int .i64 71)).setCell ⟨w3.heap.size, text.length + 1, none⟩ (.int .i64 72)).ownsRow w3.heap.size 3 1 (.slice (some ⟨w3.heap.size, 0, none⟩) (text.length + 2) (text.length + 2)) (text.length + 2) (intv (text ++ [71, 72])) := by
    have o2 := ob
    rw [zeros_two] at o2
    have o3 := (((o2.stored text.length (.int .i64 71)).1.stored (text.length + 1) (.int .i64 72)).1)
    rw [mark_set rfl] at o3
    exact o3
  have xb : wb.cell? ⟨w.heap.size + 1 + 1, 0, none⟩ = some (.slice T text.length tc) := (D2.upd hUb not_nob).cellv rfl
  have xc : (wb.setCell ⟨w3.heap.size, text.length, none⟩ (.int .i64 71)).cell? ⟨w.heap.size + 1 + 1, 0, none⟩ = some (.slice T text.length tc) := (D2.upd hUc not_nob).cellv rfl
  have xd : ((wb.setCell ⟨w3.heap.size, text.length, none⟩ (.int .i64 71)).setCell ⟨w3.heap.size, text.length + 1, none⟩ (.int .i64 72)).cell? ⟨w.heap.size + 1 + 1, 0, none⟩ = some (.slice T text.length tc) := (D2.upd hUd not_nob).cellv rfl
  have D0 := D0.upd hUd not_nob
  have D1 := D1.upd hUd not_nob
  have D2 := D2.upd hUd not_nob
  have hV := hV3.trans hUd (fun _ _ h => h)
  have HRow := hideP hRow
  have hzr := hUd.size
  have hrlt := (hRow.lt _ rfl).2
  clear hUb hUc hUd hRow ob oa hga hgb hra xa x0 hV3
  go_upto_region 7 with fail
  generalize (wb.setCell ⟨w3.heap.size, text.length, none⟩ (.int .i64 71)).setCell ⟨w3.heap.size, text.length + 1, none⟩ (.int .i64 72) = w4 at *
  clear xb xc xd b0 b1 b2 b3 HT3 HZ
  generalize hrg : w3.heap.size = rg at *
  have e0 : w4.cell? ⟨w.heap.size, 0, none⟩ = some (.slice A1 is1.length c1) := D0.cellv rfl
  have e1 : w4.cell? ⟨w.heap.size, 0 + 1, none⟩ = some (.int .i64 s1) := D0.cellv rfl
  have e2 : w4.cell? ⟨w.heap.size, 0 + 2, none⟩ = some (.int .i64 k1) := D0.cellv rfl
  go_wp2_with fail
  refine (lentProg_any w4 _ A1 is1.length c1 is1 s1 k1 (HP.out.upd hV (fun _ _ => not_nob)) hb1 hr1).mono ?_
  rintro e w5 ⟨ga, gr, cs, rfl, hL5, hm1, hm2, hU5⟩
  have hga5 : ∀ b, OfLent ga gr is1.length b → w4.heap.size ≤ b ∧ b < w5.heap.size := by
    rintro b (rfl | ⟨i, hi, rfl⟩)
    · exact ⟨hL5.low, hL5.blk.lt⟩
    · exact ⟨((hL5.done i _ hi (List.getElem?_eq_getElem hi)).2.lt (gr i) rfl).1, hL5.lt (Nat.le_refl _) hi⟩
  have hV5 := hV.trans hU5 (fun _ _ h => h)
  have S6 : PR w (w5.alloc (.cells #[.slice (some ⟨ga, 0, none⟩) is1.length (is1.length + 2), .int .i64 s1, .int .i64 k1] 27)) w.heap.size (w.heap.size + 1) (w.heap.size + 1 + 1) w5.heap.size rg w4.heap.size ga rg A1 A2 T c1 c2 tc is1 is2 is1 s1 k1 s2 k2 text text a an gr cs := by
    have hA := (Upd.refl Nob w5).alloc (.cells #[.slice (some ⟨ga, 0, none⟩) is1.length (is1.length + 2), .int .i64 s1, .int .i64 k1] 27)
    exact ⟨(D0.upd hU5 not_nob).upd hA not_nob, (D1.upd hU5 not_nob).upd hA not_nob, (D2.upd hU5 not_nob).upd hA not_nob, Cells.new _ _ _, (LentM.mk hL5 hm1 hm2).old hA (fun _ _ => not_nob), own_upd (own_upd HRow.out hU5 (fun _ _ => not_nob)) hA (fun _ _ => not_nob), (HP.out.upd hV5 (fun _ _ => not_nob)).upd hA (fun _ _ => not_nob), (HO.out.upd hV5 (fun _ _ => not_nob)).upd hA (fun _ _ => not_nob), (HT.out.upd hV5 (fun _ _ => not_nob)).upd hA (fun _ _ => not_nob), hV5.alloc _⟩
  have HG := hideP hga5
  have z5 := hU5.size
  have z6 : (w5.alloc (.cells #[.slice (some ⟨ga, 0, none⟩) is1.length (is1.length + 2), .int .i64 s1, .int .i64 k1] 27)).heap.size = w5.heap.size + 1 := by simp
  clear hU5 hL5 hm1 hm2 hV hV5 D0 D1 D2 e0 e1 e2 hga5 HRow HP HO HT
  simp only
  go_upto_region 8 with fail
  generalize w5.alloc (.cells #[.slice (some ⟨ga, 0, none⟩) is1.length (is1.length + 2), .int .i64 s1, .int .i64 k1] 27) = w6 at *
  generalize hqb : w5.heap.size = qb at *
  clear hqb hrg
  -- the calls in a row (gen_runs.py)
  have e0 : w6.cell? ⟨qb, 0, none⟩ = some (.slice (some ⟨ga, 0, none⟩) is1.length (is1.length + 2)) := S6.x3.cellv rfl
  have e1 : w6.cell? ⟨qb, 0 + 1, none⟩ = some (.int .i64 s1) := S6.x3.cellv rfl
  have e2 : w6.cell? ⟨qb, 0 + 2, none⟩ = some (.int .i64 k1) := S6.x3.cellv rfl
  have x1 : w6.cell? ⟨w.heap.size + 1 + 1, 0 + 1, none⟩ = some (.int .i64 a) := S6.x2.cellv rfl
  have x2 : w6.cell? ⟨w.heap.size + 1 + 1, 0 + 2, none⟩ = some (.bool an) := S6.x2.cellv rfl
  go_wp2_with fail
  refine (pk_run w6 (· < w6.heap.size) (some ⟨ga, 0, none⟩) is1.length (is1.length + 2) is1 s1 k1 (some ⟨rg, 0, none⟩) text.length (text.length + 2) text a an (S6.q.l.insts HWF.out).lower i1 j1 (by omega) (in_text S6.row rfl HTI.out (by omega)).lower ia).mono ?_
  rw [EA]
  rintro e v6 ⟨CA, fnA, fcA, rfl, rfl, hleA, hoA, U6⟩
  have hA6 := (Upd.refl Nob v6).alloc (.cells #[.bool foA.isSome, .slice CA (capsOf foA).length fcA, .int .i64 (whOf foA), .int .i64 (stA : Int)] 33)
  have UU6 := U6.trans hA6 (fun _ _ h => h)
  have zz6 := U6.size
  have yy6 : (v6.alloc (.cells #[.bool foA.isSome, .slice CA (capsOf foA).length fcA, .int .i64 (whOf foA), .int .i64 (stA : Int)] 33)).heap.size = v6.heap.size + 1 := by simp
  have S7 := S6.upd UU6
  have FA := PF.new (st := stA) hoA hleA
  clear hA6 U6 UU6 S6 hoA e0 e1 e2 x1 x2
  simp only
  go_upto_region 9 with fail
  generalize v6.alloc (.cells #[.bool foA.isSome, .slice CA (capsOf foA).length fcA, .int .i64 (whOf foA), .int .i64 (stA : Int)] 33) = w7 at *
  generalize v6.heap.size = fbA at *
  have e0 : w7.cell? ⟨w.heap.size + 1, 0, none⟩ = some (.slice A2 is2.length c2) := S7.x1.cellv rfl
  have e1 : w7.cell? ⟨w.heap.size + 1, 0 + 1, none⟩ = some (.int .i64 s2) := S7.x1.cellv rfl
  have e2 : w7.cell? ⟨w.heap.size + 1, 0 + 2, none⟩ = some (.int .i64 k2) := S7.x1.cellv rfl
  have x1 : w7.cell? ⟨w.heap.size + 1 + 1, 0 + 1, none⟩ = some (.int .i64 a) := S7.x2.cellv rfl
  have x2 : w7.cell? ⟨w.heap.size + 1 + 1, 0 + 2, none⟩ = some (.bool an) := S7.x2.cellv rfl
  go_wp2_with fail
  refine (pk_run w7 (· < w7.heap.size) A2 is2.length c2 is2 s2 k2 (some ⟨rg, 0, none⟩) text.length (text.length + 2) text a an S7.o.lower i2 j2 (by omega) (in_text S7.row rfl HTI.out (by omega)).lower ia).mono ?_
  rw [EB]
  rintro e v7 ⟨CB, fnB, fcB, rfl, rfl, hleB, hoB, U7⟩
  have hA7 := (Upd.refl Nob v7).alloc (.cells #[.bool foB.isSome, .slice CB (capsOf foB).length fcB, .int .i64 (whOf foB), .int .i64 (stB : Int)] 33)
  have UU7 := U7.trans hA7 (fun _ _ h => h)
  have zz7 := U7.size
  have yy7 : (v7.alloc (.cells #[.bool foB.isSome, .slice CB (capsOf foB).length fcB, .int .i64 (whOf foB), .int .i64 (stB : Int)] 33)).heap.size = v7.heap.size + 1 := by simp
  have S8 := S7.upd UU7
  replace FA := FA.upd UU7 (fun _ h => absurd h not_nob) (by omega)
  have FB := PF.new (st := stB) hoB hleB
  clear hA7 U7 UU7 S7 hoB e0 e1 e2 x1 x2
  simp only
  go_upto_region 10 with fail
  generalize v7.alloc (.cells #[.bool foB.isSome, .slice CB (capsOf foB).length fcB, .int .i64 (whOf foB), .int .i64 (stB : Int)] 33) = w8 at *
  generalize v7.heap.size = fbB at *
  have e0 : w8.cell? ⟨qb, 0, none⟩ = some (.slice (some ⟨ga, 0, none⟩) is1.length (is1.length + 2)) := S8.x3.cellv rfl
  have e1 : w8.cell? ⟨qb, 0 + 1, none⟩ = some (.int .i64 s1) := S8.x3.cellv rfl
  have e2 : w8.cell? ⟨qb, 0 + 2, none⟩ = some (.int .i64 k1) := S8.x3.cellv rfl
  have x1 : w8.cell? ⟨w.heap.size + 1 + 1, 0 + 1, none⟩ = some (.int .i64 a) := S8.x2.cellv rfl
  have x2 : w8.cell? ⟨w.heap.size + 1 + 1, 0 + 2, none⟩ = some (.bool an) := S8.x2.cellv rfl
  go_wp2_with fail
  refine (pk_run w8 (· < w8.heap.size) (some ⟨ga, 0, none⟩) is1.length (is1.length + 2) is1 s1 k1 (some ⟨rg, 0, none⟩) text.length (text.length + 2) text a an (S8.q.l.insts HWF.out).lower i1 j1 (by omega) (in_text S8.row rfl HTI.out (by omega)).lower ia).mono ?_
  rw [EA]
  rintro e v8 ⟨CC, fnC, fcC, rfl, rfl, hleC, hoC, U8⟩
  have hA8 := (Upd.refl Nob v8).alloc (.cells #[.bool foA.isSome, .slice CC (capsOf foA).length fcC, .int .i64 (whOf foA), .int .i64 (stA : Int)] 33)
  have UU8 := U8.trans hA8 (fun _ _ h => h)
  have zz8 := U8.size
  have yy8 : (v8.alloc (.cells #[.bool foA.isSome, .slice CC (capsOf foA).length fcC, .int .i64 (whOf foA), .int .i64 (stA : Int)] 33)).heap.size = v8.heap.size + 1 := by simp
  have S9 := S8.upd UU8
  replace FA := FA.upd UU8 (fun _ h => absurd h not_nob) (by omega)
  replace FB := FB.upd UU8 (fun _ h => absurd h not_nob) (by omega)
  have FC := PF.new (st := stA) hoC hleC
  clear hA8 U8 UU8 S8 hoC e0 e1 e2 x1 x2
  simp only
  go_upto_region 11 with fail
  generalize v8.alloc (.cells #[.bool foA.isSome, .slice CC (capsOf foA).length fcC, .int .i64 (whOf foA), .int .i64 (stA : Int)] 33) = w9 at *
  generalize v8.heap.size = fbC at *
  have e0 : w9.cell? ⟨w.heap.size, 0, none⟩ = some (.slice A1 is1.length c1) := S9.x0.cellv rfl
  have e1 : w9.cell? ⟨w.heap.size, 0 + 1, none⟩ = some (.int .i64 s1) := S9.x0.cellv rfl
  have e2 : w9.cell? ⟨w.heap.size, 0 + 2, none⟩ = some (.int .i64 k1) := S9.x0.cellv rfl
  have x0 : w9.cell? ⟨w.heap.size + 1 + 1, 0, none⟩ = some (.slice T text.length tc) := S9.x2.cellv rfl
  have x1 : w9.cell? ⟨w.heap.size + 1 + 1, 0 + 1, none⟩ = some (.int .i64 a) := S9.x2.cellv rfl
  have x2 : w9.cell? ⟨w.heap.size + 1 + 1, 0 + 2, none⟩ = some (.bool an) := S9.x2.cellv rfl
  go_wp2_with fail
  refine (ref_run w9 (· < w.heap.size) A1 is1.length c1 is1 s1 k1 T text.length tc text a an S9.p i1 j1 (by omega) S9.t ia).mono ?_
  rw [EA]
  rintro e v9 ⟨CW, fnW, fcW, whW, rfl, hFW, U9⟩
  obtain ⟨-, hwW, hlW⟩ := hFW.reads_
  simp only at hwW hlW
  subst hwW
  subst hlW
  have hA9 := (Upd.refl Nob v9).alloc (.cells #[.bool foA.isSome, .slice CW (capsOf foA).length fcW, .int .i64 (whOf foA), .int .i64 (stA : Int)] 33)
  have UU9 := U9.trans hA9 (fun _ _ h => h)
  have zz9 := U9.size
  have yy9 : (v9.alloc (.cells #[.bool foA.isSome, .slice CW (capsOf foA).length fcW, .int .i64 (whOf foA), .int .i64 (stA : Int)] 33)).heap.size = v9.heap.size + 1 := by simp
  have S10 := S9.upd UU9
  replace FA := FA.upd UU9 (fun _ h => absurd h not_nob) (by omega)
  replace FB := FB.upd UU9 (fun _ h => absurd h not_nob) (by omega)
  replace FC := FC.upd UU9 (fun _ h => absurd h not_nob) (by omega)
  have FW := RF.new (c := fcW) (st := stA) hFW
  clear hA9 U9 UU9 S9 hFW e0 e1 e2 x1 x2 x0
  simp only
  go_upto_region 12 with fail
  generalize v9.alloc (.cells #[.bool foA.isSome, .slice CW (capsOf foA).length fcW, .int .i64 (whOf foA), .int .i64 (stA : Int)] 33) = w10 at *
  generalize v9.heap.size = fbW at *
  have e0 : w10.cell? ⟨w.heap.size + 1, 0, none⟩ = some (.slice A2 is2.length c2) := S10.x1.cellv rfl
  have e1 : w10.cell? ⟨w.heap.size + 1, 0 + 1, none⟩ = some (.int .i64 s2) := S10.x1.cellv rfl
  have e2 : w10.cell? ⟨w.heap.size + 1, 0 + 2, none⟩ = some (.int .i64 k2) := S10.x1.cellv rfl
  have x0 : w10.cell? ⟨w.heap.size + 1 + 1, 0, none⟩ = some (.slice T text.length tc) := S10.x2.cellv rfl
  have x1 : w10.cell? ⟨w.heap.size + 1 + 1, 0 + 1, none⟩ = some (.int .i64 a) := S10.x2.cellv rfl
  have x2 : w10.cell? ⟨w.heap.size + 1 + 1, 0 + 2, none⟩ = some (.bool an) := S10.x2.cellv rfl
  go_wp2_with fail
  refine (ref_run w10 (· < w.heap.size) A2 is2.length c2 is2 s2 k2 T text.length tc text a an S10.o i2 j2 (by omega) S10.t ia).mono ?_
  rw [EB]
  rintro e v10 ⟨CV, fnV, fcV, whV, rfl, hFV, U10⟩
  obtain ⟨-, hwV, hlV⟩ := hFV.reads_
  simp only at hwV hlV
  subst hwV
  subst hlV
  have hA10 := (Upd.refl Nob v10).alloc (.cells #[.bool foB.isSome, .slice CV (capsOf foB).length fcV, .int .i64 (whOf foB), .int .i64 (stB : Int)] 33)
  have UU10 := U10.trans hA10 (fun _ _ h => h)
  have zz10 := U10.size
  have yy10 : (v10.alloc (.cells #[.bool foB.isSome, .slice CV (capsOf foB).length fcV, .int .i64 (whOf foB), .int .i64 (stB : Int)] 33)).heap.size = v10.heap.size + 1 := by simp
  have S11 := S10.upd UU10
  replace FA := FA.upd UU10 (fun _ h => absurd h not_nob) (by omega)
  replace FB := FB.upd UU10 (fun _ h => absurd h not_nob) (by omega)
  replace FC := FC.upd UU10 (fun _ h => absurd h not_nob) (by omega)
  replace FW := FW.upd UU10
  have FV := RF.new (c := fcV) (st := stB) hFV
  clear hA10 U10 UU10 S10 hFV e0 e1 e2 x1 x2 x0
  simp only
  go_upto_region 13 with fail
  generalize v10.alloc (.cells #[.bool foB.isSome, .slice CV (capsOf foB).length fcV, .int .i64 (whOf foB), .int .i64 (stB : Int)] 33) = w11 at *
  generalize v10.heap.size = fbV at *
  have e0 : w11.cell? ⟨qb, 0, none⟩ = some (.slice (some ⟨ga, 0, none⟩) is1.length (is1.length + 2)) := S11.x3.cellv rfl
  have e1 : w11.cell? ⟨qb, 0 + 1, none⟩ = some (.int .i64 s1) := S11.x3.cellv rfl
  have e2 : w11.cell? ⟨qb, 0 + 2, none⟩ = some (.int .i64 k1) := S11.x3.cellv rfl
  go_wp2_with fail
  refine (keptProg_any w11 w4.heap.size ga is1 gr cs s1 k1 S11.q hb1 hr1).mono ?_
  rintro e w12 ⟨rfl, U11⟩
  have zz11 := U11.size
  have S12 := S11.upd U11
  replace FA := FA.upd U11 (fun _ h => absurd h not_nob) (by omega)
  replace FB := FB.upd U11 (fun _ h => absurd h not_nob) (by omega)
  replace FC := FC.upd U11 (fun _ h => absurd h not_nob) (by omega)
  replace FW := FW.upd U11
  replace FV := FV.upd U11
  clear U11 S11
  clear e0 e1 e2
  have e0 : w12.cell? ⟨qb, 0, none⟩ = some (.slice (some ⟨ga, 0, none⟩) is1.length (is1.length + 2)) := S12.x3.cellv rfl
  have e1 : w12.cell? ⟨qb, 0 + 1, none⟩ = some (.int .i64 s1) := S12.x3.cellv rfl
  have e2 : w12.cell? ⟨qb, 0 + 2, none⟩ = some (.int .i64 k1) := S12.x3.cellv rfl
  have d0 : w12.cell? ⟨w.heap.size, 0, none⟩ = some (.slice A1 is1.length c1) := S12.x0.cellv rfl
  have d1 : w12.cell? ⟨w.heap.size, 0 + 1, none⟩ = some (.int .i64 s1) := S12.x0.cellv rfl
  have d2 : w12.cell? ⟨w.heap.size, 0 + 2, none⟩ = some (.int .i64 k1) := S12.x0.cellv rfl
  go_wp2_with fail
  refine (sameProg_any w12 _ _ (some ⟨ga, 0, none⟩) A1 is1.length (is1.length + 2) c1 is1 s1 k1 (S12.q.l.insts HWF.out) S12.p (by omega)).mono ?_
  rintro e w13 ⟨rfl, U12⟩
  have zz12 := U12.size
  have S13 := S12.upd U12
  replace FA := FA.upd U12 (fun _ h => absurd h not_nob) (by omega)
  replace FB := FB.upd U12 (fun _ h => absurd h not_nob) (by omega)
  replace FC := FC.upd U12 (fun _ h => absurd h not_nob) (by omega)
  replace FW := FW.upd U12
  replace FV := FV.upd U12
  clear U12 S12
  clear e0 e1 e2 d0 d1 d2
  have x0 : w13.cell? ⟨w.heap.size + 1 + 1, 0, none⟩ = some (.slice T text.length tc) := S13.x2.cellv rfl
  go_wp2_with fail
  refine (same_any w13 _ _ (some ⟨rg, 0, none⟩) T text.length text.length (text.length + 2) tc text text (in_text S13.row rfl HTI.out (by omega)).r S13.t.r (by omega)).mono ?_
  rintro e w14 ⟨he, qq, hq⟩
  rw [decide_eq_true rfl] at he
  subst he
  have U13 : Upd Nob w13 w14 := by rw [hq]; exact (Upd.refl _ _).drewN _
  clear hq qq
  have zz13 := U13.size
  have S14 := S13.upd U13
  replace FA := FA.upd U13 (fun _ h => absurd h not_nob) (by omega)
  replace FB := FB.upd U13 (fun _ h => absurd h not_nob) (by omega)
  replace FC := FC.upd U13 (fun _ h => absurd h not_nob) (by omega)
  replace FW := FW.upd U13
  replace FV := FV.upd U13
  clear U13 S13
  clear x0
  have a0 : w14.cell? ⟨fbA, 0, none⟩ = some (.bool foA.isSome) := FA.box.cellv rfl
  have a1 : w14.cell? ⟨fbA, 0 + 1, none⟩ = some (.slice CA (capsOf foA).length fcA) := FA.box.cellv rfl
  have a2 : w14.cell? ⟨fbA, 0 + 2, none⟩ = some (.int .i64 (whOf foA)) := FA.box.cellv rfl
  have a3 : w14.cell? ⟨fbA, 0 + 3, none⟩ = some (.int .i64 (stA : Int)) := FA.box.cellv rfl
  have b0 : w14.cell? ⟨fbW, 0, none⟩ = some (.bool foA.isSome) := FW.box.cellv rfl
  have b1 : w14.cell? ⟨fbW, 0 + 1, none⟩ = some (.slice CW (capsOf foA).length fcW) := FW.box.cellv rfl
  have b2 : w14.cell? ⟨fbW, 0 + 2, none⟩ = some (.int .i64 (whOf foA)) := FW.box.cellv rfl
  have b3 : w14.cell? ⟨fbW, 0 + 3, none⟩ = some (.int .i64 (stA : Int)) := FW.box.cellv rfl
  go_wp2_with fail
  refine (sameFound_any w14 _ _ CA CW _ _ fcA fcW (capsOf foA) foA.isSome (whOf foA) stA FA.reads FW.rd (by omega)).mono ?_
  rintro e w15 ⟨rfl, U14⟩
  have zz14 := U14.size
  have S15 := S14.upd U14
  replace FA := FA.upd U14 (fun _ h => absurd h not_nob) (by omega)
  replace FB := FB.upd U14 (fun _ h => absurd h not_nob) (by omega)
  replace FC := FC.upd U14 (fun _ h => absurd h not_nob) (by omega)
  replace FW := FW.upd U14
  replace FV := FV.upd U14
  clear U14 S14
  clear a0 a1 a2 a3 b0 b1 b2 b3
  have a0 : w15.cell? ⟨fbB, 0, none⟩ = some (.bool foB.isSome) := FB.box.cellv rfl
  have a1 : w15.cell? ⟨fbB, 0 + 1, none⟩ = some (.slice CB (capsOf foB).length fcB) := FB.box.cellv rfl
  have a2 : w15.cell? ⟨fbB, 0 + 2, none⟩ = some (.int .i64 (whOf foB)) := FB.box.cellv rfl
  have a3 : w15.cell? ⟨fbB, 0 + 3, none⟩ = some (.int .i64 (stB : Int)) := FB.box.cellv rfl
  have b0 : w15.cell? ⟨fbV, 0, none⟩ = some (.bool foB.isSome) := FV.box.cellv rfl
  have b1 : w15.cell? ⟨fbV, 0 + 1, none⟩ = some (.slice CV (capsOf foB).length fcV) := FV.box.cellv rfl
  have b2 : w15.cell? ⟨fbV, 0 + 2, none⟩ = some (.int .i64 (whOf foB)) := FV.box.cellv rfl
  have b3 : w15.cell? ⟨fbV, 0 + 3, none⟩ = some (.int .i64 (stB : Int)) := FV.box.cellv rfl
  go_wp2_with fail
  refine (sameFound_any w15 _ _ CB CV _ _ fcB fcV (capsOf foB) foB.isSome (whOf foB) stB FB.reads FV.rd (by omega)).mono ?_
  rintro e w16 ⟨rfl, U15⟩
  have zz15 := U15.size
  have S16 := S15.upd U15
  replace FA := FA.upd U15 (fun _ h => absurd h not_nob) (by omega)
  replace FB := FB.upd U15 (fun _ h => absurd h not_nob) (by omega)
  replace FC := FC.upd U15 (fun _ h => absurd h not_nob) (by omega)
  replace FW := FW.upd U15
  replace FV := FV.upd U15
  clear U15 S15
  clear a0 a1 a2 a3 b0 b1 b2 b3
  have a0 : w16.cell? ⟨fbC, 0, none⟩ = some (.bool foA.isSome) := FC.box.cellv rfl
  have a1 : w16.cell? ⟨fbC, 0 + 1, none⟩ = some (.slice CC (capsOf foA).length fcC) := FC.box.cellv rfl
  have a2 : w16.cell? ⟨fbC, 0 + 2, none⟩ = some (.int .i64 (whOf foA)) := FC.box.cellv rfl
  have a3 : w16.cell? ⟨fbC, 0 + 3, none⟩ = some (.int .i64 (stA : Int)) := FC.box.cellv rfl
  have b0 : w16.cell? ⟨fbW, 0, none⟩ = some (.bool foA.isSome) := FW.box.cellv rfl
  have b1 : w16.cell? ⟨fbW, 0 + 1, none⟩ = some (.slice CW (capsOf foA).length fcW) := FW.box.cellv rfl
  have b2 : w16.cell? ⟨fbW, 0 + 2, none⟩ = some (.int .i64 (whOf foA)) := FW.box.cellv rfl
  have b3 : w16.cell? ⟨fbW, 0 + 3, none⟩ = some (.int .i64 (stA : Int)) := FW.box.cellv rfl
  go_wp2_with fail
  refine (sameFound_any w16 _ _ CC CW _ _ fcC fcW (capsOf foA) foA.isSome (whOf foA) stA FC.reads FW.rd (by omega)).mono ?_
  rintro e w17 ⟨rfl, U16⟩
  have zz16 := U16.size
  have S17 := S16.upd U16
  replace FA := FA.upd U16 (fun _ h => absurd h not_nob) (by omega)
  replace FB := FB.upd U16 (fun _ h => absurd h not_nob) (by omega)
  replace FC := FC.upd U16 (fun _ h => absurd h not_nob) (by omega)
  replace FW := FW.upd U16
  replace FV := FV.upd U16
  clear U16 S16
  clear a0 a1 a2 a3 b0 b1 b2 b3
  clear FW FV
  have x0 : w17.cell? ⟨w.heap.size + 1 + 1, 0, none⟩ = some (.slice T text.length tc) := S17.x2.cellv rfl
  have e0 : w17.cell? ⟨qb, 0, none⟩ = some (.slice (some ⟨ga, 0, none⟩) is1.length (is1.length + 2)) := S17.x3.cellv rfl
  have e1 : w17.cell? ⟨qb, 0 + 1, none⟩ = some (.int .i64 s1) := S17.x3.cellv rfl
  have e2 : w17.cell? ⟨qb, 0 + 2, none⟩ = some (.int .i64 k1) := S17.x3.cellv rfl
  obtain ⟨m0, m1⟩ := in_marks S17.row rfl
  have hx1 : (erA != erA) = false := bne_self_eq_false _
  have hx2 : (erB != erB) = false := bne_self_eq_false _
  go_wp2_with fail
  refine (turnedProg_any w17 w4.heap.size ga is1 gr cs s1 k1 S17.q hb1 hr1).mono ?_
  rintro e w18 ⟨rfl, ⟨cs2, hM⟩, U17⟩
  have hlow : ∀ b, OfLent ga gr is1.length b → rg < b ∧ b < qb := fun b hb => by have := HG.out b hb; omega
  have S18 := S17.turn U17 hM hlow (by omega) (by omega) (by omega) (by omega)
  replace FA := FA.upd U17 (fun b hb => by have := hlow b hb; omega) (by omega)
  replace FB := FB.upd U17 (fun b hb => by have := hlow b hb; omega) (by omega)
  replace FC := FC.upd U17 (fun b hb => by have := hlow b hb; omega) (by omega)
  have zz17 := U17.size
  have HLOW := hideP hlow
  clear U17 S17 hM hlow e0 e1 e2 x0 m0 m1 hx1 hx2
  go_wp2_with fail
  go_loopg [27] text.length (fun gk v27 wr => ∃ (i : Nat) (w19 : World), w19 = wr ∧ i + gk = text.length ∧ v27 = .int .i64 (i : Int) ∧ PR w wr w.heap.size (w.heap.size + 1) (w.heap.size + 1 + 1) qb rg w4.heap.size ga rg A1 A2 T c1 c2 tc is1 is2 (is1.map turnI) s1 k1 s2 k2 text (List.replicate i 97 ++ text.drop i) a an gr cs2 ∧ Upd (fun b => b = rg) w18 wr)
  case atStart => exact ⟨0, _, rfl, by omega, rfl, by rw [show List.replicate 0 97 ++ text.drop 0 = text by simp]; exact S18, Upd.refl _ _⟩
  case round =>
    obtain ⟨i, w19, rfl, hk, rfl, hS, hUr⟩ := hrel
    by_cases hlt : i < text.length
    · have g1 : (i : Int) < (text.length : Int) := by omega
      have hl2 : (List.replicate i 97 ++ text.drop i).length = text.length := by simp; omega
      have fz : w19.frozen? ⟨rg, i, none⟩ = false := hS.row.frozenAt i
      obtain ⟨u, cu⟩ : ∃ u, w19.cell? ⟨rg, i, none⟩ = some u := by
        have h1 := hS.row.cellAt i (by omega)
        rw [List.getElem?_eq_getElem (by have := hS.row.1; omega)] at h1
        exact ⟨_, h1⟩
      have hP := hS.put (i := i) (x := 97) (by omega) (by simp) HLOW.out (by omega) (by omega) (by omega) (by omega) (by omega)
      rw [fill_step hlt] at hP
      have HP9 := hideP hP
      have HU9 := hideP (hUr.setCell ⟨rg, i, none⟩ (.int .i64 97) (fun _ => rfl))
      clear hS hUr hP
      go_wp2_with fail
      go_roundg (text.length - (i + 1))
      case measure => omega
      case rel => exact ⟨i + 1, _, rfl, by omega, by go_num, HP9.out, HU9.out⟩
    · have g1 : ¬ (i : Int) < (text.length : Int) := by omega
      obtain rfl : i = text.length := by omega
      rw [show List.replicate text.length 97 ++ text.drop text.length = List.replicate text.length 97 by simp] at hS
      have S19 := hS
      have zz18 := hUr.size
      have HT97 := hideP (show ∀ x ∈ List.replicate text.length (97 : Int), In64 x from fun x hx => by rw [List.eq_of_mem_replicate hx]; unfold In64; omega)
      replace FA := FA.upd hUr (fun b hb => by subst hb; omega) (by omega)
      replace FB := FB.upd hUr (fun b hb => by subst hb; omega) (by omega)
      replace FC := FC.upd hUr (fun b hb => by subst hb; omega) (by omega)
      clear hUr hS S18 hk hlt
      have e0 : w19.cell? ⟨qb, 0, none⟩ = some (.slice (some ⟨ga, 0, none⟩) is1.length (is1.length + 2)) := S19.x3.cellv rfl
      have e1 : w19.cell? ⟨qb, 0 + 1, none⟩ = some (.int .i64 s1) := S19.x3.cellv rfl
      have e2 : w19.cell? ⟨qb, 0 + 2, none⟩ = some (.int .i64 k1) := S19.x3.cellv rfl
      have x1 : w19.cell? ⟨w.heap.size + 1 + 1, 0 + 1, none⟩ = some (.int .i64 a) := S19.x2.cellv rfl
      have x2 : w19.cell? ⟨w.heap.size + 1 + 1, 0 + 2, none⟩ = some (.bool an) := S19.x2.cellv rfl
      go_wp2_with fail
      refine (ref_run w19 (· < w19.heap.size) (some ⟨ga, 0, none⟩) is1.length (is1.length + 2) (is1.map turnI) s1 k1 (some ⟨rg, 0, none⟩) text.length (text.length + 2) (List.replicate text.length 97) a (!an) (S19.qt HWF.out) i1 j1 (by omega) (in_text S19.row (by simp) HT97.out (by omega)).lower ia).mono ?_
      rw [ED]
      rintro e v19 ⟨CN, fnN, fcN, whN, rfl, hFN, U19⟩
      obtain ⟨-, hwN, hlN⟩ := hFN.reads_
      simp only at hwN hlN
      subst hwN
      subst hlN
      have hA19 := (Upd.refl Nob v19).alloc (.cells #[.bool foD.isSome, .slice CN (capsOf foD).length fcN, .int .i64 (whOf foD), .int .i64 (stD : Int)] 33)
      have UU19 := U19.trans hA19 (fun _ _ h => h)
      have zz19 := U19.size
      have yy19 : (v19.alloc (.cells #[.bool foD.isSome, .slice CN (capsOf foD).length fcN, .int .i64 (whOf foD), .int .i64 (stD : Int)] 33)).heap.size = v19.heap.size + 1 := by simp
      have S20 := S19.upd UU19
      replace FA := FA.upd UU19 (fun _ h => absurd h not_nob) (by omega)
      replace FB := FB.upd UU19 (fun _ h => absurd h not_nob) (by omega)
      replace FC := FC.upd UU19 (fun _ h => absurd h not_nob) (by omega)
      have FN := RF.new (c := fcN) (st := stD) hFN
      clear hA19 U19 UU19 S19 hFN e0 e1 e2 x1 x2
      simp only
      go_upto_region 27 with fail
      generalize v19.alloc (.cells #[.bool foD.isSome, .slice CN (capsOf foD).length fcN, .int .i64 (whOf foD), .int .i64 (stD : Int)] 33) = w20 at *
      generalize v19.heap.size = fbN at *
      have e0 : w20.cell? ⟨qb, 0, none⟩ = some (.slice (some ⟨ga, 0, none⟩) is1.length (is1.length + 2)) := S20.x3.cellv rfl
      have e1 : w20.cell? ⟨qb, 0 + 1, none⟩ = some (.int .i64 s1) := S20.x3.cellv rfl
      have e2 : w20.cell? ⟨qb, 0 + 2, none⟩ = some (.int .i64 k1) := S20.x3.cellv rfl
      have x1 : w20.cell? ⟨w.heap.size + 1 + 1, 0 + 1, none⟩ = some (.int .i64 a) := S20.x2.cellv rfl
      have x2 : w20.cell? ⟨w.heap.size + 1 + 1, 0 + 2, none⟩ = some (.bool an) := S20.x2.cellv rfl
      go_wp2_with fail
      refine (pk_run w20 (· < w20.heap.size) (some ⟨ga, 0, none⟩) is1.length (is1.length + 2) (is1.map turnI) s1 k1 (some ⟨rg, 0, none⟩) text.length (text.length + 2) (List.replicate text.length 97) a (!an) (S20.qt HWF.out) i1 j1 (by omega) (in_text S20.row (by simp) HT97.out (by omega)).lower ia).mono ?_
      rw [ED]
      rintro e v20 ⟨CD, fnD, fcD, rfl, rfl, hleD, hoD, U20⟩
      have hA20 := (Upd.refl Nob v20).alloc (.cells #[.bool foD.isSome, .slice CD (capsOf foD).length fcD, .int .i64 (whOf foD), .int .i64 (stD : Int)] 33)
      have UU20 := U20.trans hA20 (fun _ _ h => h)
      have zz20 := U20.size
      have yy20 : (v20.alloc (.cells #[.bool foD.isSome, .slice CD (capsOf foD).length fcD, .int .i64 (whOf foD), .int .i64 (stD : Int)] 33)).heap.size = v20.heap.size + 1 := by simp
      have S21 := S20.upd UU20
      replace FA := FA.upd UU20 (fun _ h => absurd h not_nob) (by omega)
      replace FB := FB.upd UU20 (fun _ h => absurd h not_nob) (by omega)
      replace FC := FC.upd UU20 (fun _ h => absurd h not_nob) (by omega)
      replace FN := FN.upd UU20
      have FD := PF.new (st := stD) hoD hleD
      clear hA20 U20 UU20 S20 hoD e0 e1 e2 x1 x2
      simp only
      go_upto_region 28 with fail
      generalize v20.alloc (.cells #[.bool foD.isSome, .slice CD (capsOf foD).length fcD, .int .i64 (whOf foD), .int .i64 (stD : Int)] 33) = w21 at *
      generalize v20.heap.size = fbD at *
      have a0 : w21.cell? ⟨fbD, 0, none⟩ = some (.bool foD.isSome) := FD.box.cellv rfl
      have a1 : w21.cell? ⟨fbD, 0 + 1, none⟩ = some (.slice CD (capsOf foD).length fcD) := FD.box.cellv rfl
      have a2 : w21.cell? ⟨fbD, 0 + 2, none⟩ = some (.int .i64 (whOf foD)) := FD.box.cellv rfl
      have a3 : w21.cell? ⟨fbD, 0 + 3, none⟩ = some (.int .i64 (stD : Int)) := FD.box.cellv rfl
      have b0 : w21.cell? ⟨fbN, 0, none⟩ = some (.bool foD.isSome) := FN.box.cellv rfl
      have b1 : w21.cell? ⟨fbN, 0 + 1, none⟩ = some (.slice CN (capsOf foD).length fcN) := FN.box.cellv rfl
      have b2 : w21.cell? ⟨fbN, 0 + 2, none⟩ = some (.int .i64 (whOf foD)) := FN.box.cellv rfl
      have b3 : w21.cell? ⟨fbN, 0 + 3, none⟩ = some (.int .i64 (stD : Int)) := FN.box.cellv rfl
      go_wp2_with fail
      refine (sameFound_any w21 _ _ CD CN _ _ fcD fcN (capsOf foD) foD.isSome (whOf foD) stD FD.reads FN.rd (by omega)).mono ?_
      rintro e w22 ⟨rfl, U21⟩
      have zz21 := U21.size
      have S22 := S21.upd U21
      replace FA := FA.upd U21 (fun _ h => absurd h not_nob) (by omega)
      replace FB := FB.upd U21 (fun _ h => absurd h not_nob) (by omega)
      replace FC := FC.upd U21 (fun _ h => absurd h not_nob) (by omega)
      replace FD := FD.upd U21 (fun _ h => absurd h not_nob) (by omega)
      replace FN := FN.upd U21
      clear U21 S21
      clear a0 a1 a2 a3 b0 b1 b2 b3
      have aA : w22.cell? ⟨fbA, 0 + 1, none⟩ = some (.slice CA (capsOf foA).length fcA) := FA.box.cellv rfl
      have aB : w22.cell? ⟨fbB, 0 + 1, none⟩ = some (.slice CB (capsOf foB).length fcB) := FB.box.cellv rfl
      have aC : w22.cell? ⟨fbC, 0 + 1, none⟩ = some (.slice CC (capsOf foA).length fcC) := FC.box.cellv rfl
      have aD : w22.cell? ⟨fbD, 0 + 1, none⟩ = some (.slice CD (capsOf foD).length fcD) := FD.box.cellv rfl
      have hxt : (erD == erD) = true := beq_self_eq_true _
      go_wp2_with fail
      have hRows := rows4 FA.row FB.row FC.row FD.row (by omega) (by omega) (by omega) (by omega) (by omega) (by simp only; omega) (by simp only; omega) (by simp only; omega) (by simp only; omega)
      refine (owned_any _ _ 4 _ hRows).mono ?_
      rintro e wz ⟨rfl, hUz⟩
      have HUZ := hideP ((S22.u.alloc (.cells #[rowV (CA, (capsOf foA).length, fcA), rowV (CB, (capsOf foB).length, fcB), rowV (CC, (capsOf foA).length, fcC), rowV (CD, (capsOf foD).length, fcD)] 28)).trans hUz (fun b hb h => absurd hb (by
        obtain ⟨r, hr, hrb⟩ := h
        simp only [List.mem_cons, List.not_mem_nil, or_false] at hr
        rcases hr with rfl | rfl | rfl | rfl
        · have := FA.row.2 b hrb; omega
        · have := FB.row.2 b hrb; omega
        · have := FC.row.2 b hrb; omega
        · have := FD.row.2 b hrb; omega)))
      clear hUz hRows
      go_wp2_with fail
      go_ret
      exact ⟨congrArg Ending.returned (congrArg Value.bool (by first | rfl | simp)), HUZ.out⟩
end Go.Proofs.Ytnkefclbchpafaa
