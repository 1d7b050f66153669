/-
  The walk of pike.Run.
-/
import Derived.Test.YtnkefclbchpafaaPkL
import Derived.Deep.RegionHeld3
namespace Go.Proofs.Ytnkefclbchpafaa
open Go.RowKit
set_option linter.unusedVariables false

set_option maxRecDepth 100000 in
set_option maxHeartbeats 8000000 in
theorem pk_run (w : World) (S : Nat → Prop) (A : Option Addr) (n c : Nat) (is : List PInst) (start caps : Int) (T : Option Addr) (tn tc : Nat) (text : List Int) (a : Int) (anchored : Bool)
    (h : InstsR w S A n is) (hs : In64 start) (hc : In64 caps) (hn : n ≤ 140737488355328) (ht : TextR w S T tn text) (ha : In64 a) :
    Calls Try.prog 11 #[.agg #[.slice A n c, .int .i64 start, .int .i64 caps], .slice T tn tc, .int .i64 a, .bool anchored] w (PkPost w (ansF is start caps text a anchored)) := by
  obtain rfl : is.length = n := h.len
  obtain rfl : text.length = tn := ht.len
  have C0 : Cells (w.alloc (.cells #[.slice A is.length c, .int .i64 start, .int .i64 caps] 27)) w.heap.size 27 #[.slice A is.length c, .int .i64 start, .int .i64 caps] := Cells.new _ _ _
  have C1 : Cells ((w.alloc (.cells #[.slice A is.length c, .int .i64 start, .int .i64 caps] 27)).alloc (.cells #[.bool false, .slice none 0 0, .int .i64 0, .int .i64 0] 33)) (w.heap.size + 1) 33 #[.bool false, .slice none 0 0, .int .i64 0, .int .i64 0] := by
    have h := Cells.new (w.alloc (.cells #[.slice A is.length c, .int .i64 start, .int .i64 caps] 27)) 33 #[.bool false, .slice none 0 0, .int .i64 0, .int .i64 0]
    have e : (w.alloc (.cells #[.slice A is.length c, .int .i64 start, .int .i64 caps] 27)).heap.size = w.heap.size + 1 := by simp
    rwa [e] at h
  have C0' := C0.alloc (.cells #[.bool false, .slice none 0 0, .int .i64 0, .int .i64 0] 33)
  have hU := ((Upd.refl Nob w).alloc (.cells #[.slice A is.length c, .int .i64 start, .int .i64 caps] 27)).alloc (.cells #[.bool false, .slice none 0 0, .int .i64 0, .int .i64 0] 33)
  have H := hideP h.lower
  have HT := hideP ht.lower
  have h64 := ht.n
  clear h ht C0
  go_enter Try.func11, Try.ntmps11
  go_upto_region 1 with fail
  generalize (w.alloc (.cells #[.slice A is.length c, .int .i64 start, .int .i64 caps] 27)).alloc (.cells #[.bool false, .slice none 0 0, .int .i64 0, .int .i64 0] 33) = w2 at *
  have hpl := C0'.lt
  have hrl := C1.lt
  have hU2 := hideP hU
  clear hU
  have HC0 := hideP C0'
  have HC1 := hideP C1
  have e0 : w2.cell? ⟨w.heap.size, 0, none⟩ = some (.slice A is.length c) := C0'.cellv rfl
  have e1 : w2.cell? ⟨w.heap.size, 0 + 1, none⟩ = some (.int .i64 start) := C0'.cellv rfl
  have e2 : w2.cell? ⟨w.heap.size, 0 + 2, none⟩ = some (.int .i64 caps) := C0'.cellv rfl
  have r0 : w2.cell? ⟨w.heap.size + 1, 0, none⟩ = some (.bool false) := C1.cellv rfl
  have r1 : w2.cell? ⟨w.heap.size + 1, 0 + 1, none⟩ = some (.slice none 0 0) := C1.cellv rfl
  have r2 : w2.cell? ⟨w.heap.size + 1, 0 + 2, none⟩ = some (.int .i64 0) := C1.cellv rfl
  have r3 : w2.cell? ⟨w.heap.size + 1, 0 + 3, none⟩ = some (.int .i64 0) := C1.cellv rfl
  have f0 : w2.frozen? ⟨w.heap.size + 1, 0, none⟩ = false := C1.frozen 0
  have f1 : w2.frozen? ⟨w.heap.size + 1, 0 + 1, none⟩ = false := C1.frozen 1
  have f2 : w2.frozen? ⟨w.heap.size + 1, 0 + 2, none⟩ = false := C1.frozen 2
  have f3 : w2.frozen? ⟨w.heap.size + 1, 0 + 3, none⟩ = false := C1.frozen 3
  clear C0' C1
  by_cases hl : 4194304 < text.length
  · have hA : ansF is start caps text a anchored = ((none, 0), 2) := if_pos hl
    have HA := hideP hA
    clear hA
    have hl2 : (4194304 : Int) < (text.length : Int) := by omega
    have D := (((HC1.out.set_ 0 (.bool false)).set_ (0 + 1) (.slice none 0 0)).set_ (0 + 2) (.int .i64 0)).set_ (0 + 3) (.int .i64 0)
    have g0 := D.cellv (i := 0) (v := .bool false) rfl
    have g1 := D.cellv (i := 0 + 1) (v := .slice none 0 0) rfl
    have g2 := D.cellv (i := 0 + 2) (v := .int .i64 0) rfl
    have g3 := D.cellv (i := 0 + 3) (v := .int .i64 0) rfl
    go_wp2_with fail
    refine bodyPost_ret (by simp [results, Try.results11, go_sem, g0, g1, g2, g3]; try rfl) rfl ?_
    rw [HA.out]
    exact ⟨none, 0, 0, rfl, rfl, Nat.zero_le _, World.ownsRow_nil _ _ _ _, ((((hU2.out.setCell _ _ (fun h => absurd h (by simp))).setCell _ _ (fun h => absurd h (by simp))).setCell _ _ (fun h => absurd h (by simp))).setCell _ _ (fun h => absurd h (by simp)))⟩
  have hl2 : ¬ (4194304 : Int) < (text.length : Int) := by omega
  go_wp2_with fail
  refine (check_any _ _ A is.length c is start caps (H.out.upd hU2.out (fun _ _ => not_nob)) hs hc hn).mono ?_
  rintro e w3 ⟨rfl, hU3⟩
  have HCR := hideP (HC1.out.upd hU3 not_nob)
  have HCP := hideP (HC0.out.upd hU3 not_nob)
  have HUR := hideP (hU2.out.trans hU3 (fun _ _ h => h))
  have f0 : w3.frozen? ⟨w.heap.size + 1, 0, none⟩ = false := HCR.out.frozen 0
  have f1 : w3.frozen? ⟨w.heap.size + 1, 0 + 1, none⟩ = false := HCR.out.frozen 1
  have f2 : w3.frozen? ⟨w.heap.size + 1, 0 + 2, none⟩ = false := HCR.out.frozen 2
  have f3 : w3.frozen? ⟨w.heap.size + 1, 0 + 3, none⟩ = false := HCR.out.frozen 3
  have r0 : w3.cell? ⟨w.heap.size + 1, 0, none⟩ = some (.bool false) := HCR.out.cellv rfl
  have r1 : w3.cell? ⟨w.heap.size + 1, 0 + 1, none⟩ = some (.slice none 0 0) := HCR.out.cellv rfl
  have r2 : w3.cell? ⟨w.heap.size + 1, 0 + 2, none⟩ = some (.int .i64 0) := HCR.out.cellv rfl
  have r3 : w3.cell? ⟨w.heap.size + 1, 0 + 3, none⟩ = some (.int .i64 0) := HCR.out.cellv rfl
  have e0 : w3.cell? ⟨w.heap.size, 0, none⟩ = some (.slice A is.length c) := HCP.out.cellv rfl
  have e1 : w3.cell? ⟨w.heap.size, 0 + 1, none⟩ = some (.int .i64 start) := HCP.out.cellv rfl
  have e2 : w3.cell? ⟨w.heap.size, 0 + 2, none⟩ = some (.int .i64 caps) := HCP.out.cellv rfl
  have hle3 := HUR.out.size
  clear hU3
  rcases hv : checkB is start caps with _ | _
  · have hA : ansF is start caps text a anchored = ((none, 0), 90) := (if_neg hl).trans (if_pos hv)
    have HA := hideP hA
    have hE : errOf false = 90 := rfl
    clear hA hv
    have D := (((HCR.out.set_ 0 (.bool false)).set_ (0 + 1) (.slice none 0 0)).set_ (0 + 2) (.int .i64 0)).set_ (0 + 3) (.int .i64 0)
    have g0 := D.cellv (i := 0) (v := .bool false) rfl
    have g1 := D.cellv (i := 0 + 1) (v := .slice none 0 0) rfl
    have g2 := D.cellv (i := 0 + 2) (v := .int .i64 0) rfl
    have g3 := D.cellv (i := 0 + 3) (v := .int .i64 0) rfl
    go_wp2_with fail
    refine bodyPost_ret (by simp [results, Try.results11, go_sem, g0, g1, g2, g3]; try rfl) rfl ?_
    rw [HA.out]
    exact ⟨none, 0, 0, rfl, rfl, Nat.zero_le _, World.ownsRow_nil _ _ _ _, ((((HUR.out.setCell _ _ (fun h => absurd h (by simp))).setCell _ _ (fun h => absurd h (by simp))).setCell _ _ (fun h => absurd h (by simp))).setCell _ _ (fun h => absurd h (by simp)))⟩
  have hE : errOf true = 0 := rfl
  by_cases har : a < 0 ∨ (text.length : Int) < a
  · have hA : ansF is start caps text a anchored = ((none, 0), 1) := (if_neg hl).trans ((if_neg (by rw [hv]; exact Bool.noConfusion)).trans (if_pos har))
    have HA := hideP hA
    clear hA hv
    have D := (((HCR.out.set_ 0 (.bool false)).set_ (0 + 1) (.slice none 0 0)).set_ (0 + 2) (.int .i64 0)).set_ (0 + 3) (.int .i64 0)
    have g0 := D.cellv (i := 0) (v := .bool false) rfl
    have g1 := D.cellv (i := 0 + 1) (v := .slice none 0 0) rfl
    have g2 := D.cellv (i := 0 + 2) (v := .int .i64 0) rfl
    have g3 := D.cellv (i := 0 + 3) (v := .int .i64 0) rfl
    rcases (by omega : a < 0 ∨ (¬ a < 0 ∧ (text.length : Int) < a)) with h1 | ⟨h1, h2⟩
    · have d1 : decide (a < 0) = true := decide_eq_true h1
      clear har
      go_wp2_with fail
      refine bodyPost_ret (by simp [results, Try.results11, go_sem, g0, g1, g2, g3]; try rfl) rfl ?_
      rw [HA.out]
      exact ⟨none, 0, 0, rfl, rfl, Nat.zero_le _, World.ownsRow_nil _ _ _ _, ((((HUR.out.setCell _ _ (fun h => absurd h (by simp))).setCell _ _ (fun h => absurd h (by simp))).setCell _ _ (fun h => absurd h (by simp))).setCell _ _ (fun h => absurd h (by simp)))⟩
    · have d1 : decide (a < 0) = false := decide_eq_false h1
      have d2 : decide ((text.length : Int) < a) = true := decide_eq_true h2
      clear har
      go_wp2_with fail
      refine bodyPost_ret (by simp [results, Try.results11, go_sem, g0, g1, g2, g3]; try rfl) rfl ?_
      rw [HA.out]
      exact ⟨none, 0, 0, rfl, rfl, Nat.zero_le _, World.ownsRow_nil _ _ _ _, ((((HUR.out.setCell _ _ (fun h => absurd h (by simp))).setCell _ _ (fun h => absurd h (by simp))).setCell _ _ (fun h => absurd h (by simp))).setCell _ _ (fun h => absurd h (by simp)))⟩
  have hA : ansF is start caps text a anchored = (runF is start.toNat caps.toNat text a.toNat anchored, 0) := (if_neg hl).trans ((if_neg (by rw [hv]; exact Bool.noConfusion)).trans (if_neg har))
  have HA := hideP hA
  clear hA
  obtain ⟨⟨n1, n2, s0, s1, k0, k1⟩, hmay⟩ := vcheck hv
  obtain ⟨st, rfl⟩ := Int.eq_ofNat_of_zero_le s0
  obtain ⟨m, rfl⟩ : ∃ k : Nat, caps = (k : Int) := Int.eq_ofNat_of_zero_le (by omega)
  obtain ⟨a0, rfl⟩ : ∃ k : Nat, a = (k : Int) := Int.eq_ofNat_of_zero_le (by omega)
  have HMAY := hideP hmay
  obtain ⟨i0, hi0, hz0, hz1, hz2⟩ := info_parts vinfo_int
  have ha0 : a0 ≤ text.length := by omega
  have n2' : is.length ≤ 20000 := by omega
  have hst : st < is.length := by omega
  have d1 : decide ((a0 : Int) < 0) = false := decide_eq_false (by omega)
  have d2 : decide ((text.length : Int) < (a0 : Int)) = false := decide_eq_false (by omega)
  have hsl : ∀ w' : World, Cells w' w.heap.size 27 #[.slice A is.length c, .int .i64 st, .int .i64 m] → (w'.cell? ⟨w.heap.size, 0, none⟩ = some (.slice A is.length c) ∧ w'.cell? ⟨w.heap.size, 0 + 1, none⟩ = some (.int .i64 (st : Int)) ∧ w'.cell? ⟨w.heap.size, 0 + 2, none⟩ = some (.int .i64 (m : Int))) :=
    fun w' hC => ⟨hC.cellv rfl, hC.cellv rfl, hC.cellv rfl⟩
  have HSL := hideP hsl
  clear hmay hv har f0 f1 f2 f3 r0 r1 r2 r3 hsl HC0 HC1 hU2 e0 e1 e2
  go_upto_region 8 with fail
  go_region_held3 (fun w' => w'.cell? ⟨w.heap.size, 0, none⟩ = some (.slice A is.length c) ∧ w'.cell? ⟨w.heap.size, 0 + 1, none⟩ = some (.int .i64 (st : Int)) ∧ w'.cell? ⟨w.heap.size, 0 + 2, none⟩ = some (.int .i64 (m : Int)))
    (first | exact HSL.out _ HCP.out | exact HSL.out _ HCP4.out | exact HSL.out _ (HCP4.out.alloc _))
    (first
    | (go_at_call 30; refine (setNew_any _ (is.length : Int) (by omega) (by omega)).mono ?_; rintro e w4 ⟨sb, sg, rfl, hg4, hb4, hS4, hU4⟩; have hU4' := ((Upd.refl Nob w3).drew).trans hU4 (fun _ _ h => h); have HCP4 := hideP (HCP.out.upd hU4' not_nob); have HCR4 := hideP (HCR.out.upd hU4' not_nob); have HU4 := hideP (HUR.out.trans hU4' (fun _ _ h => h)); have HS4 := hideP hS4; clear hU4 hU4' hS4))
  have hbd : bound (is.length : Int) = is.length := by unfold bound; simp; omega
  rw [hbd] at HS4
  have hb4 := HS4.out.blk.lt
  have hg4l := (HS4.out.at_.lt sg rfl).2
  have hpl4 := HCP4.out.lt
  have hrl4 := HCR4.out.lt
  have h34 := HU4.out.size
  have CB0 := Cells.new w4 73 #[.slice A is.length c, .int .i64 st, .int .i64 m, .slice T text.length tc, .int .i64 0, .int .i64 0, .pointer (some ⟨sb, 0, none⟩), .slice none 0 0, .bool false, .slice none 0 0, .int .i64 0, .int .i64 0, .int .i64 0]
  have CB := Cells.new w4 73 #[.slice A is.length c, .int .i64 st, .int .i64 m, .slice T text.length tc, .int .i64 (a0 : Int), .int .i64 0, .pointer (some ⟨sb, 0, none⟩), .slice none 0 0, .bool false, .slice none 0 0, .int .i64 0, .int .i64 0, .int .i64 0]
  have hUb : Upd Nob w4 (w4.alloc (.cells #[.slice A is.length c, .int .i64 st, .int .i64 m, .slice T text.length tc, .int .i64 (a0 : Int), .int .i64 0, .pointer (some ⟨sb, 0, none⟩), .slice none 0 0, .bool false, .slice none 0 0, .int .i64 0, .int .i64 0, .int .i64 0] 73)) := (Upd.refl Nob w4).alloc _
  have hUw : Upd Nob w (w4.alloc (.cells #[.slice A is.length c, .int .i64 st, .int .i64 m, .slice T text.length tc, .int .i64 (a0 : Int), .int .i64 0, .pointer (some ⟨sb, 0, none⟩), .slice none 0 0, .bool false, .slice none 0 0, .int .i64 0, .int .i64 0, .int .i64 0] 73)) := HU4.out.trans hUb (fun _ _ h => h)
  have c4 : (w4.alloc (.cells #[.slice A is.length c, .int .i64 st, .int .i64 m, .slice T text.length tc, .int .i64 0, .int .i64 0, .pointer (some ⟨sb, 0, none⟩), .slice none 0 0, .bool false, .slice none 0 0, .int .i64 0, .int .i64 0, .int .i64 0] 73)).cell? ⟨w4.heap.size, 0 + 4, none⟩ = some (.int .i64 0) := CB0.cellv rfl
  have f4 : (w4.alloc (.cells #[.slice A is.length c, .int .i64 st, .int .i64 m, .slice T text.length tc, .int .i64 0, .int .i64 0, .pointer (some ⟨sb, 0, none⟩), .slice none 0 0, .bool false, .slice none 0 0, .int .i64 0, .int .i64 0, .int .i64 0] 73)).frozen? ⟨w4.heap.size, 0 + 4, none⟩ = false := CB0.frozen 4
  have HL := hideP (⟨hUw, HCP4.out.upd hUb not_nob, HCR4.out.upd hUb not_nob,
    ⟨H.out.upd hUw (fun _ _ => not_nob), HT.out.upd hUw (fun _ _ => not_nob), h34, hUw.size, ⟨none, 0, _, [], (HS4.out.rebase (show w.heap.size ≤ w3.drew.heap.size from hle3)).upd hUb not_nob not_nob (fun _ _ => not_nob), rfl⟩,
      ⟨_, _, none, 0, 0, 0, CB, .inl ⟨rfl, rfl, rfl⟩⟩, ⟨[], .nil_, rfl, fun i pc caps hi => by simp at hi⟩, fun h => absurd h (by simp)⟩⟩ :
    PkL w (w4.alloc (.cells #[.slice A is.length c, .int .i64 st, .int .i64 m, .slice T text.length tc, .int .i64 (a0 : Int), .int .i64 0, .pointer (some ⟨sb, 0, none⟩), .slice none 0 0, .bool false, .slice none 0 0, .int .i64 0, .int .i64 0, .int .i64 0] 73)) w4.heap.size sb sg none A c is st m T tc text a0 none 0 none [])
  have hans : searchF is st (List.replicate m (-1)) text a0 anchored (text.length + 1 - a0) a0 [] none 0 = runF is st m text a0 anchored := rfl
  have HS := hideP hans
  clear CB CB0 hUb hUw hans
  go_upto_region 11 with fail
  generalize (w4.alloc (.cells #[.slice A is.length c, .int .i64 st, .int .i64 m, .slice T text.length tc, .int .i64 (a0 : Int), .int .i64 0, .pointer (some ⟨sb, 0, none⟩), .slice none 0 0, .bool false, .slice none 0 0, .int .i64 0, .int .i64 0, .int .i64 0] 73)) = w5 at *
  clear c4 f4
  generalize w4.heap.size = b at *
  go_loopg [12] (text.length + 1 - a0) (fun gk v12 wq => ∃ (j : Nat) (ths : List (Nat × List Int)) (fo : Option (List Int × Int)) (steps : Nat) (N : Option Addr) (nc : Nat) (O : Option Nat), j + gk = text.length + 1 ∧ a0 ≤ j ∧ v12 = .slice N ths.length nc ∧ ths.length ≤ 20000 ∧ steps ≤ (j - a0) * 20000 ∧
    searchF is st (List.replicate m (-1)) text a0 anchored gk j ths fo steps = runF is st m text a0 anchored ∧ PkL w wq b sb sg O A c is st m T tc text j fo steps N ths)
  case atStart => exact ⟨a0, [], none, 0, none, 0, none, by omega, Nat.le_refl _, rfl, by simp, by omega, HS.out, HL.out⟩
  case round =>
    obtain ⟨j, ths, fo, steps, N, nc, O, hj, haj, rfl, hthl, hstp, hse, hL⟩ := hrel
    obtain ⟨bits, nv, FA, fn, fc, wh, hC, -⟩ := hL.pk.run
    have l4 : wr.cell? ⟨b, 0 + 4, none⟩ = some (.int .i64 (j : Int)) := hC.cellv rfl
    by_cases hlt : j ≤ text.length
    rotate_left
    · have g1 : ¬ (j : Int) ≤ (text.length : Int) := by omega
      obtain rfl : gk = 0 := by omega
      obtain ⟨fo', hfo'⟩ : ∃ x, x = fo := ⟨_, rfl⟩
      obtain ⟨steps', hst'⟩ : ∃ x, x = steps := ⟨_, rfl⟩
      have HRR := hideP (show runF is st m text a0 anchored = (fo', steps') by rw [hfo', hst']; exact hse.symm)
      have HF := hideP (show PkFin w wr b sg m fo' steps' by rw [hfo', hst']; exact hL.fin)
      clear hL hC hse HS HL hfo' hst'
      obtain ⟨v0, v1, v2, v3, v4, v5, v6, v7, FA, fn, fc, OF, hCf, hFf⟩ := HF.out.run
      obtain ⟨hrd, hfm, -, rfl⟩ := hFf.reads
      have HA2 := hideP (HA.out.trans (show _ = ((fo', steps'), (0 : Int)) by show (runF is st m text a0 _, (0 : Int)) = _; rw [HRR.out]))
      have b8 : wr.cell? ⟨b, 0 + 8, none⟩ = some (.bool fo'.isSome) := hCf.cellv rfl
      have b9 : wr.cell? ⟨b, 0 + 8 + 1, none⟩ = some (.slice FA (capsOf fo').length fc) := hCf.cellv rfl
      have b10 : wr.cell? ⟨b, 0 + 8 + 2, none⟩ = some (.int .i64 (whOf fo')) := hCf.cellv rfl
      have b11 : wr.cell? ⟨b, 0 + 8 + 3, none⟩ = some (.int .i64 0) := hCf.cellv rfl
      have CO0 := Cells.new wr 33 #[.bool fo'.isSome, .slice FA (capsOf fo').length fc, .int .i64 (whOf fo'), .int .i64 0]
      have hUo0 := (Upd.refl Nob wr).alloc (.cells #[.bool fo'.isSome, .slice FA (capsOf fo').length fc, .int .i64 (whOf fo'), .int .i64 0] 33)
      have b12 : (wr.alloc (.cells #[.bool fo'.isSome, .slice FA (capsOf fo').length fc, .int .i64 (whOf fo'), .int .i64 0] 33)).cell? ⟨b, 0 + 12, none⟩ = some (.int .i64 (steps' : Int)) := (hCf.upd hUo0 not_nob).cellv rfl
      have CO := Cells.new wr 33 #[.bool fo'.isSome, .slice FA (capsOf fo').length fc, .int .i64 (whOf fo'), .int .i64 (steps' : Int)]
      have hUo := (Upd.refl Nob wr).alloc (.cells #[.bool fo'.isSome, .slice FA (capsOf fo').length fc, .int .i64 (whOf fo'), .int .i64 (steps' : Int)] 33)
      have hrl := HF.out.res.lt
      have HRD := hideP (hrd.upd hUo (fun _ _ => not_nob))
      have HCR9 := hideP (HF.out.res.upd hUo not_nob)
      have HU9 := hideP (HF.out.upd.trans hUo (fun _ _ h => h))
      have HCO := hideP CO
      have hfin := HF.out.upd.size
      clear hCf hFf hrd CO CO0 hUo hUo0
      go_upto_region 17 with fail
      generalize wr.alloc (.cells #[.bool fo'.isSome, .slice FA (capsOf fo').length fc, .int .i64 (whOf fo'), .int .i64 (steps' : Int)] 33) = w9 at *
      have hob : w.heap.size ≤ wr.heap.size := hfin
      generalize wr.heap.size = ob at *
      have o1 : w9.cell? ⟨ob, 0 + 1, none⟩ = some (.slice FA (capsOf fo').length fc) := HCO.out.cellv rfl
      have hm1002 : (capsOf fo').length ≤ 1002 := by omega
      go_wp2_with (at_builtin; refine wpList_append_reads rfl _ (.tmp 105) 28 rfl w.heap.size 3 i0 (.int .i64 0) 1 8 Try.underlying28 hi0 hz0 hz1 hz2 rfl (by decide) (.slice none 0 0) 0 [] rfl (World.ownsRow_nil _ _ _ _) _ FA (capsOf fo').length fc (intv (capsOf fo')) rfl HRD.out (intv_one (capsOf fo')) (by unfold maxLen; omega) (by omega) HU9.out.size ?_; intro v7 w7 o7 g7 a7; simp only [Nat.zero_add, List.nil_append] at o7; obtain ⟨A7, c7, rfl⟩ := own_shape o7; have hCO7 := HCO.out.grown g7 (by simp [Value.ownBlock]); have hCR7 := HCR9.out.grown g7 (by simp [Value.ownBlock]); have HU7 := hideP (HU9.out.grown g7 (fun k hk h => by simp [Value.ownBlock] at hk)); have HO7 := hideP o7; have fo1 : w7.frozen? ⟨ob, 0 + 1, none⟩ = false := hCO7.frozen 1; have co1 : w7.cell? ⟨ob, 0 + 1, none⟩ = some (.slice FA (capsOf fo').length fc) := hCO7.cellv rfl; have HCO7 := hideP hCO7; have HCR7 := hideP hCR7; have hCO8 := hCO7.set_ (0 + 1) (.slice A7 (capsOf fo').length c7); have hCR8 := hCR7.far ⟨ob, 0 + 1, none⟩ (.slice A7 (capsOf fo').length c7) (by show w.heap.size + 1 ≠ ob; omega); have p0 : (w7.setCell ⟨ob, 0 + 1, none⟩ (.slice A7 (capsOf fo').length c7)).cell? ⟨ob, 0, none⟩ = some (.bool fo'.isSome) := hCO8.cellv rfl; have p1 : (w7.setCell ⟨ob, 0 + 1, none⟩ (.slice A7 (capsOf fo').length c7)).cell? ⟨ob, 0 + 1, none⟩ = some (.slice A7 (capsOf fo').length c7) := hCO8.cellv rfl; have p2 : (w7.setCell ⟨ob, 0 + 1, none⟩ (.slice A7 (capsOf fo').length c7)).cell? ⟨ob, 0 + 2, none⟩ = some (.int .i64 (whOf fo')) := hCO8.cellv rfl; have p3 : (w7.setCell ⟨ob, 0 + 1, none⟩ (.slice A7 (capsOf fo').length c7)).cell? ⟨ob, 0 + 3, none⟩ = some (.int .i64 (steps' : Int)) := hCO8.cellv rfl; have f0 : (w7.setCell ⟨ob, 0 + 1, none⟩ (.slice A7 (capsOf fo').length c7)).frozen? ⟨w.heap.size + 1, 0, none⟩ = false := hCR8.frozen 0; have f1 : (w7.setCell ⟨ob, 0 + 1, none⟩ (.slice A7 (capsOf fo').length c7)).frozen? ⟨w.heap.size + 1, 0 + 1, none⟩ = false := hCR8.frozen 1; have f2 : (w7.setCell ⟨ob, 0 + 1, none⟩ (.slice A7 (capsOf fo').length c7)).frozen? ⟨w.heap.size + 1, 0 + 2, none⟩ = false := hCR8.frozen 2; have f3 : (w7.setCell ⟨ob, 0 + 1, none⟩ (.slice A7 (capsOf fo').length c7)).frozen? ⟨w.heap.size + 1, 0 + 3, none⟩ = false := hCR8.frozen 3; have r0 : (w7.setCell ⟨ob, 0 + 1, none⟩ (.slice A7 (capsOf fo').length c7)).cell? ⟨w.heap.size + 1, 0, none⟩ = some (.bool false) := hCR8.cellv rfl; have r1 : (w7.setCell ⟨ob, 0 + 1, none⟩ (.slice A7 (capsOf fo').length c7)).cell? ⟨w.heap.size + 1, 0 + 1, none⟩ = some (.slice none 0 0) := hCR8.cellv rfl; have r2 : (w7.setCell ⟨ob, 0 + 1, none⟩ (.slice A7 (capsOf fo').length c7)).cell? ⟨w.heap.size + 1, 0 + 2, none⟩ = some (.int .i64 0) := hCR8.cellv rfl; have r3 : (w7.setCell ⟨ob, 0 + 1, none⟩ (.slice A7 (capsOf fo').length c7)).cell? ⟨w.heap.size + 1, 0 + 3, none⟩ = some (.int .i64 0) := hCR8.cellv rfl; have D := (((hCR8.set_ 0 (.bool fo'.isSome)).set_ (0 + 1) (.slice A7 (capsOf fo').length c7)).set_ (0 + 2) (.int .i64 (whOf fo'))).set_ (0 + 3) (.int .i64 (steps' : Int)); have q0 := D.cellv (i := 0) (v := .bool fo'.isSome) rfl; have q1 := D.cellv (i := 0 + 1) (v := (.slice A7 (capsOf fo').length c7)) rfl; have q2 := D.cellv (i := 0 + 2) (v := .int .i64 (whOf fo')) rfl; have q3 := D.cellv (i := 0 + 3) (v := .int .i64 (steps' : Int)) rfl; clear o7 g7 a7 hCO7 hCR7 hCO8 hCR8 D)
      try simp only [Exit.inBlock, Exit.then]
      refine bodyPost_ret (by simp [results, Try.results11, go_sem, q0, q1, q2, q3]; try rfl) rfl ?_
      rw [HA2.out]
      have hno : (Value.slice A7 (capsOf fo').length c7).ownBlock ≠ some ob := own_ne HO7.out HCO7.out (by decide)
      have hnr : (Value.slice A7 (capsOf fo').length c7).ownBlock ≠ some (w.heap.size + 1) := own_ne HO7.out HCR7.out (by decide)
      exact ⟨A7, (capsOf fo').length, c7, rfl, rfl, hm1002, own_far (own_far (own_far (own_far (own_far HO7.out _ _ hno) _ _ hnr) _ _ hnr) _ _ hnr) _ _ hnr, (((((HU7.out.setCell _ _ (fun h => absurd h (by show ¬ ob < w.heap.size; omega))).setCell _ _ (fun h => absurd h (by simp))).setCell _ _ (fun h => absurd h (by simp))).setCell _ _ (fun h => absurd h (by simp))).setCell _ _ (fun h => absurd h (by simp)))⟩
    have g1 : (j : Int) ≤ (text.length : Int) := by omega
    obtain ⟨fz, rfl⟩ : ∃ fz, gk = fz + 1 := ⟨gk - 1, by omega⟩
    have hbne : w.heap.size ≤ b := hL.pk.eb
    generalize hbg : (decide (j = a0) || !anchored && fo.isNone) = bg
    obtain ⟨s9, hs9⟩ : ∃ x : VSt, x = placeF is st (List.replicate m (-1)) text j bg ths fo steps := ⟨_, rfl⟩
    have hwk := placeF_work (is := is) (text := text) (j := j) st (List.replicate m (-1)) bg ths fo steps
    rw [← hs9] at hwk
    have hstep := pkstep_any wr w.heap.size b sb sg O A c is st m T tc text j fo steps N nc ths bg hL.pk (by omega) n2' hst (by omega) (by omega) (by omega) hthl HMAY.out
    rw [← placeF_eq, ← hs9] at hstep
    have HSTEP := hideP hstep
    have HPL := hideP (show placeF is st (List.replicate m (-1)) text j (decide (j = a0) || !anchored && fo.isNone) ths fo steps = s9 by rw [hbg]; exact hs9.symm)
    have HSE := hideP hse
    have HLr := hideP hL
    have HCr := hideP hC
    have b8 : wr.cell? ⟨b, 0 + 8, none⟩ = some (.bool fo.isSome) := hC.cellv rfl
    clear hstep hs9 hse hL hC HS HL
    go_upto_region 13 with fail
    go_cut [12] from 59 to 81 (fun v12 wc => StepPost wr w.heap.size b sb sg O A c is st m T tc text j s9 (.returned v12) wc)
    case first =>
      have HBG := hideP hbg
      clear hbg
      by_cases hja : j = a0
      · have hb1 : bg = true := by rw [← HBG.out, decide_eq_true hja]; rfl
        subst hb1
        subst hja
        go_wp2_with fail
        refine HSTEP.out.mono ?_
        rintro e w9 ⟨O9, NO9, N9, nc9, xs9, FA9, fn9, fc9, wh9, rfl, hrest⟩
        have HREST := hideP hrest
        clear hrest
        go_wp2_with fail
        go_meet
        exact ⟨O9, NO9, N9, nc9, xs9, FA9, fn9, fc9, wh9, rfl, HREST.out⟩
      · have q1 : ¬ (j : Int) = (a0 : Int) := by omega
        have q2 : ((j : Int) == (a0 : Int)) = false := beq_eq_false_iff_ne.2 q1
        have hb0 : (!anchored && fo.isNone) = bg := by rw [← HBG.out, decide_eq_false hja]; rfl
        rcases anchored with _ | _
        · rcases hfo : fo.isSome with _ | _
          · have hb1 : bg = true := by rw [← hb0]; cases fo; rfl; cases hfo
            subst hb1
            rw [hfo] at b8
            clear hb0 hfo
            go_wp2_with fail
            refine HSTEP.out.mono ?_
            rintro e w9 ⟨O9, NO9, N9, nc9, xs9, FA9, fn9, fc9, wh9, rfl, hrest⟩
            have HREST := hideP hrest
            clear hrest
            go_wp2_with fail
            go_meet
            exact ⟨O9, NO9, N9, nc9, xs9, FA9, fn9, fc9, wh9, rfl, HREST.out⟩
          · have hb1 : bg = false := by rw [← hb0]; cases fo; cases hfo; rfl
            subst hb1
            rw [hfo] at b8
            clear hb0 hfo
            go_wp2_with fail
            refine HSTEP.out.mono ?_
            rintro e w9 ⟨O9, NO9, N9, nc9, xs9, FA9, fn9, fc9, wh9, rfl, hrest⟩
            have HREST := hideP hrest
            clear hrest
            go_wp2_with fail
            go_meet
            exact ⟨O9, NO9, N9, nc9, xs9, FA9, fn9, fc9, wh9, rfl, HREST.out⟩
        · have hb1 : bg = false := by rw [← hb0]; rfl
          subst hb1
          clear hb0
          go_wp2_with fail
          refine HSTEP.out.mono ?_
          rintro e w9 ⟨O9, NO9, N9, nc9, xs9, FA9, fn9, fc9, wh9, rfl, hrest⟩
          have HREST := hideP hrest
          clear hrest
          go_wp2_with fail
          go_meet
          exact ⟨O9, NO9, N9, nc9, xs9, FA9, fn9, fc9, wh9, rfl, HREST.out⟩
    case rest =>
      obtain ⟨O9, NO9, N9, nc9, xs9, FA9, fn9, fc9, wh9, he, hPK9, hUP9, hC9, hN9, hT9, hF9⟩ := hcut
      injection he with he
      subst he
      obtain ⟨hUw9, hBx9, hRs9⟩ := HLr.out.step hUP9
      have m4 : wr.cell? ⟨b, 0 + 4, none⟩ = some (.int .i64 (j : Int)) := l4
      have l4 : wc.cell? ⟨b, 0 + 4, none⟩ = some (.int .i64 (j : Int)) := hC9.cellv rfl
      have f4 : wc.frozen? ⟨b, 0 + 4, none⟩ = false := hC9.frozen 4
      have b8 : wc.cell? ⟨b, 0 + 8, none⟩ = some (.bool s9.found.isSome) := hC9.cellv rfl
      obtain ⟨-, -, hwh, -⟩ := hF9.reads
      subst hwh
      have HF := hideP (⟨hUw9, hRs9, ⟨_, _, _, _, _, _, _, _, FA9, fn9, fc9, O9, hC9, hF9⟩⟩ : PkFin w wc b sg m s9.found s9.steps)
      have hpbne : w.heap.size ≠ b := Cells.ne_ hBx9 hC9 (by decide)
      have hrbne : w.heap.size + 1 ≠ b := Cells.ne_ hRs9 hC9 (by decide)
      have HNX := hideP (⟨hUw9.setCell _ _ (fun hlt => absurd hlt (by show ¬ b < w.heap.size; omega)), hBx9.far _ _ hpbne, hRs9.far _ _ hrbne, PkI.next hPK9 hC9 hN9 hT9 hF9⟩ :
        PkL w (wc.setCell ⟨b, 0 + 4, none⟩ (.int .i64 ((j : Int) + 1))) b sb sg O9 A c is st m T tc text (j + 1) s9.found s9.steps N9 s9.next)
      have hnl := hwk.2
      have hsl := hwk.1
      clear hUw9 hBx9 hRs9 hC9 hN9 hT9 hF9 hPK9 hUP9 hwk m4
      by_cases hz : s9.next.length = 0
      rotate_left
      · have hze1 : ((s9.next.length : Int) == 0) = false := beq_eq_false_iff_ne.2 (fun h => hz (by omega))
        have hze2 : ¬ (s9.next.length : Int) = 0 := by omega
        go_wp2_with fail
        go_roundg fz
        case measure => omega
        case rel =>
          refine ⟨j + 1, s9.next, s9.found, s9.steps, N9, nc9, O9, by omega, by omega, rfl, by omega, by omega, ?_, HNX.out⟩
          rw [← HSE.out]
          refine (search_on HPL.out ?_).symm
          rw [Bool.and_eq_false_iff]
          exact .inl (by rw [Bool.eq_false_iff]; intro h; exact hz (by rw [List.isEmpty_iff.1 h]; rfl))
      have hze1 : ((s9.next.length : Int) == 0) = true := by rw [hz]; rfl
      rcases hfa : (s9.found.isSome || anchored) with _ | _
      · rw [Bool.or_eq_false_iff] at hfa
        obtain ⟨hf1, rfl⟩ := hfa
        rw [hf1] at b8
        go_wp2_with fail
        go_roundg fz
        case measure => omega
        case rel =>
          refine ⟨j + 1, s9.next, s9.found, s9.steps, N9, nc9, O9, by omega, by omega, by rw [hz], by omega, by omega, ?_, HNX.out⟩
          rw [← HSE.out]
          refine (search_on HPL.out ?_).symm
          rw [hf1]
          simp
      have HRR := hideP ((HSE.out.symm).trans (search_stop HPL.out hz hfa))
      obtain ⟨fo', hfo'⟩ : ∃ x, x = s9.found := ⟨_, rfl⟩
      obtain ⟨steps', hst'⟩ : ∃ x, x = s9.steps := ⟨_, rfl⟩
      rw [← hfo', ← hst'] at HRR HF
      have hor : (fo'.isSome || anchored) = true := by rw [hfo']; exact hfa
      rw [← hfo'] at b8
      clear HNX hfo' hst' hfa HSE HPL HLr HCr HSTEP
      rcases hsf : fo'.isSome with _ | _
      · obtain rfl : anchored = true := by rw [hsf] at hor; exact hor
        rw [hsf] at b8
        clear hor
        go_upto_region 15 with fail
        clear b8 hsf
        obtain ⟨v0, v1, v2, v3, v4, v5, v6, v7, FA, fn, fc, OF, hCf, hFf⟩ := HF.out.run
        obtain ⟨hrd, hfm, -, rfl⟩ := hFf.reads
        have HA2 := hideP (HA.out.trans (show _ = ((fo', steps'), (0 : Int)) by show (runF is st m text a0 _, (0 : Int)) = _; rw [HRR.out]))
        have b8 : wc.cell? ⟨b, 0 + 8, none⟩ = some (.bool fo'.isSome) := hCf.cellv rfl
        have b9 : wc.cell? ⟨b, 0 + 8 + 1, none⟩ = some (.slice FA (capsOf fo').length fc) := hCf.cellv rfl
        have b10 : wc.cell? ⟨b, 0 + 8 + 2, none⟩ = some (.int .i64 (whOf fo')) := hCf.cellv rfl
        have b11 : wc.cell? ⟨b, 0 + 8 + 3, none⟩ = some (.int .i64 0) := hCf.cellv rfl
        have CO0 := Cells.new wc 33 #[.bool fo'.isSome, .slice FA (capsOf fo').length fc, .int .i64 (whOf fo'), .int .i64 0]
        have hUo0 := (Upd.refl Nob wc).alloc (.cells #[.bool fo'.isSome, .slice FA (capsOf fo').length fc, .int .i64 (whOf fo'), .int .i64 0] 33)
        have b12 : (wc.alloc (.cells #[.bool fo'.isSome, .slice FA (capsOf fo').length fc, .int .i64 (whOf fo'), .int .i64 0] 33)).cell? ⟨b, 0 + 12, none⟩ = some (.int .i64 (steps' : Int)) := (hCf.upd hUo0 not_nob).cellv rfl
        have CO := Cells.new wc 33 #[.bool fo'.isSome, .slice FA (capsOf fo').length fc, .int .i64 (whOf fo'), .int .i64 (steps' : Int)]
        have hUo := (Upd.refl Nob wc).alloc (.cells #[.bool fo'.isSome, .slice FA (capsOf fo').length fc, .int .i64 (whOf fo'), .int .i64 (steps' : Int)] 33)
        have hrl := HF.out.res.lt
        have HRD := hideP (hrd.upd hUo (fun _ _ => not_nob))
        have HCR9 := hideP (HF.out.res.upd hUo not_nob)
        have HU9 := hideP (HF.out.upd.trans hUo (fun _ _ h => h))
        have HCO := hideP CO
        have hfin := HF.out.upd.size
        clear hCf hFf hrd CO CO0 hUo hUo0
        go_upto_region 17 with fail
        generalize wc.alloc (.cells #[.bool fo'.isSome, .slice FA (capsOf fo').length fc, .int .i64 (whOf fo'), .int .i64 (steps' : Int)] 33) = w9 at *
        have hob : w.heap.size ≤ wc.heap.size := hfin
        generalize wc.heap.size = ob at *
        have o1 : w9.cell? ⟨ob, 0 + 1, none⟩ = some (.slice FA (capsOf fo').length fc) := HCO.out.cellv rfl
        have hm1002 : (capsOf fo').length ≤ 1002 := by omega
        go_wp2_with (at_builtin; refine wpList_append_reads rfl _ (.tmp 105) 28 rfl w.heap.size 3 i0 (.int .i64 0) 1 8 Try.underlying28 hi0 hz0 hz1 hz2 rfl (by decide) (.slice none 0 0) 0 [] rfl (World.ownsRow_nil _ _ _ _) _ FA (capsOf fo').length fc (intv (capsOf fo')) rfl HRD.out (intv_one (capsOf fo')) (by unfold maxLen; omega) (by omega) HU9.out.size ?_; intro v7 w7 o7 g7 a7; simp only [Nat.zero_add, List.nil_append] at o7; obtain ⟨A7, c7, rfl⟩ := own_shape o7; have hCO7 := HCO.out.grown g7 (by simp [Value.ownBlock]); have hCR7 := HCR9.out.grown g7 (by simp [Value.ownBlock]); have HU7 := hideP (HU9.out.grown g7 (fun k hk h => by simp [Value.ownBlock] at hk)); have HO7 := hideP o7; have fo1 : w7.frozen? ⟨ob, 0 + 1, none⟩ = false := hCO7.frozen 1; have co1 : w7.cell? ⟨ob, 0 + 1, none⟩ = some (.slice FA (capsOf fo').length fc) := hCO7.cellv rfl; have HCO7 := hideP hCO7; have HCR7 := hideP hCR7; have hCO8 := hCO7.set_ (0 + 1) (.slice A7 (capsOf fo').length c7); have hCR8 := hCR7.far ⟨ob, 0 + 1, none⟩ (.slice A7 (capsOf fo').length c7) (by show w.heap.size + 1 ≠ ob; omega); have p0 : (w7.setCell ⟨ob, 0 + 1, none⟩ (.slice A7 (capsOf fo').length c7)).cell? ⟨ob, 0, none⟩ = some (.bool fo'.isSome) := hCO8.cellv rfl; have p1 : (w7.setCell ⟨ob, 0 + 1, none⟩ (.slice A7 (capsOf fo').length c7)).cell? ⟨ob, 0 + 1, none⟩ = some (.slice A7 (capsOf fo').length c7) := hCO8.cellv rfl; have p2 : (w7.setCell ⟨ob, 0 + 1, none⟩ (.slice A7 (capsOf fo').length c7)).cell? ⟨ob, 0 + 2, none⟩ = some (.int .i64 (whOf fo')) := hCO8.cellv rfl; have p3 : (w7.setCell ⟨ob, 0 + 1, none⟩ (.slice A7 (capsOf fo').length c7)).cell? ⟨ob, 0 + 3, none⟩ = some (.int .i64 (steps' : Int)) := hCO8.cellv rfl; have f0 : (w7.setCell ⟨ob, 0 + 1, none⟩ (.slice A7 (capsOf fo').length c7)).frozen? ⟨w.heap.size + 1, 0, none⟩ = false := hCR8.frozen 0; have f1 : (w7.setCell ⟨ob, 0 + 1, none⟩ (.slice A7 (capsOf fo').length c7)).frozen? ⟨w.heap.size + 1, 0 + 1, none⟩ = false := hCR8.frozen 1; have f2 : (w7.setCell ⟨ob, 0 + 1, none⟩ (.slice A7 (capsOf fo').length c7)).frozen? ⟨w.heap.size + 1, 0 + 2, none⟩ = false := hCR8.frozen 2; have f3 : (w7.setCell ⟨ob, 0 + 1, none⟩ (.slice A7 (capsOf fo').length c7)).frozen? ⟨w.heap.size + 1, 0 + 3, none⟩ = false := hCR8.frozen 3; have r0 : (w7.setCell ⟨ob, 0 + 1, none⟩ (.slice A7 (capsOf fo').length c7)).cell? ⟨w.heap.size + 1, 0, none⟩ = some (.bool false) := hCR8.cellv rfl; have r1 : (w7.setCell ⟨ob, 0 + 1, none⟩ (.slice A7 (capsOf fo').length c7)).cell? ⟨w.heap.size + 1, 0 + 1, none⟩ = some (.slice none 0 0) := hCR8.cellv rfl; have r2 : (w7.setCell ⟨ob, 0 + 1, none⟩ (.slice A7 (capsOf fo').length c7)).cell? ⟨w.heap.size + 1, 0 + 2, none⟩ = some (.int .i64 0) := hCR8.cellv rfl; have r3 : (w7.setCell ⟨ob, 0 + 1, none⟩ (.slice A7 (capsOf fo').length c7)).cell? ⟨w.heap.size + 1, 0 + 3, none⟩ = some (.int .i64 0) := hCR8.cellv rfl; have D := (((hCR8.set_ 0 (.bool fo'.isSome)).set_ (0 + 1) (.slice A7 (capsOf fo').length c7)).set_ (0 + 2) (.int .i64 (whOf fo'))).set_ (0 + 3) (.int .i64 (steps' : Int)); have q0 := D.cellv (i := 0) (v := .bool fo'.isSome) rfl; have q1 := D.cellv (i := 0 + 1) (v := (.slice A7 (capsOf fo').length c7)) rfl; have q2 := D.cellv (i := 0 + 2) (v := .int .i64 (whOf fo')) rfl; have q3 := D.cellv (i := 0 + 3) (v := .int .i64 (steps' : Int)) rfl; clear o7 g7 a7 hCO7 hCR7 hCO8 hCR8 D)
        try simp only [Exit.inBlock, Exit.then]
        refine bodyPost_ret (by simp [results, Try.results11, go_sem, q0, q1, q2, q3]; try rfl) rfl ?_
        rw [HA2.out]
        have hno : (Value.slice A7 (capsOf fo').length c7).ownBlock ≠ some ob := own_ne HO7.out HCO7.out (by decide)
        have hnr : (Value.slice A7 (capsOf fo').length c7).ownBlock ≠ some (w.heap.size + 1) := own_ne HO7.out HCR7.out (by decide)
        exact ⟨A7, (capsOf fo').length, c7, rfl, rfl, hm1002, own_far (own_far (own_far (own_far (own_far HO7.out _ _ hno) _ _ hnr) _ _ hnr) _ _ hnr) _ _ hnr, (((((HU7.out.setCell _ _ (fun h => absurd h (by show ¬ ob < w.heap.size; omega))).setCell _ _ (fun h => absurd h (by simp))).setCell _ _ (fun h => absurd h (by simp))).setCell _ _ (fun h => absurd h (by simp))).setCell _ _ (fun h => absurd h (by simp)))⟩
      · rw [hsf] at b8
        clear hor
        go_upto_region 15 with fail
        clear b8 hsf
        obtain ⟨v0, v1, v2, v3, v4, v5, v6, v7, FA, fn, fc, OF, hCf, hFf⟩ := HF.out.run
        obtain ⟨hrd, hfm, -, rfl⟩ := hFf.reads
        have HA2 := hideP (HA.out.trans (show _ = ((fo', steps'), (0 : Int)) by show (runF is st m text a0 _, (0 : Int)) = _; rw [HRR.out]))
        have b8 : wc.cell? ⟨b, 0 + 8, none⟩ = some (.bool fo'.isSome) := hCf.cellv rfl
        have b9 : wc.cell? ⟨b, 0 + 8 + 1, none⟩ = some (.slice FA (capsOf fo').length fc) := hCf.cellv rfl
        have b10 : wc.cell? ⟨b, 0 + 8 + 2, none⟩ = some (.int .i64 (whOf fo')) := hCf.cellv rfl
        have b11 : wc.cell? ⟨b, 0 + 8 + 3, none⟩ = some (.int .i64 0) := hCf.cellv rfl
        have CO0 := Cells.new wc 33 #[.bool fo'.isSome, .slice FA (capsOf fo').length fc, .int .i64 (whOf fo'), .int .i64 0]
        have hUo0 := (Upd.refl Nob wc).alloc (.cells #[.bool fo'.isSome, .slice FA (capsOf fo').length fc, .int .i64 (whOf fo'), .int .i64 0] 33)
        have b12 : (wc.alloc (.cells #[.bool fo'.isSome, .slice FA (capsOf fo').length fc, .int .i64 (whOf fo'), .int .i64 0] 33)).cell? ⟨b, 0 + 12, none⟩ = some (.int .i64 (steps' : Int)) := (hCf.upd hUo0 not_nob).cellv rfl
        have CO := Cells.new wc 33 #[.bool fo'.isSome, .slice FA (capsOf fo').length fc, .int .i64 (whOf fo'), .int .i64 (steps' : Int)]
        have hUo := (Upd.refl Nob wc).alloc (.cells #[.bool fo'.isSome, .slice FA (capsOf fo').length fc, .int .i64 (whOf fo'), .int .i64 (steps' : Int)] 33)
        have hrl := HF.out.res.lt
        have HRD := hideP (hrd.upd hUo (fun _ _ => not_nob))
        have HCR9 := hideP (HF.out.res.upd hUo not_nob)
        have HU9 := hideP (HF.out.upd.trans hUo (fun _ _ h => h))
        have HCO := hideP CO
        have hfin := HF.out.upd.size
        clear hCf hFf hrd CO CO0 hUo hUo0
        go_upto_region 17 with fail
        generalize wc.alloc (.cells #[.bool fo'.isSome, .slice FA (capsOf fo').length fc, .int .i64 (whOf fo'), .int .i64 (steps' : Int)] 33) = w9 at *
        have hob : w.heap.size ≤ wc.heap.size := hfin
        generalize wc.heap.size = ob at *
        have o1 : w9.cell? ⟨ob, 0 + 1, none⟩ = some (.slice FA (capsOf fo').length fc) := HCO.out.cellv rfl
        have hm1002 : (capsOf fo').length ≤ 1002 := by omega
        go_wp2_with (at_builtin; refine wpList_append_reads rfl _ (.tmp 105) 28 rfl w.heap.size 3 i0 (.int .i64 0) 1 8 Try.underlying28 hi0 hz0 hz1 hz2 rfl (by decide) (.slice none 0 0) 0 [] rfl (World.ownsRow_nil _ _ _ _) _ FA (capsOf fo').length fc (intv (capsOf fo')) rfl HRD.out (intv_one (capsOf fo')) (by unfold maxLen; omega) (by omega) HU9.out.size ?_; intro v7 w7 o7 g7 a7; simp only [Nat.zero_add, List.nil_append] at o7; obtain ⟨A7, c7, rfl⟩ := own_shape o7; have hCO7 := HCO.out.grown g7 (by simp [Value.ownBlock]); have hCR7 := HCR9.out.grown g7 (by simp [Value.ownBlock]); have HU7 := hideP (HU9.out.grown g7 (fun k hk h => by simp [Value.ownBlock] at hk)); have HO7 := hideP o7; have fo1 : w7.frozen? ⟨ob, 0 + 1, none⟩ = false := hCO7.frozen 1; have co1 : w7.cell? ⟨ob, 0 + 1, none⟩ = some (.slice FA (capsOf fo').length fc) := hCO7.cellv rfl; have HCO7 := hideP hCO7; have HCR7 := hideP hCR7; have hCO8 := hCO7.set_ (0 + 1) (.slice A7 (capsOf fo').length c7); have hCR8 := hCR7.far ⟨ob, 0 + 1, none⟩ (.slice A7 (capsOf fo').length c7) (by show w.heap.size + 1 ≠ ob; omega); have p0 : (w7.setCell ⟨ob, 0 + 1, none⟩ (.slice A7 (capsOf fo').length c7)).cell? ⟨ob, 0, none⟩ = some (.bool fo'.isSome) := hCO8.cellv rfl; have p1 : (w7.setCell ⟨ob, 0 + 1, none⟩ (.slice A7 (capsOf fo').length c7)).cell? ⟨ob, 0 + 1, none⟩ = some (.slice A7 (capsOf fo').length c7) := hCO8.cellv rfl; have p2 : (w7.setCell ⟨ob, 0 + 1, none⟩ (.slice A7 (capsOf fo').length c7)).cell? ⟨ob, 0 + 2, none⟩ = some (.int .i64 (whOf fo')) := hCO8.cellv rfl; have p3 : (w7.setCell ⟨ob, 0 + 1, none⟩ (.slice A7 (capsOf fo').length c7)).cell? ⟨ob, 0 + 3, none⟩ = some (.int .i64 (steps' : Int)) := hCO8.cellv rfl; have f0 : (w7.setCell ⟨ob, 0 + 1, none⟩ (.slice A7 (capsOf fo').length c7)).frozen? ⟨w.heap.size + 1, 0, none⟩ = false := hCR8.frozen 0; have f1 : (w7.setCell ⟨ob, 0 + 1, none⟩ (.slice A7 (capsOf fo').length c7)).frozen? ⟨w.heap.size + 1, 0 + 1, none⟩ = false := hCR8.frozen 1; have f2 : (w7.setCell ⟨ob, 0 + 1, none⟩ (.slice A7 (capsOf fo').length c7)).frozen? ⟨w.heap.size + 1, 0 + 2, none⟩ = false := hCR8.frozen 2; have f3 : (w7.setCell ⟨ob, 0 + 1, none⟩ (.slice A7 (capsOf fo').length c7)).frozen? ⟨w.heap.size + 1, 0 + 3, none⟩ = false := hCR8.frozen 3; have r0 : (w7.setCell ⟨ob, 0 + 1, none⟩ (.slice A7 (capsOf fo').length c7)).cell? ⟨w.heap.size + 1, 0, none⟩ = some (.bool false) := hCR8.cellv rfl; have r1 : (w7.setCell ⟨ob, 0 + 1, none⟩ (.slice A7 (capsOf fo').length c7)).cell? ⟨w.heap.size + 1, 0 + 1, none⟩ = some (.slice none 0 0) := hCR8.cellv rfl; have r2 : (w7.setCell ⟨ob, 0 + 1, none⟩ (.slice A7 (capsOf fo').length c7)).cell? ⟨w.heap.size + 1, 0 + 2, none⟩ = some (.int .i64 0) := hCR8.cellv rfl; have r3 : (w7.setCell ⟨ob, 0 + 1, none⟩ (.slice A7 (capsOf fo').length c7)).cell? ⟨w.heap.size + 1, 0 + 3, none⟩ = some (.int .i64 0) := hCR8.cellv rfl; have D := (((hCR8.set_ 0 (.bool fo'.isSome)).set_ (0 + 1) (.slice A7 (capsOf fo').length c7)).set_ (0 + 2) (.int .i64 (whOf fo'))).set_ (0 + 3) (.int .i64 (steps' : Int)); have q0 := D.cellv (i := 0) (v := .bool fo'.isSome) rfl; have q1 := D.cellv (i := 0 + 1) (v := (.slice A7 (capsOf fo').length c7)) rfl; have q2 := D.cellv (i := 0 + 2) (v := .int .i64 (whOf fo')) rfl; have q3 := D.cellv (i := 0 + 3) (v := .int .i64 (steps' : Int)) rfl; clear o7 g7 a7 hCO7 hCR7 hCO8 hCR8 D)
        try simp only [Exit.inBlock, Exit.then]
        refine bodyPost_ret (by simp [results, Try.results11, go_sem, q0, q1, q2, q3]; try rfl) rfl ?_
        rw [HA2.out]
        have hno : (Value.slice A7 (capsOf fo').length c7).ownBlock ≠ some ob := own_ne HO7.out HCO7.out (by decide)
        have hnr : (Value.slice A7 (capsOf fo').length c7).ownBlock ≠ some (w.heap.size + 1) := own_ne HO7.out HCR7.out (by decide)
        exact ⟨A7, (capsOf fo').length, c7, rfl, rfl, hm1002, own_far (own_far (own_far (own_far (own_far HO7.out _ _ hno) _ _ hnr) _ _ hnr) _ _ hnr) _ _ hnr, (((((HU7.out.setCell _ _ (fun h => absurd h (by show ¬ ob < w.heap.size; omega))).setCell _ _ (fun h => absurd h (by simp))).setCell _ _ (fun h => absurd h (by simp))).setCell _ _ (fun h => absurd h (by simp))).setCell _ _ (fun h => absurd h (by simp)))⟩
end Go.Proofs.Ytnkefclbchpafaa
