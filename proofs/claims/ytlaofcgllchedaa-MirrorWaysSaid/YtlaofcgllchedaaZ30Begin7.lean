/-
  Begin, Begin7, put together.
-/
import Derived.Test.YtlaofcgllchedaaZ29TabN
import Derived.Deep.QuietTactic
import Derived.Deep.RegionHeld3

/-
  The walk of heronref06's begin, where the place was not begun: by the node's kind. Printed by tools/mkBegin.py.
-/
namespace Go.Proofs.Ytlaofcgllchedaa
open Go.RowKit
set_option linter.unusedVariables false

set_option maxHeartbeats 1000000 in
theorem begin_met {F : Fx} {S : Nat → Prop} {cl n p : Nat} {c : List Int} {s : WSt} (hk : Tk F S cl) (hb : s.bg n p = true) : Con F S cl 28 n p c s s := by
  intro hn hp hc w OA oc CA cc hR hW hC
  have c3 := hW.wk.cellv (i := 0 + 3) rfl
  have b3 := hR.bo n hn
  have e3 : w.cell? ⟨F.bgb n, p, none⟩ = some (.bool true) := by rw [← hb]; exact (hW.bg n hn).cellv (rowC_at _ (by omega))
  obtain ⟨M, hM⟩ : ∃ M, F.xs.length + 1 = M := ⟨_, rfl⟩
  rw [hM] at b3
  have g1 : (n : Int) < (F.l.length : Int) := by omega
  have g2 : (p : Int) < (M : Int) := by omega
  have HW := hideP hW
  clear hW hM hC hR
  go_enter Try.func28, Try.ntmps28
  go_wp2_with fail
  try simp only [Exit.inBlock, Exit.then]
  refine bodyPost_ret (results_none rfl _ _ _) rfl ?_
  exact ⟨rfl, OA, oc, .of_upd HW.out (Upd.refl _ _)⟩
def ConA (F : Fx) (S : Nat → Prop) (cl p : Nat) (c : List Int) : List Nat → WSt → WSt → Prop
  | [], s, s' => s' = s
  | m :: r, s, s' => ∃ s1, Con F S cl 28 m p c s s1 ∧ ConA F S cl p c r s1 s'
set_option maxRecDepth 100000 in
set_option maxHeartbeats 4000000 in
theorem begin_1 {F : Fx} {S : Nat → Prop} {cl n p : Nat} {c : List Int} {s s' : WSt} {x : PN} (hk : Tk F S cl) (hb : s.bg n p = false) (hx : F.l[n]? = some x) (hkd : x.kind = 1) (hcon : Con F S cl 37 n p c { s with bg := mark2 s.bg n p } s') : Con F S cl 28 n p c s s' := by
  intro hn hp hc w OA oc CA cc hR hW hC
  have c3 := hW.wk.cellv (i := 0 + 3) rfl
  have b3 := hR.bo n hn
  have e3 : w.cell? ⟨F.bgb n, p, none⟩ = some (.bool false) := by rw [← hb]; exact (hW.bg n hn).cellv (rowC_at _ (by omega))
  have f3 := (hW.bg n hn).frozen p
  have hN := hW.mark_b (p := p) hk.dis hn
  have hR1 := hR.mut hk.dis hW.lo hN.upd
  have hC1 := hC.nx hN
  obtain ⟨RA, rc, SA, sc, q0, q1, q2, q3, q4, q5, q6, q7, hrs, hsub, hin, hin2⟩ := node_cells (hR1.node n x hx)
  obtain ⟨w1, hw1⟩ : ∃ w1, w.setCell ⟨F.bgb n, p, none⟩ (.bool true) = w1 := ⟨_, rfl⟩
  rw [hw1] at hN hR1 hC1 q0 q1 q2 q3 q4 q5 q6 q7 hrs hsub
  have HW1 := hideP hw1
  have m0 := hN.wk.wk.cellv (i := 0) rfl
  have t0 := hR1.tab.cellv (i := 0) rfl
  obtain ⟨M, hM⟩ : ∃ M, F.xs.length + 1 = M := ⟨_, rfl⟩
  rw [hM] at b3
  have g1 : (n : Int) < (F.l.length : Int) := by omega
  have g2 : (p : Int) < (M : Int) := by omega
  have hAl : Upd Nob w1 (w1.alloc (.cells (pnCells x RA rc SA sc) 77)) := (Upd.refl Nob w1).alloc _
  have HX := hideP (Cells.new w1 77 (pnCells x RA rc SA sc))
  have HR := hideP (hR1.upd hAl (fun _ _ => not_nob))
  have HN := hideP (hN.trans (Nx.of_upd hN.wk hAl))
  have HC := hideP (hC1.nx (Nx.of_upd hN.wk hAl))
  have HRS := hideP (hrs.upd hAl (fun _ _ => not_nob))
  have HSUB := hideP (hsub.upd hAl (fun _ _ => not_nob))
  have hnm : ¬ Mut F OA w1.heap.size := fun hm => by
    have := hR1.base
    rcases hm with hm | hm
    · have := hk.dis.lt _ hm; omega
    · have := (hN.wk.out.lo hm).2; omega
  have HNM := hideP hnm
  have HLO := hideP hN.wk.lo
  have HKD := hideP hkd
  clear hR hW hC hsub hrs hnm hkd hN hR1 hC1 hM hb hw1
  go_enter Try.func28, Try.ntmps28
  go_upto_region 2 with fail
  rw [HW1.out]
  clear c3 b3 e3 f3
  go_upto_region 3 with fail
  change Code.wp _ _ _ _ (w1.alloc (.cells (pnCells x RA rc SA sc) 77))
  generalize w1.alloc (.cells (pnCells x RA rc SA sc) 77) = wa at *
  clear m0 t0 q0 q1 q2 q3 q4 q5 q6 q7
  generalize w1.heap.size = xb at *
  have y0 := HX.out.cellv (i := 0) (v := .int .i64 1) (by rw [← HKD.out]; rfl)
  go_wp2_with (go_at_call 37; refine (hcon hn hp hc wa OA oc CA cc HR.out HN.out.wk HC.out).mono ?_; rintro e wb ⟨rfl, OA1, oc1, hX1⟩)
  go_end0
  exact ⟨rfl, OA1, oc1, HN.out.trans hX1⟩
set_option maxRecDepth 100000 in
set_option maxHeartbeats 4000000 in
theorem begin_2y {F : Fx} {S : Nat → Prop} {cl n p : Nat} {c : List Int} {s s' : WSt} {x : PN} (hk : Tk F S cl) (hb : s.bg n p = false) (hx : F.l[n]? = some x) (hkd : x.kind = 2) (hlt : p < F.xs.length) (hfit : fitsB x.rs F.xs p = true) (hcon : Con F S cl 37 n (p + 1) c { s with bg := mark2 s.bg n p } s') : Con F S cl 28 n p c s s' := by
  intro hn hp hc w OA oc CA cc hR hW hC
  have c3 := hW.wk.cellv (i := 0 + 3) rfl
  have b3 := hR.bo n hn
  have e3 : w.cell? ⟨F.bgb n, p, none⟩ = some (.bool false) := by rw [← hb]; exact (hW.bg n hn).cellv (rowC_at _ (by omega))
  have f3 := (hW.bg n hn).frozen p
  have hN := hW.mark_b (p := p) hk.dis hn
  have hR1 := hR.mut hk.dis hW.lo hN.upd
  have hC1 := hC.nx hN
  obtain ⟨RA, rc, SA, sc, q0, q1, q2, q3, q4, q5, q6, q7, hrs, hsub, hin, hin2⟩ := node_cells (hR1.node n x hx)
  obtain ⟨w1, hw1⟩ : ∃ w1, w.setCell ⟨F.bgb n, p, none⟩ (.bool true) = w1 := ⟨_, rfl⟩
  rw [hw1] at hN hR1 hC1 q0 q1 q2 q3 q4 q5 q6 q7 hrs hsub
  have HW1 := hideP hw1
  have m0 := hN.wk.wk.cellv (i := 0) rfl
  have t0 := hR1.tab.cellv (i := 0) rfl
  obtain ⟨M, hM⟩ : ∃ M, F.xs.length + 1 = M := ⟨_, rfl⟩
  rw [hM] at b3
  have g1 : (n : Int) < (F.l.length : Int) := by omega
  have g2 : (p : Int) < (M : Int) := by omega
  have hAl : Upd Nob w1 (w1.alloc (.cells (pnCells x RA rc SA sc) 77)) := (Upd.refl Nob w1).alloc _
  have HX := hideP (Cells.new w1 77 (pnCells x RA rc SA sc))
  have HR := hideP (hR1.upd hAl (fun _ _ => not_nob))
  have HN := hideP (hN.trans (Nx.of_upd hN.wk hAl))
  have HC := hideP (hC1.nx (Nx.of_upd hN.wk hAl))
  have HRS := hideP (hrs.upd hAl (fun _ _ => not_nob))
  have HSUB := hideP (hsub.upd hAl (fun _ _ => not_nob))
  have hnm : ¬ Mut F OA w1.heap.size := fun hm => by
    have := hR1.base
    rcases hm with hm | hm
    · have := hk.dis.lt _ hm; omega
    · have := (hN.wk.out.lo hm).2; omega
  have HNM := hideP hnm
  have HLO := hideP hN.wk.lo
  have HKD := hideP hkd
  clear hR hW hC hsub hrs hnm hkd hN hR1 hC1 hM hb hw1
  go_enter Try.func28, Try.ntmps28
  go_upto_region 2 with fail
  rw [HW1.out]
  clear c3 b3 e3 f3
  go_upto_region 3 with fail
  change Code.wp _ _ _ _ (w1.alloc (.cells (pnCells x RA rc SA sc) 77))
  generalize w1.alloc (.cells (pnCells x RA rc SA sc) 77) = wa at *
  clear m0 t0 q0 q1 q2 q3 q4 q5 q6 q7
  generalize w1.heap.size = xb at *
  have y0 := HX.out.cellv (i := 0) (v := .int .i64 2) (by rw [← HKD.out]; rfl)
  have y3 := HX.out.cellv (i := 0 + 3) (v := .slice RA x.rs.length rc) rfl
  have l1 := HN.out.wk.wk.cellv (i := 0 + 1) rfl
  obtain ⟨ad2, cx, hTA, hcx, hcI, hat⟩ := HR.out.text.at_ (k := p) hlt
  have l9 := hat wa (Upd.refl _ _)
  have hq : hasB x.rs cx = true := by rw [← hfit]; unfold fitsB; rw [hcx]
  have hd : decide ((p : Int) < (F.xs.length : Int)) = true := decide_eq_true (by omega)
  have hjn : (p : Int) < (F.xs.length : Int) := by omega
  have HQ := hideP (show ∀ q, Calls Try.prog 38 #[.slice RA x.rs.length rc, .int .i64 cx] (wa.drewN q) fun e w'' => e = .returned (.bool true) ∧ ∃ m, w'' = wa.drewN m from fun q =>
    (ref_has (wa.drewN q) S RA x.rs.length rc x.rs (HRS.out.upd ((Upd.refl Nob wa).drewN q) (fun _ _ => not_nob)) cx hcI).mono (by
      rintro e w'' ⟨he, q2, rfl⟩
      exact ⟨by rw [he, hq], by first | exact ⟨_, rfl⟩ | exact drew_two _ _ _⟩))
  clear hfit hq hat hcx
  rw [hTA] at l1
  go_wp2_with fail
  go_quiet ((go_at_call 38; exact HQ.out _))
  have hp1 : IntKind.i64.wrap ((p : Int) + 1) = ((p + 1 : Nat) : Int) := by rw [IntKind.wrap_i64]; have := HR.out.short; omega
  go_wp2_with (go_at_call 37; refine (hcon hn (by omega) hc (wa.drewN _) OA oc CA cc (HR.out.upd ((Upd.refl Nob wa).drewN _) (fun _ _ => not_nob)) (HN.out.wk.upd ((Upd.refl Nob wa).drewN _)) (HC.out.nx (Nx.of_upd HN.out.wk ((Upd.refl Nob wa).drewN _)))).mono ?_; rintro e wb ⟨rfl, OA1, oc1, hX1⟩)
  go_end0
  exact ⟨rfl, OA1, oc1, (HN.out.trans (Nx.of_upd HN.out.wk ((Upd.refl Nob wa).drewN _))).trans hX1⟩
set_option maxRecDepth 100000 in
set_option maxHeartbeats 4000000 in
theorem begin_2n {F : Fx} {S : Nat → Prop} {cl n p : Nat} {c : List Int} {s  : WSt} {x : PN} (hk : Tk F S cl) (hb : s.bg n p = false) (hx : F.l[n]? = some x) (hkd : x.kind = 2) (hlt : p < F.xs.length) (hfit : fitsB x.rs F.xs p = false) : Con F S cl 28 n p c s { s with bg := mark2 s.bg n p } := by
  intro hn hp hc w OA oc CA cc hR hW hC
  have c3 := hW.wk.cellv (i := 0 + 3) rfl
  have b3 := hR.bo n hn
  have e3 : w.cell? ⟨F.bgb n, p, none⟩ = some (.bool false) := by rw [← hb]; exact (hW.bg n hn).cellv (rowC_at _ (by omega))
  have f3 := (hW.bg n hn).frozen p
  have hN := hW.mark_b (p := p) hk.dis hn
  have hR1 := hR.mut hk.dis hW.lo hN.upd
  have hC1 := hC.nx hN
  obtain ⟨RA, rc, SA, sc, q0, q1, q2, q3, q4, q5, q6, q7, hrs, hsub, hin, hin2⟩ := node_cells (hR1.node n x hx)
  obtain ⟨w1, hw1⟩ : ∃ w1, w.setCell ⟨F.bgb n, p, none⟩ (.bool true) = w1 := ⟨_, rfl⟩
  rw [hw1] at hN hR1 hC1 q0 q1 q2 q3 q4 q5 q6 q7 hrs hsub
  have HW1 := hideP hw1
  have m0 := hN.wk.wk.cellv (i := 0) rfl
  have t0 := hR1.tab.cellv (i := 0) rfl
  obtain ⟨M, hM⟩ : ∃ M, F.xs.length + 1 = M := ⟨_, rfl⟩
  rw [hM] at b3
  have g1 : (n : Int) < (F.l.length : Int) := by omega
  have g2 : (p : Int) < (M : Int) := by omega
  have hAl : Upd Nob w1 (w1.alloc (.cells (pnCells x RA rc SA sc) 77)) := (Upd.refl Nob w1).alloc _
  have HX := hideP (Cells.new w1 77 (pnCells x RA rc SA sc))
  have HR := hideP (hR1.upd hAl (fun _ _ => not_nob))
  have HN := hideP (hN.trans (Nx.of_upd hN.wk hAl))
  have HC := hideP (hC1.nx (Nx.of_upd hN.wk hAl))
  have HRS := hideP (hrs.upd hAl (fun _ _ => not_nob))
  have HSUB := hideP (hsub.upd hAl (fun _ _ => not_nob))
  have hnm : ¬ Mut F OA w1.heap.size := fun hm => by
    have := hR1.base
    rcases hm with hm | hm
    · have := hk.dis.lt _ hm; omega
    · have := (hN.wk.out.lo hm).2; omega
  have HNM := hideP hnm
  have HLO := hideP hN.wk.lo
  have HKD := hideP hkd
  clear hR hW hC hsub hrs hnm hkd hN hR1 hC1 hM hb hw1
  go_enter Try.func28, Try.ntmps28
  go_upto_region 2 with fail
  rw [HW1.out]
  clear c3 b3 e3 f3
  go_upto_region 3 with fail
  change Code.wp _ _ _ _ (w1.alloc (.cells (pnCells x RA rc SA sc) 77))
  generalize w1.alloc (.cells (pnCells x RA rc SA sc) 77) = wa at *
  clear m0 t0 q0 q1 q2 q3 q4 q5 q6 q7
  generalize w1.heap.size = xb at *
  have y0 := HX.out.cellv (i := 0) (v := .int .i64 2) (by rw [← HKD.out]; rfl)
  have y3 := HX.out.cellv (i := 0 + 3) (v := .slice RA x.rs.length rc) rfl
  have l1 := HN.out.wk.wk.cellv (i := 0 + 1) rfl
  obtain ⟨ad2, cx, hTA, hcx, hcI, hat⟩ := HR.out.text.at_ (k := p) hlt
  have l9 := hat wa (Upd.refl _ _)
  have hq : hasB x.rs cx = false := by rw [← hfit]; unfold fitsB; rw [hcx]
  have hd : decide ((p : Int) < (F.xs.length : Int)) = true := decide_eq_true (by omega)
  have hjn : (p : Int) < (F.xs.length : Int) := by omega
  have HQ := hideP (show ∀ q, Calls Try.prog 38 #[.slice RA x.rs.length rc, .int .i64 cx] (wa.drewN q) fun e w'' => e = .returned (.bool false) ∧ ∃ m, w'' = wa.drewN m from fun q =>
    (ref_has (wa.drewN q) S RA x.rs.length rc x.rs (HRS.out.upd ((Upd.refl Nob wa).drewN q) (fun _ _ => not_nob)) cx hcI).mono (by
      rintro e w'' ⟨he, q2, rfl⟩
      exact ⟨by rw [he, hq], by first | exact ⟨_, rfl⟩ | exact drew_two _ _ _⟩))
  clear hfit hq hat hcx
  rw [hTA] at l1
  go_wp2_with fail
  go_quiet ((go_at_call 38; exact HQ.out _))
  go_wp2_with fail
  go_end0
  exact ⟨rfl, OA, oc, HN.out.trans (Nx.of_upd HN.out.wk ((Upd.refl Nob wa).drewN _))⟩
set_option maxRecDepth 100000 in
set_option maxHeartbeats 4000000 in
theorem begin_2e {F : Fx} {S : Nat → Prop} {cl n p : Nat} {c : List Int} {s  : WSt} {x : PN} (hk : Tk F S cl) (hb : s.bg n p = false) (hx : F.l[n]? = some x) (hkd : x.kind = 2) (hlt : ¬ p < F.xs.length) : Con F S cl 28 n p c s { s with bg := mark2 s.bg n p } := by
  intro hn hp hc w OA oc CA cc hR hW hC
  have c3 := hW.wk.cellv (i := 0 + 3) rfl
  have b3 := hR.bo n hn
  have e3 : w.cell? ⟨F.bgb n, p, none⟩ = some (.bool false) := by rw [← hb]; exact (hW.bg n hn).cellv (rowC_at _ (by omega))
  have f3 := (hW.bg n hn).frozen p
  have hN := hW.mark_b (p := p) hk.dis hn
  have hR1 := hR.mut hk.dis hW.lo hN.upd
  have hC1 := hC.nx hN
  obtain ⟨RA, rc, SA, sc, q0, q1, q2, q3, q4, q5, q6, q7, hrs, hsub, hin, hin2⟩ := node_cells (hR1.node n x hx)
  obtain ⟨w1, hw1⟩ : ∃ w1, w.setCell ⟨F.bgb n, p, none⟩ (.bool true) = w1 := ⟨_, rfl⟩
  rw [hw1] at hN hR1 hC1 q0 q1 q2 q3 q4 q5 q6 q7 hrs hsub
  have HW1 := hideP hw1
  have m0 := hN.wk.wk.cellv (i := 0) rfl
  have t0 := hR1.tab.cellv (i := 0) rfl
  obtain ⟨M, hM⟩ : ∃ M, F.xs.length + 1 = M := ⟨_, rfl⟩
  rw [hM] at b3
  have g1 : (n : Int) < (F.l.length : Int) := by omega
  have g2 : (p : Int) < (M : Int) := by omega
  have hAl : Upd Nob w1 (w1.alloc (.cells (pnCells x RA rc SA sc) 77)) := (Upd.refl Nob w1).alloc _
  have HX := hideP (Cells.new w1 77 (pnCells x RA rc SA sc))
  have HR := hideP (hR1.upd hAl (fun _ _ => not_nob))
  have HN := hideP (hN.trans (Nx.of_upd hN.wk hAl))
  have HC := hideP (hC1.nx (Nx.of_upd hN.wk hAl))
  have HRS := hideP (hrs.upd hAl (fun _ _ => not_nob))
  have HSUB := hideP (hsub.upd hAl (fun _ _ => not_nob))
  have hnm : ¬ Mut F OA w1.heap.size := fun hm => by
    have := hR1.base
    rcases hm with hm | hm
    · have := hk.dis.lt _ hm; omega
    · have := (hN.wk.out.lo hm).2; omega
  have HNM := hideP hnm
  have HLO := hideP hN.wk.lo
  have HKD := hideP hkd
  clear hR hW hC hsub hrs hnm hkd hN hR1 hC1 hM hb hw1
  go_enter Try.func28, Try.ntmps28
  go_upto_region 2 with fail
  rw [HW1.out]
  clear c3 b3 e3 f3
  go_upto_region 3 with fail
  change Code.wp _ _ _ _ (w1.alloc (.cells (pnCells x RA rc SA sc) 77))
  generalize w1.alloc (.cells (pnCells x RA rc SA sc) 77) = wa at *
  clear m0 t0 q0 q1 q2 q3 q4 q5 q6 q7
  generalize w1.heap.size = xb at *
  have y0 := HX.out.cellv (i := 0) (v := .int .i64 2) (by rw [← HKD.out]; rfl)
  have l1 := HN.out.wk.wk.cellv (i := 0 + 1) rfl
  have hd : decide ((p : Int) < (F.xs.length : Int)) = false := decide_eq_false (by omega)
  have hjn : ¬ (p : Int) < (F.xs.length : Int) := by omega
  go_wp2_with fail
  go_quiet (fail)
  go_wp2_with fail
  go_end0
  exact ⟨rfl, OA, oc, HN.out.trans (Nx.of_upd HN.out.wk ((Upd.refl Nob wa).drewN _))⟩
set_option maxRecDepth 100000 in
set_option maxHeartbeats 4000000 in
theorem begin_3y {F : Fx} {S : Nat → Prop} {cl n p : Nat} {c : List Int} {s s' : WSt} {x : PN} (hk : Tk F S cl) (hb : s.bg n p = false) (hx : F.l[n]? = some x) (hkd : x.kind = 3) (hfit : holdsB x.asr (lookAt F.xs (p : Int)) = true) (hcon : Con F S cl 37 n p c { s with bg := mark2 s.bg n p } s') : Con F S cl 28 n p c s s' := by
  intro hn hp hc w OA oc CA cc hR hW hC
  have c3 := hW.wk.cellv (i := 0 + 3) rfl
  have b3 := hR.bo n hn
  have e3 : w.cell? ⟨F.bgb n, p, none⟩ = some (.bool false) := by rw [← hb]; exact (hW.bg n hn).cellv (rowC_at _ (by omega))
  have f3 := (hW.bg n hn).frozen p
  have hN := hW.mark_b (p := p) hk.dis hn
  have hR1 := hR.mut hk.dis hW.lo hN.upd
  have hC1 := hC.nx hN
  obtain ⟨RA, rc, SA, sc, q0, q1, q2, q3, q4, q5, q6, q7, hrs, hsub, hin, hin2⟩ := node_cells (hR1.node n x hx)
  obtain ⟨w1, hw1⟩ : ∃ w1, w.setCell ⟨F.bgb n, p, none⟩ (.bool true) = w1 := ⟨_, rfl⟩
  rw [hw1] at hN hR1 hC1 q0 q1 q2 q3 q4 q5 q6 q7 hrs hsub
  have HW1 := hideP hw1
  have m0 := hN.wk.wk.cellv (i := 0) rfl
  have t0 := hR1.tab.cellv (i := 0) rfl
  obtain ⟨M, hM⟩ : ∃ M, F.xs.length + 1 = M := ⟨_, rfl⟩
  rw [hM] at b3
  have g1 : (n : Int) < (F.l.length : Int) := by omega
  have g2 : (p : Int) < (M : Int) := by omega
  have hAl : Upd Nob w1 (w1.alloc (.cells (pnCells x RA rc SA sc) 77)) := (Upd.refl Nob w1).alloc _
  have HX := hideP (Cells.new w1 77 (pnCells x RA rc SA sc))
  have HR := hideP (hR1.upd hAl (fun _ _ => not_nob))
  have HN := hideP (hN.trans (Nx.of_upd hN.wk hAl))
  have HC := hideP (hC1.nx (Nx.of_upd hN.wk hAl))
  have HRS := hideP (hrs.upd hAl (fun _ _ => not_nob))
  have HSUB := hideP (hsub.upd hAl (fun _ _ => not_nob))
  have hnm : ¬ Mut F OA w1.heap.size := fun hm => by
    have := hR1.base
    rcases hm with hm | hm
    · have := hk.dis.lt _ hm; omega
    · have := (hN.wk.out.lo hm).2; omega
  have HNM := hideP hnm
  have HLO := hideP hN.wk.lo
  have HKD := hideP hkd
  clear hR hW hC hsub hrs hnm hkd hN hR1 hC1 hM hb hw1
  go_enter Try.func28, Try.ntmps28
  go_upto_region 2 with fail
  rw [HW1.out]
  clear c3 b3 e3 f3
  go_upto_region 3 with fail
  change Code.wp _ _ _ _ (w1.alloc (.cells (pnCells x RA rc SA sc) 77))
  generalize w1.alloc (.cells (pnCells x RA rc SA sc) 77) = wa at *
  clear m0 t0 q0 q1 q2 q3 q4 q5 q6 q7
  generalize w1.heap.size = xb at *
  have y0 := HX.out.cellv (i := 0) (v := .int .i64 3) (by rw [← HKD.out]; rfl)
  have y1 := HX.out.cellv (i := 0 + 1) (v := .int .i64 x.asr) rfl
  have l1 := HN.out.wk.wk.cellv (i := 0 + 1) rfl
  have hpt : lookAt F.xs (p : Int) = part F.xs p 6 := by unfold lookAt; rw [if_pos (by omega), Int.toNat_natCast]
  rw [hpt] at hfit
  have hpb := part_bounds F.xs p 6
  have hpI : In64 (part F.xs p 6) := by unfold In64; omega
  have HF := hideP hfit
  clear hfit hpt
  have HAT := hideP (refAt_in wa S F.TA F.xs.length F.tc p F.xs HR.out.text hp)
  generalize part F.xs p 6 = pv at *
  go_wp2_with (first | (go_at_call 39; refine HAT.out.mono ?_; rintro e w5 ⟨rfl, hw5⟩; subst hw5) | (go_at_call 40; refine (refHolds_any _ x.asr pv hin hpI).mono ?_; rw [HF.out]; rintro e w6 ⟨rfl, hw6⟩; subst hw6) | (go_at_call 37; refine (hcon hn hp hc _ OA oc CA cc HR.out HN.out.wk HC.out).mono ?_; rintro e wb ⟨rfl, OA1, oc1, hX1⟩))
  go_end0
  exact ⟨rfl, OA1, oc1, HN.out.trans hX1⟩
set_option maxRecDepth 100000 in
set_option maxHeartbeats 4000000 in
theorem begin_3n {F : Fx} {S : Nat → Prop} {cl n p : Nat} {c : List Int} {s  : WSt} {x : PN} (hk : Tk F S cl) (hb : s.bg n p = false) (hx : F.l[n]? = some x) (hkd : x.kind = 3) (hfit : holdsB x.asr (lookAt F.xs (p : Int)) = false) : Con F S cl 28 n p c s { s with bg := mark2 s.bg n p } := by
  intro hn hp hc w OA oc CA cc hR hW hC
  have c3 := hW.wk.cellv (i := 0 + 3) rfl
  have b3 := hR.bo n hn
  have e3 : w.cell? ⟨F.bgb n, p, none⟩ = some (.bool false) := by rw [← hb]; exact (hW.bg n hn).cellv (rowC_at _ (by omega))
  have f3 := (hW.bg n hn).frozen p
  have hN := hW.mark_b (p := p) hk.dis hn
  have hR1 := hR.mut hk.dis hW.lo hN.upd
  have hC1 := hC.nx hN
  obtain ⟨RA, rc, SA, sc, q0, q1, q2, q3, q4, q5, q6, q7, hrs, hsub, hin, hin2⟩ := node_cells (hR1.node n x hx)
  obtain ⟨w1, hw1⟩ : ∃ w1, w.setCell ⟨F.bgb n, p, none⟩ (.bool true) = w1 := ⟨_, rfl⟩
  rw [hw1] at hN hR1 hC1 q0 q1 q2 q3 q4 q5 q6 q7 hrs hsub
  have HW1 := hideP hw1
  have m0 := hN.wk.wk.cellv (i := 0) rfl
  have t0 := hR1.tab.cellv (i := 0) rfl
  obtain ⟨M, hM⟩ : ∃ M, F.xs.length + 1 = M := ⟨_, rfl⟩
  rw [hM] at b3
  have g1 : (n : Int) < (F.l.length : Int) := by omega
  have g2 : (p : Int) < (M : Int) := by omega
  have hAl : Upd Nob w1 (w1.alloc (.cells (pnCells x RA rc SA sc) 77)) := (Upd.refl Nob w1).alloc _
  have HX := hideP (Cells.new w1 77 (pnCells x RA rc SA sc))
  have HR := hideP (hR1.upd hAl (fun _ _ => not_nob))
  have HN := hideP (hN.trans (Nx.of_upd hN.wk hAl))
  have HC := hideP (hC1.nx (Nx.of_upd hN.wk hAl))
  have HRS := hideP (hrs.upd hAl (fun _ _ => not_nob))
  have HSUB := hideP (hsub.upd hAl (fun _ _ => not_nob))
  have hnm : ¬ Mut F OA w1.heap.size := fun hm => by
    have := hR1.base
    rcases hm with hm | hm
    · have := hk.dis.lt _ hm; omega
    · have := (hN.wk.out.lo hm).2; omega
  have HNM := hideP hnm
  have HLO := hideP hN.wk.lo
  have HKD := hideP hkd
  clear hR hW hC hsub hrs hnm hkd hN hR1 hC1 hM hb hw1
  go_enter Try.func28, Try.ntmps28
  go_upto_region 2 with fail
  rw [HW1.out]
  clear c3 b3 e3 f3
  go_upto_region 3 with fail
  change Code.wp _ _ _ _ (w1.alloc (.cells (pnCells x RA rc SA sc) 77))
  generalize w1.alloc (.cells (pnCells x RA rc SA sc) 77) = wa at *
  clear m0 t0 q0 q1 q2 q3 q4 q5 q6 q7
  generalize w1.heap.size = xb at *
  have y0 := HX.out.cellv (i := 0) (v := .int .i64 3) (by rw [← HKD.out]; rfl)
  have y1 := HX.out.cellv (i := 0 + 1) (v := .int .i64 x.asr) rfl
  have l1 := HN.out.wk.wk.cellv (i := 0 + 1) rfl
  have hpt : lookAt F.xs (p : Int) = part F.xs p 6 := by unfold lookAt; rw [if_pos (by omega), Int.toNat_natCast]
  rw [hpt] at hfit
  have hpb := part_bounds F.xs p 6
  have hpI : In64 (part F.xs p 6) := by unfold In64; omega
  have HF := hideP hfit
  clear hfit hpt
  have HAT := hideP (refAt_in wa S F.TA F.xs.length F.tc p F.xs HR.out.text hp)
  generalize part F.xs p 6 = pv at *
  go_wp2_with (first | (go_at_call 39; refine HAT.out.mono ?_; rintro e w5 ⟨rfl, hw5⟩; subst hw5) | (go_at_call 40; refine (refHolds_any _ x.asr pv hin hpI).mono ?_; rw [HF.out]; rintro e w6 ⟨rfl, hw6⟩; subst hw6))
  go_end0
  exact ⟨rfl, OA, oc, HN.out⟩
set_option maxRecDepth 100000 in
set_option maxHeartbeats 4000000 in
theorem begin_4 {F : Fx} {S : Nat → Prop} {cl n p : Nat} {c : List Int} {s s' : WSt} {x : PN} (hk : Tk F S cl) (hb : s.bg n p = false) (hx : F.l[n]? = some x) (hkd : x.kind = 4) (h0 : x.subs ≠ []) (hcon : Con F S cl 28 (subW x) p c { s with bg := mark2 s.bg n p } s') : Con F S cl 28 n p c s s' := by
  intro hn hp hc w OA oc CA cc hR hW hC
  have c3 := hW.wk.cellv (i := 0 + 3) rfl
  have b3 := hR.bo n hn
  have e3 : w.cell? ⟨F.bgb n, p, none⟩ = some (.bool false) := by rw [← hb]; exact (hW.bg n hn).cellv (rowC_at _ (by omega))
  have f3 := (hW.bg n hn).frozen p
  have hN := hW.mark_b (p := p) hk.dis hn
  have hR1 := hR.mut hk.dis hW.lo hN.upd
  have hC1 := hC.nx hN
  obtain ⟨RA, rc, SA, sc, q0, q1, q2, q3, q4, q5, q6, q7, hrs, hsub, hin, hin2⟩ := node_cells (hR1.node n x hx)
  obtain ⟨w1, hw1⟩ : ∃ w1, w.setCell ⟨F.bgb n, p, none⟩ (.bool true) = w1 := ⟨_, rfl⟩
  rw [hw1] at hN hR1 hC1 q0 q1 q2 q3 q4 q5 q6 q7 hrs hsub
  have HW1 := hideP hw1
  have m0 := hN.wk.wk.cellv (i := 0) rfl
  have t0 := hR1.tab.cellv (i := 0) rfl
  obtain ⟨M, hM⟩ : ∃ M, F.xs.length + 1 = M := ⟨_, rfl⟩
  rw [hM] at b3
  have g1 : (n : Int) < (F.l.length : Int) := by omega
  have g2 : (p : Int) < (M : Int) := by omega
  have hAl : Upd Nob w1 (w1.alloc (.cells (pnCells x RA rc SA sc) 77)) := (Upd.refl Nob w1).alloc _
  have HX := hideP (Cells.new w1 77 (pnCells x RA rc SA sc))
  have HR := hideP (hR1.upd hAl (fun _ _ => not_nob))
  have HN := hideP (hN.trans (Nx.of_upd hN.wk hAl))
  have HC := hideP (hC1.nx (Nx.of_upd hN.wk hAl))
  have HRS := hideP (hrs.upd hAl (fun _ _ => not_nob))
  have HSUB := hideP (hsub.upd hAl (fun _ _ => not_nob))
  have hnm : ¬ Mut F OA w1.heap.size := fun hm => by
    have := hR1.base
    rcases hm with hm | hm
    · have := hk.dis.lt _ hm; omega
    · have := (hN.wk.out.lo hm).2; omega
  have HNM := hideP hnm
  have HLO := hideP hN.wk.lo
  have HKD := hideP hkd
  clear hR hW hC hsub hrs hnm hkd hN hR1 hC1 hM hb hw1
  go_enter Try.func28, Try.ntmps28
  go_upto_region 2 with fail
  rw [HW1.out]
  clear c3 b3 e3 f3
  go_upto_region 3 with fail
  change Code.wp _ _ _ _ (w1.alloc (.cells (pnCells x RA rc SA sc) 77))
  generalize w1.alloc (.cells (pnCells x RA rc SA sc) 77) = wa at *
  clear m0 t0 q0 q1 q2 q3 q4 q5 q6 q7
  generalize w1.heap.size = xb at *
  have y0 := HX.out.cellv (i := 0) (v := .int .i64 4) (by rw [← HKD.out]; rfl)
  have y4 := HX.out.cellv (i := 0 + 4) (v := .slice SA x.subs.length sc) rfl
  obtain ⟨sa, rfl, hsb, hsS, z0⟩ := sub_first HSUB.out h0
  have hsl := hk.sub n x hx (subW x) (by obtain ⟨a, r, e⟩ := List.exists_cons_of_ne_nil h0; simp [subW, e])
  have hpos : 0 < x.subs.length := List.length_pos_iff.2 h0
  have hposI : (0 : Int) < (x.subs.length : Int) := by omega
  go_wp2_with (go_at_call 28; refine (hcon hsl hp hc wa OA oc CA cc HR.out HN.out.wk HC.out).mono ?_; rintro e wb ⟨rfl, OA1, oc1, hX1⟩)
  go_end0
  exact ⟨rfl, OA1, oc1, HN.out.trans hX1⟩
set_option maxRecDepth 100000 in
set_option maxHeartbeats 4000000 in
theorem begin_102 {F : Fx} {S : Nat → Prop} {cl n p : Nat} {c : List Int} {s s' : WSt} {x : PN} (hk : Tk F S cl) (hb : s.bg n p = false) (hx : F.l[n]? = some x) (hkd : x.kind = 102) (h0 : x.subs ≠ []) (hcon : Con F S cl 28 (subW x) p c { s with bg := mark2 s.bg n p } s') : Con F S cl 28 n p c s s' := by
  intro hn hp hc w OA oc CA cc hR hW hC
  have c3 := hW.wk.cellv (i := 0 + 3) rfl
  have b3 := hR.bo n hn
  have e3 : w.cell? ⟨F.bgb n, p, none⟩ = some (.bool false) := by rw [← hb]; exact (hW.bg n hn).cellv (rowC_at _ (by omega))
  have f3 := (hW.bg n hn).frozen p
  have hN := hW.mark_b (p := p) hk.dis hn
  have hR1 := hR.mut hk.dis hW.lo hN.upd
  have hC1 := hC.nx hN
  obtain ⟨RA, rc, SA, sc, q0, q1, q2, q3, q4, q5, q6, q7, hrs, hsub, hin, hin2⟩ := node_cells (hR1.node n x hx)
  obtain ⟨w1, hw1⟩ : ∃ w1, w.setCell ⟨F.bgb n, p, none⟩ (.bool true) = w1 := ⟨_, rfl⟩
  rw [hw1] at hN hR1 hC1 q0 q1 q2 q3 q4 q5 q6 q7 hrs hsub
  have HW1 := hideP hw1
  have m0 := hN.wk.wk.cellv (i := 0) rfl
  have t0 := hR1.tab.cellv (i := 0) rfl
  obtain ⟨M, hM⟩ : ∃ M, F.xs.length + 1 = M := ⟨_, rfl⟩
  rw [hM] at b3
  have g1 : (n : Int) < (F.l.length : Int) := by omega
  have g2 : (p : Int) < (M : Int) := by omega
  have hAl : Upd Nob w1 (w1.alloc (.cells (pnCells x RA rc SA sc) 77)) := (Upd.refl Nob w1).alloc _
  have HX := hideP (Cells.new w1 77 (pnCells x RA rc SA sc))
  have HR := hideP (hR1.upd hAl (fun _ _ => not_nob))
  have HN := hideP (hN.trans (Nx.of_upd hN.wk hAl))
  have HC := hideP (hC1.nx (Nx.of_upd hN.wk hAl))
  have HRS := hideP (hrs.upd hAl (fun _ _ => not_nob))
  have HSUB := hideP (hsub.upd hAl (fun _ _ => not_nob))
  have hnm : ¬ Mut F OA w1.heap.size := fun hm => by
    have := hR1.base
    rcases hm with hm | hm
    · have := hk.dis.lt _ hm; omega
    · have := (hN.wk.out.lo hm).2; omega
  have HNM := hideP hnm
  have HLO := hideP hN.wk.lo
  have HKD := hideP hkd
  clear hR hW hC hsub hrs hnm hkd hN hR1 hC1 hM hb hw1
  go_enter Try.func28, Try.ntmps28
  go_upto_region 2 with fail
  rw [HW1.out]
  clear c3 b3 e3 f3
  go_upto_region 3 with fail
  change Code.wp _ _ _ _ (w1.alloc (.cells (pnCells x RA rc SA sc) 77))
  generalize w1.alloc (.cells (pnCells x RA rc SA sc) 77) = wa at *
  clear m0 t0 q0 q1 q2 q3 q4 q5 q6 q7
  generalize w1.heap.size = xb at *
  have y0 := HX.out.cellv (i := 0) (v := .int .i64 102) (by rw [← HKD.out]; rfl)
  have y4 := HX.out.cellv (i := 0 + 4) (v := .slice SA x.subs.length sc) rfl
  obtain ⟨sa, rfl, hsb, hsS, z0⟩ := sub_first HSUB.out h0
  have hsl := hk.sub n x hx (subW x) (by obtain ⟨a, r, e⟩ := List.exists_cons_of_ne_nil h0; simp [subW, e])
  have hpos : 0 < x.subs.length := List.length_pos_iff.2 h0
  have hposI : (0 : Int) < (x.subs.length : Int) := by omega
  go_wp2_with (go_at_call 28; refine (hcon hsl hp hc wa OA oc CA cc HR.out HN.out.wk HC.out).mono ?_; rintro e wb ⟨rfl, OA1, oc1, hX1⟩)
  go_end0
  exact ⟨rfl, OA1, oc1, HN.out.trans hX1⟩
set_option maxRecDepth 100000 in
set_option maxHeartbeats 4000000 in
theorem begin_103 {F : Fx} {S : Nat → Prop} {cl n p : Nat} {c : List Int} {s s' : WSt} {x : PN} (hk : Tk F S cl) (hb : s.bg n p = false) (hx : F.l[n]? = some x) (hkd : x.kind = 103) (hcon : Con F S cl 42 n p c { s with bg := mark2 s.bg n p } s') : Con F S cl 28 n p c s s' := by
  intro hn hp hc w OA oc CA cc hR hW hC
  have c3 := hW.wk.cellv (i := 0 + 3) rfl
  have b3 := hR.bo n hn
  have e3 : w.cell? ⟨F.bgb n, p, none⟩ = some (.bool false) := by rw [← hb]; exact (hW.bg n hn).cellv (rowC_at _ (by omega))
  have f3 := (hW.bg n hn).frozen p
  have hN := hW.mark_b (p := p) hk.dis hn
  have hR1 := hR.mut hk.dis hW.lo hN.upd
  have hC1 := hC.nx hN
  obtain ⟨RA, rc, SA, sc, q0, q1, q2, q3, q4, q5, q6, q7, hrs, hsub, hin, hin2⟩ := node_cells (hR1.node n x hx)
  obtain ⟨w1, hw1⟩ : ∃ w1, w.setCell ⟨F.bgb n, p, none⟩ (.bool true) = w1 := ⟨_, rfl⟩
  rw [hw1] at hN hR1 hC1 q0 q1 q2 q3 q4 q5 q6 q7 hrs hsub
  have HW1 := hideP hw1
  have m0 := hN.wk.wk.cellv (i := 0) rfl
  have t0 := hR1.tab.cellv (i := 0) rfl
  obtain ⟨M, hM⟩ : ∃ M, F.xs.length + 1 = M := ⟨_, rfl⟩
  rw [hM] at b3
  have g1 : (n : Int) < (F.l.length : Int) := by omega
  have g2 : (p : Int) < (M : Int) := by omega
  have hAl : Upd Nob w1 (w1.alloc (.cells (pnCells x RA rc SA sc) 77)) := (Upd.refl Nob w1).alloc _
  have HX := hideP (Cells.new w1 77 (pnCells x RA rc SA sc))
  have HR := hideP (hR1.upd hAl (fun _ _ => not_nob))
  have HN := hideP (hN.trans (Nx.of_upd hN.wk hAl))
  have HC := hideP (hC1.nx (Nx.of_upd hN.wk hAl))
  have HRS := hideP (hrs.upd hAl (fun _ _ => not_nob))
  have HSUB := hideP (hsub.upd hAl (fun _ _ => not_nob))
  have hnm : ¬ Mut F OA w1.heap.size := fun hm => by
    have := hR1.base
    rcases hm with hm | hm
    · have := hk.dis.lt _ hm; omega
    · have := (hN.wk.out.lo hm).2; omega
  have HNM := hideP hnm
  have HLO := hideP hN.wk.lo
  have HKD := hideP hkd
  clear hR hW hC hsub hrs hnm hkd hN hR1 hC1 hM hb hw1
  go_enter Try.func28, Try.ntmps28
  go_upto_region 2 with fail
  rw [HW1.out]
  clear c3 b3 e3 f3
  go_upto_region 3 with fail
  change Code.wp _ _ _ _ (w1.alloc (.cells (pnCells x RA rc SA sc) 77))
  generalize w1.alloc (.cells (pnCells x RA rc SA sc) 77) = wa at *
  clear m0 t0 q0 q1 q2 q3 q4 q5 q6 q7
  generalize w1.heap.size = xb at *
  have y0 := HX.out.cellv (i := 0) (v := .int .i64 103) (by rw [← HKD.out]; rfl)
  go_wp2_with (go_at_call 42; refine (hcon hn hp hc wa OA oc CA cc HR.out HN.out.wk HC.out).mono ?_; rintro e wb ⟨rfl, OA1, oc1, hX1⟩)
  go_end0
  exact ⟨rfl, OA1, oc1, HN.out.trans hX1⟩
set_option maxRecDepth 100000 in
set_option maxHeartbeats 4000000 in
theorem begin_101 {F : Fx} {S : Nat → Prop} {cl n p : Nat} {c : List Int} {s s' : WSt} {x : PN} (hk : Tk F S cl) (hb : s.bg n p = false) (hx : F.l[n]? = some x) (hkd : x.kind = 101) (hcon : Con F S cl 43 n p c { s with bg := mark2 s.bg n p } s') : Con F S cl 28 n p c s s' := by
  intro hn hp hc w OA oc CA cc hR hW hC
  have c3 := hW.wk.cellv (i := 0 + 3) rfl
  have b3 := hR.bo n hn
  have e3 : w.cell? ⟨F.bgb n, p, none⟩ = some (.bool false) := by rw [← hb]; exact (hW.bg n hn).cellv (rowC_at _ (by omega))
  have f3 := (hW.bg n hn).frozen p
  have hN := hW.mark_b (p := p) hk.dis hn
  have hR1 := hR.mut hk.dis hW.lo hN.upd
  have hC1 := hC.nx hN
  obtain ⟨RA, rc, SA, sc, q0, q1, q2, q3, q4, q5, q6, q7, hrs, hsub, hin, hin2⟩ := node_cells (hR1.node n x hx)
  obtain ⟨w1, hw1⟩ : ∃ w1, w.setCell ⟨F.bgb n, p, none⟩ (.bool true) = w1 := ⟨_, rfl⟩
  rw [hw1] at hN hR1 hC1 q0 q1 q2 q3 q4 q5 q6 q7 hrs hsub
  have HW1 := hideP hw1
  have m0 := hN.wk.wk.cellv (i := 0) rfl
  have t0 := hR1.tab.cellv (i := 0) rfl
  obtain ⟨M, hM⟩ : ∃ M, F.xs.length + 1 = M := ⟨_, rfl⟩
  rw [hM] at b3
  have g1 : (n : Int) < (F.l.length : Int) := by omega
  have g2 : (p : Int) < (M : Int) := by omega
  have hAl : Upd Nob w1 (w1.alloc (.cells (pnCells x RA rc SA sc) 77)) := (Upd.refl Nob w1).alloc _
  have HX := hideP (Cells.new w1 77 (pnCells x RA rc SA sc))
  have HR := hideP (hR1.upd hAl (fun _ _ => not_nob))
  have HN := hideP (hN.trans (Nx.of_upd hN.wk hAl))
  have HC := hideP (hC1.nx (Nx.of_upd hN.wk hAl))
  have HRS := hideP (hrs.upd hAl (fun _ _ => not_nob))
  have HSUB := hideP (hsub.upd hAl (fun _ _ => not_nob))
  have hnm : ¬ Mut F OA w1.heap.size := fun hm => by
    have := hR1.base
    rcases hm with hm | hm
    · have := hk.dis.lt _ hm; omega
    · have := (hN.wk.out.lo hm).2; omega
  have HNM := hideP hnm
  have HLO := hideP hN.wk.lo
  have HKD := hideP hkd
  clear hR hW hC hsub hrs hnm hkd hN hR1 hC1 hM hb hw1
  go_enter Try.func28, Try.ntmps28
  go_upto_region 2 with fail
  rw [HW1.out]
  clear c3 b3 e3 f3
  go_upto_region 3 with fail
  change Code.wp _ _ _ _ (w1.alloc (.cells (pnCells x RA rc SA sc) 77))
  generalize w1.alloc (.cells (pnCells x RA rc SA sc) 77) = wa at *
  clear m0 t0 q0 q1 q2 q3 q4 q5 q6 q7
  generalize w1.heap.size = xb at *
  have y0 := HX.out.cellv (i := 0) (v := .int .i64 101) (by rw [← HKD.out]; rfl)
  go_wp2_with (go_at_call 43; refine (hcon hn hp hc wa OA oc CA cc HR.out HN.out.wk HC.out).mono ?_; rintro e wb ⟨rfl, OA1, oc1, hX1⟩)
  go_end0
  exact ⟨rfl, OA1, oc1, HN.out.trans hX1⟩
set_option maxRecDepth 100000 in
set_option maxHeartbeats 4000000 in
theorem begin_5 {F : Fx} {S : Nat → Prop} {cl n p : Nat} {c : List Int} {s s' : WSt} {x : PN} (hk : Tk F S cl) (hb : s.bg n p = false) (hx : F.l[n]? = some x) (hkd : x.kind = 5) (hcon : ConA F S cl p c x.subs { s with bg := mark2 s.bg n p } s') : Con F S cl 28 n p c s s' := by
  intro hn hp hc w OA oc CA cc hR hW hC
  have c3 := hW.wk.cellv (i := 0 + 3) rfl
  have b3 := hR.bo n hn
  have e3 : w.cell? ⟨F.bgb n, p, none⟩ = some (.bool false) := by rw [← hb]; exact (hW.bg n hn).cellv (rowC_at _ (by omega))
  have f3 := (hW.bg n hn).frozen p
  have hN := hW.mark_b (p := p) hk.dis hn
  have hR1 := hR.mut hk.dis hW.lo hN.upd
  have hC1 := hC.nx hN
  obtain ⟨RA, rc, SA, sc, q0, q1, q2, q3, q4, q5, q6, q7, hrs, hsub, hin, hin2⟩ := node_cells (hR1.node n x hx)
  obtain ⟨w1, hw1⟩ : ∃ w1, w.setCell ⟨F.bgb n, p, none⟩ (.bool true) = w1 := ⟨_, rfl⟩
  rw [hw1] at hN hR1 hC1 q0 q1 q2 q3 q4 q5 q6 q7 hrs hsub
  have HW1 := hideP hw1
  have m0 := hN.wk.wk.cellv (i := 0) rfl
  have t0 := hR1.tab.cellv (i := 0) rfl
  obtain ⟨M, hM⟩ : ∃ M, F.xs.length + 1 = M := ⟨_, rfl⟩
  rw [hM] at b3
  have g1 : (n : Int) < (F.l.length : Int) := by omega
  have g2 : (p : Int) < (M : Int) := by omega
  have hAl : Upd Nob w1 (w1.alloc (.cells (pnCells x RA rc SA sc) 77)) := (Upd.refl Nob w1).alloc _
  have HX := hideP (Cells.new w1 77 (pnCells x RA rc SA sc))
  have HR := hideP (hR1.upd hAl (fun _ _ => not_nob))
  have HN := hideP (hN.trans (Nx.of_upd hN.wk hAl))
  have HC := hideP (hC1.nx (Nx.of_upd hN.wk hAl))
  have HRS := hideP (hrs.upd hAl (fun _ _ => not_nob))
  have HSUB := hideP (hsub.upd hAl (fun _ _ => not_nob))
  have hnm : ¬ Mut F OA w1.heap.size := fun hm => by
    have := hR1.base
    rcases hm with hm | hm
    · have := hk.dis.lt _ hm; omega
    · have := (hN.wk.out.lo hm).2; omega
  have HNM := hideP hnm
  have HLO := hideP hN.wk.lo
  have HKD := hideP hkd
  clear hR hW hC hsub hrs hnm hkd hN hR1 hC1 hM hb hw1
  go_enter Try.func28, Try.ntmps28
  go_upto_region 2 with fail
  rw [HW1.out]
  clear c3 b3 e3 f3
  go_upto_region 3 with fail
  change Code.wp _ _ _ _ (w1.alloc (.cells (pnCells x RA rc SA sc) 77))
  generalize w1.alloc (.cells (pnCells x RA rc SA sc) 77) = wa at *
  clear m0 t0 q0 q1 q2 q3 q4 q5 q6 q7
  generalize w1.heap.size = xb at *
  have y0 := HX.out.cellv (i := 0) (v := .int .i64 5) (by rw [← HKD.out]; rfl)
  have HSB := hideP HSUB.out
  have HCON := hideP hcon
  have HHC := hideP hc
  clear hcon hc
  go_wp2_with fail
  go_loopg [12] x.subs.length (fun gk v12 wr => ∃ (i : Nat) (sc0 : WSt) (OAi : Option Addr) (oci : Nat), i + gk = x.subs.length ∧ v12 = .int .i64 (i : Int) ∧ ConA F S cl p c (x.subs.drop i) sc0 s' ∧ Nx F w sc0 OA wr OAi oci ∧ Cells wr xb 77 (pnCells x RA rc SA sc) ∧ Rd F S wr ∧ CapR wr F OAi CA c ∧ Reads wr S 1 SA x.subs.length (intv (x.subs.map fun (s : Nat) => (s : Int))) ∧ xb < wr.heap.size)
  case atStart => exact ⟨0, _, OA, oc, by omega, rfl, HCON.out, HN.out, HX.out, HR.out, HC.out, HSB.out, HX.out.lt⟩
  case round =>
    clear HN HX HR HC HSB HRS HSUB HCON y0
    obtain ⟨i, sc0, OAi, oci, hk2, rfl, hA, hN, hX, hR, hC, hS, hxl⟩ := hrel
    have HA := hideP hA
    have HN := hideP hN
    have HX := hideP hX
    have HR := hideP hR
    have HC := hideP hC
    have HS := hideP hS
    have HK := hideP hk2
    have y4 := hX.cellv (i := 0 + 4) (v := .slice SA x.subs.length sc) rfl
    have hsl := (hk.nth n x hx).2.2.2
    clear hA hN hX hR hC hS hk2
    by_cases hlt : i < x.subs.length
    · obtain ⟨ad, hSA, hadb, hadS, hcell⟩ := HS.out.2 (by omega)
      have hm : x.subs[i]? = some (x.subs[i]'hlt) := List.getElem?_eq_getElem hlt
      have z0 := hcell i (.int .i64 ((x.subs[i]'hlt : Nat) : Int)) (by simp [intv, hlt])
      have hsub := hk.sub n x hx _ (List.mem_of_getElem? hm)
      have hd : x.subs.drop i = (x.subs[i]'hlt) :: x.subs.drop (i + 1) := List.drop_eq_getElem_cons hlt
      have hA2 := HA.out
      rw [hd] at hA2
      obtain ⟨s1, hB, hrest⟩ := hA2
      have HRE := hideP hrest
      have HB := hideP hB
      have q1 : (i : Int) < (x.subs.length : Int) := by omega
      generalize (x.subs[i]'hlt) = m at *
      rw [hSA] at y4
      clear hm hd hrest hB hcell hSA
      go_wp2_with (go_at_call 28; refine (HB.out hsub hp HHC.out wr OAi oci CA cc HR.out HN.out.wk HC.out).mono ?_; rintro e wb ⟨rfl, OA1, oc1, hX1⟩)
      have hlo : ∀ b, OAi.map (·.block) = some b → F.base ≤ b := HN.out.wk.lo
      have hnm2 : ¬ Mut F OAi xb := fun hm => by
        rcases hm with hm | hm
        · exact HNM.out (.inl hm)
        · exact HN.out.wk.out.ne_ HX.out (by decide) hm
      go_roundg (x.subs.length - (i + 1))
      case measure => have := HK.out; omega
      case rel => exact ⟨i + 1, s1, OA1, oc1, by have := HK.out; omega, by go_num, HRE.out, HN.out.trans hX1, HX.out.upd hX1.upd hnm2, HR.out.mut hk.dis hlo hX1.upd, HC.out.nx hX1, HS.out.upd hX1.upd (fun b hb hm => by
          have := hk.dis.s b hb
          rcases hm with hm | hm
          · exact this.2 hm
          · have := hlo b hm; omega), Nat.lt_of_lt_of_le hxl hX1.upd.size⟩
    · have q1 : ¬ (i : Int) < (x.subs.length : Int) := by omega
      have hA2 := HA.out
      rw [List.drop_eq_nil_of_le (by omega)] at hA2
      have hA3 : s' = sc0 := hA2
      subst hA3
      clear hA2 hlt
      go_wp2_with fail
      go_end0
      exact ⟨rfl, OAi, oci, HN.out⟩
end Go.Proofs.Ytlaofcgllchedaa

/-
  The walk of heronref06's begin at a group. Printed by tools/mkBegin7.py.
-/
namespace Go.Proofs.Ytlaofcgllchedaa
open Go.RowKit
set_option linter.unusedVariables false

set_option maxRecDepth 100000 in
set_option maxHeartbeats 4000000 in
theorem begin_reg24 (Q : Exit → Act → World → Prop) (wr : World) (SC : Nat → Prop) (wb xb ln sc cl cc kk sb p : Nat) (sa : Addr) (ix : Int) (CA : Option Addr) (c : List Int) (G : World → World → Prop) (x1 x4 x5 x6 x7 x9 x10 x11 x12 x13 x14 x15 x16 x17 x18 x19 x20 x21 x22 x23 x24 x25 x26 x27 x28 x29 x30 x31 x32 x33 x34 x35 x36 x37 x38 x39 x40 x41 x42 x43 x44 x45 x46 x47 x48 x49 x50 x51 x52 x53 x54 x55 x56 x57 x58 x59 x60 x61 x62 x63 x64 x65 x66 x67 x68 x69 x70 x71 x72 x73 x74 x75 x76 x77 x78 x79 x80 x81 x82 x83 x84 x85 x86 x87 x88 x89 x90 x91 x92 x93 x94 x95 x96 x97 x98 x99 x100 x101 x102 x103 x104 x105 x106 x107 x108 x109 x110 x111 x112 x113 x114 x115 x116 x117 x118 x119 x120 x121 x122 x123 x124 x125 x126 x127 x128 x129 x130 x131 x132 x133 x134 x135 x136 x137 x138 x139 x140 x141 x142 x143 x144 x145 x146 x147 x148 x149 x150 x151 x152 x153 x154 : Value)
    (hcl : c.length = cl) (h4 : cl ≤ 4000) (y4 : wr.cell? ⟨xb, 0 + 4, none⟩ = some (.slice (some sa) ln sc)) (y2 : wr.cell? ⟨xb, 0 + 2, none⟩ = some (.int .i64 ix)) (z0 : wr.cell? sa = some (.int .i64 (sb : Nat)))
    (hxb : xb < wr.heap.size) (hsa : sa.block < wr.heap.size) (hln : (0 : Int) < (ln : Int)) (hix : IntKind.i64.wrap (2 * ix) = (kk : Int)) (hkk : kk < c.length) (hC : Reads wr SC 1 CA c.length (intv c))
    (hB : ∀ (wq : World) (g cap : Nat), Upd Nob wr wq → wr.heap.size ≤ g → wq.ownsRow wr.heap.size 3 1 (.slice (some ⟨g, 0, none⟩) c.length cap) c.length (intv (c.set kk (p : Int))) → Calls Try.prog 28 #[.pointer (some ⟨wb, 0, none⟩), .int .i64 (sb : Int), .int .i64 (p : Int), .slice (some ⟨g, 0, none⟩) c.length cap] wq (fun e w' => e = .returned (.tuple #[]) ∧ G wq w'))
    (hkeep : ∀ wq w', Upd Nob wr wq → G wq w' → w'.cell? ⟨xb, 0 + 4, none⟩ = some (.slice (some sa) ln sc) ∧ w'.cell? ⟨xb, 0 + 2, none⟩ = some (.int .i64 ix) ∧ w'.cell? sa = some (.int .i64 (sb : Nat)))
    (hnext : ∀ (v128 v129 v130 v131 v132 v133 v134 v135 v136 v137 v138 v139 v140 : Value) (wq w' : World), Upd Nob wr wq → G wq w' → Q .normal ⟨#[.pointer (some ⟨wb, 0, none⟩), x1, .int .i64 (p : Int), .slice CA cl cc, x4, x5, x6, x7, .pointer (some ⟨xb, 0, none⟩), x9, x10, x11, x12, x13, x14, x15, x16, x17, x18, x19, x20, x21, x22, x23, x24, x25, x26, x27, x28, x29, x30, x31, x32, x33, x34, x35, x36, x37, x38, x39, x40, x41, x42, x43, x44, x45, x46, x47, x48, x49, x50, x51, x52, x53, x54, x55, x56, x57, x58, x59, x60, x61, x62, x63, x64, x65, x66, x67, x68, x69, x70, x71, x72, x73, x74, x75, x76, x77, x78, x79, x80, x81, x82, x83, x84, x85, x86, x87, x88, x89, x90, x91, x92, x93, x94, x95, x96, x97, x98, x99, x100, x101, x102, x103, x104, x105, x106, x107, x108, x109, x110, x111, x112, x113, x114, x115, x116, x117, x118, x119, x120, x121, x122, x123, x124, x125, x126, x127, v128, v129, v130, v131, v132, v133, v134, v135, v136, v137, v138, v139, v140, x141, x142, x143, x144, x145, x146, x147, x148, x149, x150, x151, x152, x153, x154], []⟩ w') :
    (Code.region 24 #[{ dst := some 128, op := Op.move (Operand.tmp 0), type := 62, pos := "ref.go:186", after := #[], guard := none },
    { dst := some 129, op := Op.fieldAddr 77 (Operand.tmp 8) 4, type := 0, pos := "ref.go:186", after := #[], guard := none },
    { dst := some 130, op := Op.load 22 (Operand.tmp 129), type := 22, pos := "ref.go:186", after := #[{ on := 1, ground := .data }], guard := none },
    { dst := some 131, op := Op.indexAddr 22 (Operand.tmp 130) (Operand.const (Value.int IntKind.i64 0)), type := 0, pos := "ref.go:186", after := #[{ on := 2, ground := .data }], guard := none },
    { dst := some 132, op := Op.load 3 (Operand.tmp 131), type := 3, pos := "ref.go:186", after := #[{ on := 3, ground := .data }], guard := none },
    { dst := some 133, op := Op.move (Operand.tmp 2), type := 3, pos := "ref.go:186", after := #[], guard := none },
    { dst := some 134, op := Op.move (Operand.tmp 3), type := 22, pos := "ref.go:186", after := #[], guard := none },
    { dst := some 135, op := Op.fieldAddr 77 (Operand.tmp 8) 2, type := 0, pos := "ref.go:186", after := #[], guard := none },
    { dst := some 136, op := Op.load 3 (Operand.tmp 135), type := 3, pos := "ref.go:186", after := #[{ on := 7, ground := .data }], guard := none },
    { dst := some 137, op := Op.binOp BinOp.mul 3 (Operand.const (Value.int IntKind.i64 2)) (Operand.tmp 136) 3, type := 3, pos := "ref.go:186", after := #[{ on := 8, ground := .data }], guard := none },
    { dst := some 138, op := Op.move (Operand.tmp 2), type := 3, pos := "ref.go:186", after := #[], guard := none },
    { dst := some 139, op := Op.call { callee := Callee.value (Operand.func 41), args := #[Operand.tmp 134, Operand.tmp 137, Operand.tmp 138], argTypes := #[22, 3, 3] }, type := 22, pos := "ref.go:186", after := #[{ on := 6, ground := .data }, { on := 9, ground := .data }, { on := 10, ground := .data }], guard := none },
    { dst := some 140, op := Op.call { callee := Callee.value (Operand.func 28), args := #[Operand.tmp 128, Operand.tmp 132, Operand.tmp 133, Operand.tmp 139], argTypes := #[62, 3, 3, 22] }, type := 0, pos := "ref.go:186", after := #[{ on := 0, ground := .data }, { on := 4, ground := .data }, { on := 5, ground := .data }, { on := 11, ground := .data }, { on := 11, ground := .chain }], guard := none }] true).wp Try.prog Q ⟨#[.pointer (some ⟨wb, 0, none⟩), x1, .int .i64 (p : Int), .slice CA cl cc, x4, x5, x6, x7, .pointer (some ⟨xb, 0, none⟩), x9, x10, x11, x12, x13, x14, x15, x16, x17, x18, x19, x20, x21, x22, x23, x24, x25, x26, x27, x28, x29, x30, x31, x32, x33, x34, x35, x36, x37, x38, x39, x40, x41, x42, x43, x44, x45, x46, x47, x48, x49, x50, x51, x52, x53, x54, x55, x56, x57, x58, x59, x60, x61, x62, x63, x64, x65, x66, x67, x68, x69, x70, x71, x72, x73, x74, x75, x76, x77, x78, x79, x80, x81, x82, x83, x84, x85, x86, x87, x88, x89, x90, x91, x92, x93, x94, x95, x96, x97, x98, x99, x100, x101, x102, x103, x104, x105, x106, x107, x108, x109, x110, x111, x112, x113, x114, x115, x116, x117, x118, x119, x120, x121, x122, x123, x124, x125, x126, x127, x128, x129, x130, x131, x132, x133, x134, x135, x136, x137, x138, x139, x140, x141, x142, x143, x144, x145, x146, x147, x148, x149, x150, x151, x152, x153, x154], []⟩ wr := by
  have HB := hideP hB
  have HY := hideP hnext
  have HC := hideP (show Reads wr.drew SC 1 CA c.length (intv c) from hC)
  clear hB hnext hC
  subst hcl
  have hlnN : 0 < ln := by omega
  have HS0 := hideP (show (fun w' : World => w'.cell? ⟨xb, 0 + 4, none⟩ = some (.slice (some sa) ln sc) ∧ w'.cell? ⟨xb, 0 + 2, none⟩ = some (.int .i64 ix) ∧ w'.cell? sa = some (.int .i64 (sb : Nat))) wr from ⟨y4, y2, z0⟩)
  go_region_held3 (fun w' : World => w'.cell? ⟨xb, 0 + 4, none⟩ = some (.slice (some sa) ln sc) ∧ w'.cell? ⟨xb, 0 + 2, none⟩ = some (.int .i64 ix) ∧ w'.cell? sa = some (.int .i64 (sb : Nat)))
    (first | exact HS0.out | exact HS1.out | exact HS2.out)
    (first
    | (go_at_call 41; refine (noted_any _ SC CA cc c kk p HC.out hkk (by omega)).mono ?_; rintro e wq ⟨g, cap, rfl, hg, hO, hU⟩; have hUq := ((Upd.refl Nob wr).drew).trans hU (fun _ _ h => h); have HUq := hideP hUq; have HG := hideP hg; have HO := hideP hO; have HS1 := hideP (show (fun w' : World => w'.cell? ⟨xb, 0 + 4, none⟩ = some (.slice (some sa) ln sc) ∧ w'.cell? ⟨xb, 0 + 2, none⟩ = some (.int .i64 ix) ∧ w'.cell? sa = some (.int .i64 (sb : Nat))) wq from ⟨(hUq.cell (p := ⟨xb, 0 + 4, none⟩) hxb not_nob).trans HS0.out.1, (hUq.cell (p := ⟨xb, 0 + 2, none⟩) hxb not_nob).trans HS0.out.2.1, (hUq.cell (p := sa) hsa not_nob).trans HS0.out.2.2⟩); have hs4 := HS1.out.1; have hs2 := HS1.out.2.1; have hsz := HS1.out.2.2; clear hg hO hU hUq)
    | (go_at_call 28; refine (HB.out wq g cap HUq.out HG.out HO.out).mono ?_; rintro e w8 ⟨rfl, hG8⟩; have HG8 := hideP hG8; have HS2 := hideP (show (fun w' : World => w'.cell? ⟨xb, 0 + 4, none⟩ = some (.slice (some sa) ln sc) ∧ w'.cell? ⟨xb, 0 + 2, none⟩ = some (.int .i64 ix) ∧ w'.cell? sa = some (.int .i64 (sb : Nat))) w8 from hkeep wq w8 HUq.out hG8); clear hG8))
  exact HY.out _ _ _ _ _ _ _ _ _ _ _ _ _ wq w8 HUq.out HG8.out
set_option maxRecDepth 100000 in
set_option maxHeartbeats 4000000 in
theorem begin_7 {F : Fx} {S : Nat → Prop} {cl n p : Nat} {c : List Int} {s s' : WSt} {x : PN} (hk : Tk F S cl) (hb : s.bg n p = false) (hx : F.l[n]? = some x) (hkd : x.kind = 7) (h0 : x.subs ≠ []) (hcon : Con F S cl 28 (subW x) p (c.set (2 * x.ix).toNat p) { s with bg := mark2 s.bg n p } s') : Con F S cl 28 n p c s s' := by
  intro hn hp hc w OA oc CA cc hR hW hC
  have c3 := hW.wk.cellv (i := 0 + 3) rfl
  have b3 := hR.bo n hn
  have e3 : w.cell? ⟨F.bgb n, p, none⟩ = some (.bool false) := by rw [← hb]; exact (hW.bg n hn).cellv (rowC_at _ (by omega))
  have f3 := (hW.bg n hn).frozen p
  have hN := hW.mark_b (p := p) hk.dis hn
  have hR1 := hR.mut hk.dis hW.lo hN.upd
  have hC1 := hC.nx hN
  obtain ⟨RA, rc, SA, sc, q0, q1, q2, q3, q4, q5, q6, q7, hrs, hsub, hin, hin2⟩ := node_cells (hR1.node n x hx)
  obtain ⟨w1, hw1⟩ : ∃ w1, w.setCell ⟨F.bgb n, p, none⟩ (.bool true) = w1 := ⟨_, rfl⟩
  rw [hw1] at hN hR1 hC1 q0 q1 q2 q3 q4 q5 q6 q7 hrs hsub
  have HW1 := hideP hw1
  have m0 := hN.wk.wk.cellv (i := 0) rfl
  have t0 := hR1.tab.cellv (i := 0) rfl
  obtain ⟨M, hM⟩ : ∃ M, F.xs.length + 1 = M := ⟨_, rfl⟩
  rw [hM] at b3
  have g1 : (n : Int) < (F.l.length : Int) := by omega
  have g2 : (p : Int) < (M : Int) := by omega
  have hAl : Upd Nob w1 (w1.alloc (.cells (pnCells x RA rc SA sc) 77)) := (Upd.refl Nob w1).alloc _
  have HX := hideP (Cells.new w1 77 (pnCells x RA rc SA sc))
  have HR := hideP (hR1.upd hAl (fun _ _ => not_nob))
  have HN := hideP (hN.trans (Nx.of_upd hN.wk hAl))
  have HC := hideP (hC1.nx (Nx.of_upd hN.wk hAl))
  have HRS := hideP (hrs.upd hAl (fun _ _ => not_nob))
  have HSUB := hideP (hsub.upd hAl (fun _ _ => not_nob))
  have hnm : ¬ Mut F OA w1.heap.size := fun hm => by
    have := hR1.base
    rcases hm with hm | hm
    · have := hk.dis.lt _ hm; omega
    · have := (hN.wk.out.lo hm).2; omega
  have HNM := hideP hnm
  have HLO := hideP hN.wk.lo
  have HKD := hideP hkd
  clear hR hW hC hsub hrs hnm hkd hN hR1 hC1 hM hb hw1
  go_enter Try.func28, Try.ntmps28
  go_upto_region 2 with fail
  rw [HW1.out]
  clear c3 b3 e3 f3
  go_upto_region 3 with fail
  change Code.wp _ _ _ _ (w1.alloc (.cells (pnCells x RA rc SA sc) 77))
  generalize w1.alloc (.cells (pnCells x RA rc SA sc) 77) = wa at *
  clear m0 t0 q0 q1 q2 q3 q4 q5 q6 q7
  generalize w1.heap.size = xb at *
  have y0 := HX.out.cellv (i := 0) (v := .int .i64 7) (by rw [← HKD.out]; rfl)
  have y4 := HX.out.cellv (i := 0 + 4) (v := .slice SA x.subs.length sc) rfl
  have y2 := HX.out.cellv (i := 0 + 2) (v := .int .i64 x.ix) rfl
  obtain ⟨sa, rfl, hsb, hsS, z0⟩ := sub_first HSUB.out h0
  have hsl := hk.sub n x hx (subW x) (by obtain ⟨a, r, e⟩ := List.exists_cons_of_ne_nil h0; simp [subW, e])
  have hpos : 0 < x.subs.length := List.length_pos_iff.2 h0
  have hposI : (0 : Int) < (x.subs.length : Int) := by omega
  have hixx := hk.ix n x hx HKD.out
  have hclm := hk.clm
  obtain ⟨kk, hkk⟩ : ∃ kk : Nat, 2 * x.ix = (kk : Int) := Int.eq_ofNat_of_zero_le (by omega)
  have hwr : IntKind.i64.wrap (2 * x.ix) = (kk : Int) := by rw [IntKind.wrap_i64]; omega
  have hkt : (2 * x.ix).toNat = kk := by omega
  rw [hkt] at hcon
  have HK7 := hideP (show kk < c.length by omega)
  have HWR := hideP hwr
  have HY4 := hideP y4
  have HY2 := hideP y2
  have HZ0 := hideP z0
  have HC7 := hideP hc
  clear hkk hkt hixx hwr y4 y2 z0
  go_upto_region 24 with fail
  refine begin_reg24 _ wa _ F.wb xb x.subs.length sc cl cc kk (subW x) p sa x.ix CA c (fun wq w' => ∃ OA1 oc1, Nx F wq s' OA w' OA1 oc1) _ _ _ _ _ _ _ _ _ _ _ _ _ _ _ _ _ _ _ _ _ _ _ _ _ _ _ _ _ _ _ _ _ _ _ _ _ _ _ _ _ _ _ _ _ _ _ _ _ _ _ _ _ _ _ _ _ _ _ _ _ _ _ _ _ _ _ _ _ _ _ _ _ _ _ _ _ _ _ _ _ _ _ _ _ _ _ _ _ _ _ _ _ _ _ _ _ _ _ _ _ _ _ _ _ _ _ _ _ _ _ _ _ _ _ _ _ _ _ _ _ _ _ _ _ _ _ _ _ _ _ _ _ _ _ _ _ _ _ _ _ _ _ _ _ _ _ _ _ _ _ hc hclm HY4.out HY2.out HZ0.out HX.out.lt hsb hposI HWR.out HK7.out HC.out (fun wq g cap hUq hg hO => ?_) (fun wq w' hUq hG => ?_) (fun _ _ _ _ _ _ _ _ _ _ _ _ _ wq w' hUq hG => ?_)
  · have hb2 := HR.out.base
    have hgl := (own_cells hO (g := g) rfl)
    obtain ⟨cur, hgc, -⟩ := hgl
    have hno : ¬ OA.map (·.block) = some g := fun hm => by
      have := (HN.out.wk.out.lo hm).2
      omega
    have hcq : CapR wq F OA (some ⟨g, 0, none⟩) (c.set kk (p : Int)) := by
      have := Reads.of_own hO
      refine Reads.weaken (by rw [List.length_set]; exact this) (fun b hb => ?_)
      have e : b = g := by simp [Value.ownBlock] at hb; exact hb.symm
      subst e
      exact ⟨fun hm => by have := hk.dis.lt _ hm; omega, hno⟩
    have := hcon hsl hp (by rw [List.length_set]; exact hc) wq OA oc (some ⟨g, 0, none⟩) cap (HR.out.upd hUq (fun _ _ => not_nob)) (HN.out.wk.upd hUq) hcq
    rw [hc]
    exact this
  · obtain ⟨OA1, oc1, hX1⟩ := hG
    have hnw : ¬ Mut F OA xb := HNM.out
    have hns : ¬ Mut F OA sa.block := fun hm => by
      have := hk.dis.s _ hsS
      rcases hm with hm | hm
      · exact this.2 hm
      · have := HLO.out _ hm; omega
    have hx2 := HX.out.upd ((hUq.mono (G := Mut F OA) (fun _ _ h => absurd h not_nob)).trans hX1.upd (fun _ _ h => h)) hnw
    exact ⟨hx2.cellv rfl, hx2.cellv rfl, ((hX1.upd.cell (p := sa) (Nat.lt_of_lt_of_le hsb hUq.size) hns).trans (hUq.cell (p := sa) hsb not_nob)).trans HZ0.out⟩
  · obtain ⟨OA1, oc1, hX1⟩ := hG
    go_wp2_with fail
    go_end0
    exact ⟨rfl, OA1, oc1, (HN.out.trans (Nx.of_upd HN.out.wk hUq)).trans hX1⟩
end Go.Proofs.Ytlaofcgllchedaa
