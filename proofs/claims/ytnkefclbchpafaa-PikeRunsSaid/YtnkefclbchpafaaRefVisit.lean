/-
  The walk of heronref11.visit.
-/
import Derived.Test.YtnkefclbchpafaaVisR
namespace Go.Proofs.Ytnkefclbchpafaa
open Go.RowKit
set_option linter.unusedVariables false

/-- a visit with so much fuel goes as the plain words have it -/
def VisOk (n0 b mb mc : Nat) (A : Option Addr) (c : Nat) (is : List PInst) (st : Int) (ncaps : Nat) (T : Option Addr) (tc : Nat) (text : List Int) (j : Nat) (f : Nat) : Prop :=
  ∀ (w : World) (pc : Nat) (caps : List Int) (C : Option Addr) (cc : Nat) (s : VSt), VisR w n0 b mb mc A c is st ncaps T tc text j s → pc < is.length → caps.length = ncaps → CapR w C ncaps caps → s.met.count false < f →
    Calls Try.prog 34 #[.pointer (some ⟨b, 0, none⟩), .int .i64 (pc : Int), .slice C ncaps cc] w fun e w' =>
      e = .returned (.tuple #[]) ∧ VisR w' n0 b mb mc A c is st ncaps T tc text j (visitF is text j f pc caps s) ∧ Upd (Fr n0 b mb w) w w'

set_option maxRecDepth 100000 in
set_option maxHeartbeats 8000000 in
theorem vis_step (n0 b mb mc : Nat) (A : Option Addr) (c : Nat) (is : List PInst) (st : Int) (ncaps : Nat) (T : Option Addr) (tc : Nat) (text : List Int) (j : Nat) (f : Nat)
    (hj : j ≤ text.length) (hn1 : 1 ≤ ncaps) (hnc : ncaps ≤ 1002) (hmay : ∀ (i : Nat) (x : PInst), is[i]? = some x → mayB x is.length ncaps = true) (ih : VisOk n0 b mb mc A c is st ncaps T tc text j f) : VisOk n0 b mb mc A c is st ncaps T tc text j (f + 1) := by
  intro w pc caps C cc s hV hpc hcl hC hf
  obtain ⟨N, nc, xs, FA, fn, fc, wh, hB, hN, hT, hF⟩ := hV.rest
  have HIH := hideP ih
  have HMAY := hideP hmay
  clear ih hmay
  rcases ho : s.over with _ | _
  rotate_left
  · have e11 : w.cell? ⟨b, 0 + 11, none⟩ = some (.bool true) := ho ▸ hB.cellv rfl
    have HP := hideP (visit_over (is := is) (text := text) (j := j) (f := f) (pc := pc) (caps := caps) ho)
    have HV := hideP hV
    clear hV hB hN hT hF hC ho
    go_enter Try.func34, Try.ntmps34
    go_wp2_with fail
    try simp only [Exit.inBlock, Exit.then]
    refine bodyPost_ret (results_none rfl _ _ _) rfl ?_
    rw [HP.out]
    exact ⟨rfl, HV.out, Upd.refl _ _⟩
  obtain ⟨m, hm⟩ : ∃ m, s.met[pc]? = some m := ⟨_, List.getElem?_eq_getElem (by rw [hV.mlen]; exact hpc)⟩
  have e11 : w.cell? ⟨b, 0 + 11, none⟩ = some (.bool false) := ho ▸ hB.cellv rfl
  have e5 : w.cell? ⟨b, 0 + 5, none⟩ = some (.slice (some ⟨mb, 0, none⟩) is.length mc) := hB.cellv rfl
  have cm : w.cell? ⟨mb, pc, none⟩ = some (.bool m) := by rw [hV.met.cellAt pc (by omega)]; exact bvs_at hm
  rcases m with _ | _
  rotate_left
  · have HP := hideP (visit_met (is := is) (text := text) (j := j) (f := f) (caps := caps) hm)
    have HV := hideP hV
    clear hV hB hN hT hF hC ho hm
    go_enter Try.func34, Try.ntmps34
    go_wp2_with fail
    try simp only [Exit.inBlock, Exit.then]
    refine bodyPost_ret (results_none rfl _ _ _) rfl ?_
    rw [HP.out]
    exact ⟨rfl, HV.out, Upd.refl _ _⟩
  have hne := hV.bne
  have fz : w.frozen? ⟨mb, pc, none⟩ = false := hV.met.frozenAt pc
  have hBA := hB.far ⟨mb, pc, none⟩ (.bool true) hne
  have e10 : (w.setCell ⟨mb, pc, none⟩ (.bool true)).cell? ⟨b, 0 + 7 + 3, none⟩ = some (.int .i64 (s.steps : Int)) := hBA.cellv rfl
  have fz2 : (w.setCell ⟨mb, pc, none⟩ (.bool true)).frozen? ⟨b, 0 + 7 + 3, none⟩ = false := hBA.frozen 10
  have hBB := hBA.set_ 10 (.int .i64 ((s.steps : Int) + 1))
  have e0 : ((w.setCell ⟨mb, pc, none⟩ (.bool true)).setCell ⟨b, 0 + 7 + 3, none⟩ (.int .i64 ((s.steps : Int) + 1))).cell? ⟨b, 0, none⟩ = some (.slice A is.length c) := hBB.cellv rfl
  obtain ⟨hV2, hU2⟩ := hV.mark hm
  obtain ⟨ad, g, o, x, B, m, c', rfl, hx, hadd, -, hg, hRR, hI, c0, c1, c2, c3, c4⟩ := hV2.insts.at1 hpc
  have hmy := HMAY.out pc x hx
  have HP := hideP (visit_go (text := text) (j := j) (f := f) (caps := caps) ho hm hx)
  have hwork := hV.work
  have hcount := count_met hm
  have hcnt : (markS s pc).met.count false < f := by show (s.met.set pc true).count false < f; omega
  have HCNT := hideP hcnt
  have hrm : (markS s pc).next.length + (markS s pc).met.count false + 1 ≤ 20000 := by
    have := hV.room
    show s.next.length + (s.met.set pc true).count false + 1 ≤ _
    omega
  have HRM := hideP hrm
  have HMY := hideP hmy
  have hC2 : CapR ((w.setCell ⟨mb, pc, none⟩ (.bool true)).setCell ⟨b, 0 + 7 + 3, none⟩ (.int .i64 ((s.steps : Int) + 1))) C ncaps caps := hC.keep (IntKeep.of hU2 hV.notint)
  obtain ⟨op, xx, yy, arg, rs⟩ := x
  simp only at c0 c1 c2 c3 hRR hI
  have CX := Cells.new ((w.setCell ⟨mb, pc, none⟩ (.bool true)).setCell ⟨b, 0 + 7 + 3, none⟩ (.int .i64 ((s.steps : Int) + 1))) 64 #[.int .i64 op, .int .i64 xx, .int .i64 yy, .int .i64 arg, .slice B m c']
  have hUa := (Upd.refl Nob ((w.setCell ⟨mb, pc, none⟩ (.bool true)).setCell ⟨b, 0 + 7 + 3, none⟩ (.int .i64 ((s.steps : Int) + 1)))).alloc (.cells #[.int .i64 op, .int .i64 xx, .int .i64 yy, .int .i64 arg, .slice B m c'] 64)
  have hV3 := hV2.still hUa
  have hC3 := hC2.keep (IntKeep.of hUa (fun _ _ => not_nob))
  have hRR3 := hRR.upd hUa (fun _ _ => not_nob)
  have hU3 := hU2.trans hUa (fun _ _ h => absurd h not_nob)
  have HX := hideP hx
  have HV3 := hideP hV3
  have HC3 := hideP hC3
  have HRR := hideP hRR3
  have HU3 := hideP hU3
  have HI := hideP hI
  have hsz : ((w.setCell ⟨mb, pc, none⟩ (.bool true)).setCell ⟨b, 0 + 7 + 3, none⟩ (.int .i64 ((s.steps : Int) + 1))).heap.size = w.heap.size := by simp
  rw [hsz] at CX
  have HCX := hideP CX
  have HO := hideP ho
  clear hV hB hN hT hF hC hV2 hU2 hx hRR hI hC2 hUa hV3 hC3 hRR3 hU3 hmy hcnt hcount hrm hm hBA hBB CX ho hsz hg
  go_enter Try.func34, Try.ntmps34
  go_upto_region 4 with fail
  generalize ((w.setCell ⟨mb, pc, none⟩ (.bool true)).setCell ⟨b, 0 + 7 + 3, none⟩ (.int .i64 ((s.steps : Int) + 1))).alloc (.cells #[.int .i64 op, .int .i64 xx, .int .i64 yy, .int .i64 arg, .slice B m c'] 64) = w6 at *
  generalize w.heap.size = xb at *
  have l1 : w6.cell? ⟨xb, 0 + 1, none⟩ = some (.int .i64 xx) := HCX.out.cellv rfl
  have l0 : w6.cell? ⟨xb, 0, none⟩ = some (.int .i64 op) := HCX.out.cellv rfl
  have hxF : ¬ Fr n0 b mb w6 xb := HV3.out.not_fr HCX.out (by decide) (by decide) (by decide)
  have l3 : w6.cell? ⟨xb, 0 + 3, none⟩ = some (.int .i64 arg) := HCX.out.cellv rfl
  have l4 : w6.cell? ⟨xb, 0 + 4, none⟩ = some (.slice B m c') := HCX.out.cellv rfl
  clear e11 e5 cm fz e10 fz2 e0 c0 c1 c2 c3 c4 hadd
  go_upto_region 5 with fail
  clear l0
  by_cases o2 : op = 2
  · subst o2
    have gx := vmay_x HMY.out (.inr (.inl rfl))
    have gy := vmay_y HMY.out rfl
    simp only at gx gy
    obtain ⟨px, rfl⟩ : ∃ k : Nat, xx = (k : Int) := Int.eq_ofNat_of_zero_le gx.1
    obtain ⟨py, rfl⟩ : ∃ k : Nat, yy = (k : Int) := Int.eq_ofNat_of_zero_le gy.1
    have HF := hideP (HP.out.trans (rfl : _ = visitF is text j f py caps (visitF is text j f px caps (markS s pc))))
    clear l3 l4
    go_wp2_with fail
    refine (HIH.out w6 px caps C cc _ HV3.out (by omega) hcl HC3.out HCNT.out).mono ?_
    rintro e w7 ⟨rfl, hV7, hU7⟩
    have l2 : w7.cell? ⟨xb, 0 + 2, none⟩ = some (.int .i64 (py : Int)) := (HCX.out.upd hU7 hxF).cellv rfl
    have HV7 := hideP hV7
    have HC7 := hideP (HC3.out.keep (IntKeep.of hU7 HV3.out.notint))
    have HU7 := hideP (Fr.trans HU3.out hU7)
    clear hV7 hU7 l1
    go_wp2_with fail
    refine (HIH.out w7 py caps C cc _ HV7.out (by omega) hcl HC7.out (Nat.lt_of_le_of_lt (visitF_unmet _ _ _ _ _ _ _) HCNT.out)).mono ?_
    rintro e w8 ⟨rfl, hV8, hU8⟩
    have HV8 := hideP hV8
    have HU8 := hideP (Fr.trans HU7.out hU8)
    clear hV8 hU8
    go_wp2_with fail
    go_end0
    rw [HF.out]
    exact ⟨rfl, HV8.out, HU8.out⟩
  have o2b : (op == 2) = false := by simpa using o2
  by_cases o7 : op = 7
  · subst o7
    have gx := vmay_x HMY.out (.inr (.inr (.inr (.inr rfl))))
    simp only at gx
    obtain ⟨px, rfl⟩ : ∃ k : Nat, xx = (k : Int) := Int.eq_ofNat_of_zero_le gx.1
    have HF := hideP (HP.out.trans (rfl : _ = visitF is text j f px caps (markS s pc)))
    clear l3 l4
    go_wp2_with fail
    refine (HIH.out w6 px caps C cc _ HV3.out (by omega) hcl HC3.out HCNT.out).mono ?_
    rintro e w8 ⟨rfl, hV8, hU8⟩
    have HV8 := hideP hV8
    have HU8 := hideP (Fr.trans HU3.out hU8)
    clear hV8 hU8
    go_wp2_with fail
    go_end0
    rw [HF.out]
    exact ⟨rfl, HV8.out, HU8.out⟩
  have o7b : (op == 7) = false := by simpa using o7
  by_cases o3 : op = 3
  · subst o3
    have gx := vmay_x HMY.out (.inr (.inr (.inl rfl)))
    have ga := vmay_arg HMY.out rfl
    simp only at gx ga
    obtain ⟨px, rfl⟩ : ∃ k : Nat, xx = (k : Int) := Int.eq_ofNat_of_zero_le gx.1
    obtain ⟨a, rfl⟩ : ∃ k : Nat, arg = (k : Int) := Int.eq_ofNat_of_zero_le ga.1
    have HF := hideP (HP.out.trans (rfl : _ = visitF is text j f px (caps.set a (j : Int)) (markS s pc)))
    obtain ⟨i0, hi0, hz0, hz1, hz2⟩ := info_parts vinfo_int
    have hB0 : (w6.alloc (.cells #[] 3)).ownsRow w6.heap.size 3 1 (.slice (some ⟨w6.heap.size, 0, none⟩) 0 0) 0 [] := World.ownsRow_lit (size := 1) w6 #[] 0 (Nat.le_refl _) (by unfold maxLen; omega) rfl
    have HB0 := hideP hB0
    clear l4 hB0
    go_wp2_with (at_builtin; refine wpList_append_reads rfl (.tmp 70) (.tmp 71) 28 rfl w6.heap.size 3 i0 (.int .i64 0) 1 8 Try.underlying28 hi0 hz0 hz1 hz2 rfl (by decide) (.slice (some ⟨w6.heap.size, 0, none⟩) 0 0) 0 [] rfl HB0.out (IntB (w6.alloc (.cells #[] 3))) C ncaps cc (intv caps) rfl ((HC3.out.keep (IntKeep.of ((Upd.refl Nob _).alloc (.cells #[] 3)) (fun _ _ => not_nob)))) (intv_one caps) (by unfold maxLen; omega) (by omega) (by simp) ?_; intro v7 w7 o7 g7 a7; simp only [Nat.zero_add, List.nil_append] at o7; obtain ⟨ga7, c7, rfl, -, -⟩ := o7.form (by omega))
    have hU7 : Upd Nob w6 w7 := ((Upd.refl Nob w6).alloc _).grown g7 (fun k hk h => by injection hk with hk; change w6.heap.size = k at hk; omega)
    have hV7 := HV3.out.still hU7
    obtain ⟨N7, nc7, xs7, FA7, fn7, fc7, wh7, hB7, -⟩ := hV7.rest
    have l1 : w7.cell? ⟨xb, 0 + 1, none⟩ = some (.int .i64 (px : Int)) := (HCX.out.upd hU7 not_nob).cellv rfl
    have l3 : w7.cell? ⟨xb, 0 + 3, none⟩ = some (.int .i64 (a : Int)) := (HCX.out.upd hU7 not_nob).cellv rfl
    have lj : w7.cell? ⟨b, 0 + 4, none⟩ = some (.int .i64 (j : Int)) := hB7.cellv rfl
    have fz : w7.frozen? ⟨ga7, a, none⟩ = false := o7.frozenAt a
    have hcx : ∃ u, w7.cell? ⟨ga7, a, none⟩ = some u := by
      rw [o7.cellAt a (by omega)]
      exact ⟨_, List.getElem?_eq_getElem (by rw [intv_length]; omega)⟩
    obtain ⟨u7, hu7⟩ := hcx
    have HV7 := hideP hV7
    have HO7 := hideP o7
    have HU7 := hideP hU7
    clear hV7 o7 hU7 hB7 g7 a7
    go_region
    have hlow := (HO7.out.lt ga7 rfl).1
    have hU8 : Upd Nob w6 (w7.setCell ⟨ga7, a, none⟩ (.int .i64 (j : Int))).drew := (HU7.out.setCell _ _ (fun h => absurd h (by simp; omega))).drew
    have hV8 := HV3.out.still hU8
    have hC8 : CapR (w7.setCell ⟨ga7, a, none⟩ (.int .i64 (j : Int))).drew (some ⟨ga7, 0, none⟩) ncaps (caps.set a (j : Int)) := by
      have h3 := (HO7.out.stored a (.int .i64 (j : Int))).1
      have e3 : (intv caps).set a (.int .i64 (j : Int)) = intv (caps.set a (j : Int)) := by simp [intv, List.map_set]
      rw [e3] at h3
      exact capR_own h3
    have l1 : (w7.setCell ⟨ga7, a, none⟩ (.int .i64 (j : Int))).drew.cell? ⟨xb, 0 + 1, none⟩ = some (.int .i64 (px : Int)) := (HCX.out.upd hU8 not_nob).cellv rfl
    have HV8 := hideP hV8
    have HC8 := hideP hC8
    have HU8 := hideP (HU3.out.trans hU8 (fun _ _ h => absurd h not_nob))
    clear hV8 hC8 hU8 l3 lj fz hu7
    generalize (w7.setCell ⟨ga7, a, none⟩ (.int .i64 (j : Int))).drew = w8 at *
    go_wp2_with fail
    refine (HIH.out w8 px (caps.set a (j : Int)) (some ⟨ga7, 0, none⟩) c7 _ HV8.out (by omega) (by rw [List.length_set]; exact hcl) HC8.out HCNT.out).mono ?_
    rintro e w9 ⟨rfl, hV9, hU9⟩
    have HV9 := hideP hV9
    have HU9 := hideP (Fr.trans HU8.out hU9)
    clear hV9 hU9
    go_wp2_with fail
    go_end0
    rw [HF.out]
    exact ⟨rfl, HV9.out, HU9.out⟩
  have o3b : (op == 3) = false := by simpa using o3
  obtain ⟨N6, nc6, xs6, FA6, fn6, fc6, wh6, hB6, hN6, hT6, hF6⟩ := HV3.out.rest
  have lj : w6.cell? ⟨b, 0 + 4, none⟩ = some (.int .i64 (j : Int)) := hB6.cellv rfl
  have lt_ : w6.cell? ⟨b, 0 + 3, none⟩ = some (.slice T text.length tc) := hB6.cellv rfl
  have HB6 := hideP hB6
  have HN6 := hideP hN6
  have HT6 := hideP hT6
  have HF6 := hideP hF6
  clear hB6 hN6 hT6 hF6
  by_cases o4 : op = 4
  · subst o4
    have gx := vmay_x HMY.out (.inr (.inr (.inr (.inl rfl))))
    simp only at gx
    obtain ⟨px, rfl⟩ : ∃ k : Nat, xx = (k : Int) := Int.eq_ofNat_of_zero_le gx.1
    have hin := HI.out.iarg
    simp only at hin
    have hpb := part_bounds text j 6
    have h64 : (2 : Int) ^ 6 = 64 := by decide
    have Q : ∀ q, Calls Try.prog 46 #[.slice T text.length tc, .int .i64 (j : Int)] (w6.drewN q) fun e w'' => e = .returned (.int .i64 (part text j 6)) ∧ ∃ m, w'' = w6.drewN m := fun q =>
      (refAt_in (w6.drewN q) (fun k => k < n0 ∧ k ≠ b) T text.length tc j text (HV3.out.txt.upd ((Upd.refl Nob w6).drewN q) (fun _ _ => not_nob)) hj).mono (by
        rintro e w'' ⟨he, rfl⟩
        exact ⟨he, q, rfl⟩)
    have HQ := hideP Q
    rcases hb : holdsB arg (part text j 6) with _ | _
    · have HF := hideP (HP.out.trans (show _ = markS s pc by show (if holdsB arg (part text j 6) = true then visitF is text j f px caps (markS s pc) else markS s pc) = _; rw [hb]; rfl))
      clear l4 Q
      go_wp2_with fail
      go_quiet ((go_at_call 46; exact HQ.out _))
      go_wp2_with fail
      refine (refHolds_any _ arg (part text j 6) hin ⟨by omega, by omega⟩).mono ?_
      rintro e w9 ⟨he, rfl⟩
      rw [hb] at he
      subst he
      go_wp2_with fail
      go_end0
      rw [HF.out]
      exact ⟨rfl, HV3.out.still ((Upd.refl _ _).drewN _), HU3.out.drewN _⟩
    · have HF := hideP (HP.out.trans (show _ = visitF is text j f px caps (markS s pc) by show (if holdsB arg (part text j 6) = true then visitF is text j f px caps (markS s pc) else markS s pc) = _; rw [hb]; rfl))
      clear l4 Q
      go_wp2_with fail
      go_quiet ((go_at_call 46; exact HQ.out _))
      go_wp2_with fail
      refine (refHolds_any _ arg (part text j 6) hin ⟨by omega, by omega⟩).mono ?_
      rintro e w9 ⟨he, rfl⟩
      rw [hb] at he
      subst he
      go_wp2_with fail
      refine (HIH.out (w6.drewN _) px caps C cc _ (HV3.out.still ((Upd.refl _ _).drewN _)) (by omega) hcl HC3.out HCNT.out).mono ?_
      rintro e w8 ⟨rfl, hV8, hU8⟩
      have HV8 := hideP hV8
      have HU8 := hideP (Fr.trans (HU3.out.drewN _) hU8)
      clear hV8 hU8
      go_wp2_with fail
      go_end0
      rw [HF.out]
      exact ⟨rfl, HV8.out, HU8.out⟩
  have o4b : (op == 4) = false := by simpa using o4
  by_cases o1 : op = 1
  · subst o1
    have gx := vmay_x HMY.out (.inl rfl)
    simp only at gx
    obtain ⟨px, rfl⟩ : ∃ k : Nat, xx = (k : Int) := Int.eq_ofNat_of_zero_le gx.1
    obtain rfl : rs.length = m := HRR.out.len
    by_cases hjl : j < text.length
    rotate_left
    · have hd : decide ((j : Int) < (text.length : Int)) = false := decide_eq_false (by omega)
      have hfit : fitsB rs text j = false := by unfold fitsB; rw [List.getElem?_eq_none (by omega)]
      have HF := hideP (HP.out.trans (show _ = markS s pc by show (if fitsB rs text j = true then _ else markS s pc) = _; rw [hfit]; rfl))
      have hjn : ¬ (j : Int) < (text.length : Int) := by omega
      clear hfit
      go_wp2_with fail
      go_quiet (fail)
      go_wp2_with fail
      go_end0
      rw [HF.out]
      exact ⟨rfl, HV3.out.still ((Upd.refl _ _).drewN _), HU3.out.drewN _⟩
    obtain ⟨ad2, cx, rfl, hcx, hcI, hat⟩ := HV3.out.txt.at_ hjl
    have hd : decide ((j : Int) < (text.length : Int)) = true := decide_eq_true (by omega)
    have hjn : (j : Int) < (text.length : Int) := by omega
    have hcc : w6.cell? (ad2.add j) = some (.int .i64 cx) := hat w6 (Upd.refl _ _)
    have hfit : fitsB rs text j = hasB rs cx := by unfold fitsB; rw [hcx]
    have Q : ∀ q, Calls Try.prog 57 #[.slice B rs.length c', .int .i64 cx] (w6.drewN q) fun e w'' => e = .returned (.bool (hasB rs cx)) ∧ ∃ m, w'' = w6.drewN m := fun q =>
      (ref_has (w6.drewN q) (fun k => k < n0 ∧ k ≠ b) B rs.length c' rs (HRR.out.upd ((Upd.refl Nob w6).drewN q) (fun _ _ => not_nob)) cx hcI).mono (by
        rintro e w'' ⟨he, q2, rfl⟩
        exact ⟨he, by first | exact ⟨_, rfl⟩ | exact drew_two _ _ _⟩)
    have HQ := hideP Q
    rcases hb : hasB rs cx with _ | _
    · have HF := hideP (HP.out.trans (show _ = markS s pc by show (if fitsB rs text j = true then _ else markS s pc) = _; rw [hfit, hb]; rfl))
      rw [hb] at HQ
      clear hfit Q hat hcx hb
      go_wp2_with fail
      go_quiet ((go_at_call 57; exact HQ.out _))
      go_wp2_with fail
      go_end0
      rw [HF.out]
      exact ⟨rfl, HV3.out.still ((Upd.refl _ _).drewN _), HU3.out.drewN _⟩
    · have HF := hideP (HP.out.trans (show _ = ({ markS s pc with next := s.next ++ [(px, caps)] } : VSt) by show (if fitsB rs text j = true then _ else markS s pc) = _; rw [hfit, hb]; rfl))
      rw [hb] at HQ
      clear hfit Q hat hcx hb
      go_wp2_with fail
      go_quiet ((go_at_call 57; exact HQ.out _))
      go_wp2_with fail
      obtain ⟨i0, hi0, hz0, hz1, hz2⟩ := info_parts vinfo_thread
      have ln : w6.cell? ⟨b, 0 + 6, none⟩ = some (.slice N6 (markS s pc).next.length nc6) := HB6.out.cellv rfl
      have hroom := HV3.out.room
      have hn0 := HV3.out.n0w
      have hbl := HB6.out.lt
      clear lj l4 hcc lt_ l3 HQ
      have hnews : ∀ q, ∀ j u, [Value.int .i64 (px : Int), Value.slice C ncaps cc][j]? = some u → ((w6.drewN q).alloc (.cells #[.int .i64 (px : Int), .slice C ncaps cc] 83)).cell? ((⟨w6.heap.size, 0, none⟩ : Addr).add j) = some u := fun q =>
        World.news_of_block (cs := #[.int .i64 (px : Int), .slice C ncaps cc]) (t := 83) (fr := (0, 0)) (heap_alloc_new (w6.drewN q) _)
      have hown : ∀ q, ((w6.drewN q).alloc (.cells #[.int .i64 (px : Int), .slice C ncaps cc] 83)).ownsRow n0 83 2 (.slice N6 (markS s pc).next.length nc6) (markS s pc).next.length xs6 := fun q =>
        World.ownsRow.alloc (w := w6.drewN q) HN6.out _
      have hbn : (Value.slice N6 (markS s pc).next.length nc6).ownBlock ≠ some b := own_ne HN6.out HB6.out (by decide)
      have HNW := hideP hnews
      have HOW := hideP hown
      have hbc : ∀ q w', ((w6.drewN q).alloc (.cells #[.int .i64 (px : Int), .slice C ncaps cc] 83)).grownBy w' (Value.slice N6 (markS s pc).next.length nc6).ownBlock → Cells w' b 80 (runCells (some ad) is.length c st (↑ncaps) (some ad2) text.length tc j mb mc N6 (markS s pc).next.length nc6 (markS s pc).found.isSome FA6 fn6 fc6 wh6 (markS s pc).steps (markS s pc).over) := fun q w' hg =>
        Cells.grown (Cells.alloc (w := w6.drewN q) HB6.out _) hg hbn
      have HBC := hideP hbc
      have ln2 : ((w6.drewN (nq + 1)).alloc (.cells #[.int .i64 (px : Int), .slice C ncaps cc] 83)).cell? ⟨b, 0 + 6, none⟩ = some (.slice N6 (markS s pc).next.length nc6) := (Cells.alloc (w := w6.drewN (nq + 1)) HB6.out _).cellv rfl
      clear hnews hown hbc
      go_region_law ((refine step_append_lies _ rfl (.tmp 139) (.tmp 144) 78 rfl n0 83 i0 _ 2 32 Try.underlying78 hi0 hz0 hz1 hz2 rfl (by decide) (.slice N6 (markS s pc).next.length nc6) (markS s pc).next.length xs6 (by rfl) (HOW.out _) ⟨w6.heap.size, 0, none⟩ 1 1 [.int .i64 (px : Int), .slice C ncaps cc] (by rfl) (by rfl) (HNW.out _) (by intro u hu; simp at hu; rcases hu with rfl | rfl <;> rfl) (by decide) (by unfold maxLen; omega) (by omega) (by simp; omega) (w6.heap.size + 1) (by simp) ?_; intro gN cN w9 oN gr hat hlt; have HG := hideP gr; have HON := hideP oN; have HAT := hideP hat; have fzb : w9.drew.frozen? ⟨b, 0 + 6, none⟩ = false := (HBC.out _ _ gr).frozen 6; have fzb2 : w9.frozen? ⟨b, 0 + 6, none⟩ = false := (HBC.out _ _ gr).frozen 6; have cb2 : w9.cell? ⟨b, 0 + 6, none⟩ = some _ := (HBC.out _ _ gr).cellv rfl; clear gr oN hat))
      all_goals go_wp2_with fail
      all_goals (obtain ⟨hVp, hUp⟩ := HV3.out.pushed (px := px) (caps := caps) HB6.out HN6.out HT6.out HF6.out (by omega) hcl HC3.out HRM.out (((Upd.refl Nob w6).drewN _).alloc _) HG.out HON.out)
      all_goals (go_end0; rw [HF.out]; exact ⟨rfl, hVp, Fr.trans HU3.out hUp⟩)
  have o1b : (op == 1) = false := by simpa using o1
  by_cases o5 : op = 5
  · subst o5
    have HF := hideP (HP.out.trans (rfl : _ = ({ markS s pc with found := some (caps, arg), over := true } : VSt)))
    have fz7 : w6.frozen? ⟨b, 0 + 7, none⟩ = false := HB6.out.frozen 7
    have c7 : w6.cell? ⟨b, 0 + 7, none⟩ = some (.bool (markS s pc).found.isSome) := HB6.out.cellv rfl
    have hB7 := HB6.out.set_ 7 (.bool true)
    have HB7 := hideP hB7
    obtain ⟨i0, hi0, hz0, hz1, hz2⟩ := info_parts vinfo_int
    clear hB7 lj lt_ l1 l4
    have hsz6 : (w6.setCell ⟨b, 0 + 7, none⟩ (.bool true)).heap.size = w6.heap.size := by simp
    have hB0 : ((w6.setCell ⟨b, 0 + 7, none⟩ (.bool true)).alloc (.cells #[] 3)).ownsRow w6.heap.size 3 1 (.slice (some ⟨w6.heap.size, 0, none⟩) 0 0) 0 [] := by
      have h := World.ownsRow_lit (size := 1) (e := 3) (base := (w6.setCell ⟨b, 0 + 7, none⟩ (.bool true)).heap.size) (w6.setCell ⟨b, 0 + 7, none⟩ (.bool true)) #[] 0 (Nat.le_refl _) (by unfold maxLen; omega) rfl
      rw [hsz6] at h
      exact h
    have hUs : Upd (fun k => k = b) w6 ((w6.setCell ⟨b, 0 + 7, none⟩ (.bool true)).alloc (.cells #[] 3)) := ((Upd.refl (fun k => k = b) w6).setCell ⟨b, 0 + 7, none⟩ (.bool true) (fun _ => rfl)).alloc _
    have hCs : CapR ((w6.setCell ⟨b, 0 + 7, none⟩ (.bool true)).alloc (.cells #[] 3)) C ncaps caps := HC3.out.keep (IntKeep.of hUs (fun k hk e => HV3.out.notint k hk (.inl e)))
    have hBs : Cells ((w6.setCell ⟨b, 0 + 7, none⟩ (.bool true)).alloc (.cells #[] 3)) b 80 _ := Cells.alloc HB7.out _
    have hbl := HB6.out.lt
    have HB0 := hideP hB0
    have HUs := hideP hUs
    have HCs := hideP hCs
    have HBs := hideP hBs
    clear hB0 hUs hCs hBs
    go_wp2_with (at_builtin; refine wpList_append_reads rfl (.tmp 155) (.tmp 156) 28 rfl w6.heap.size 3 i0 (.int .i64 0) 1 8 Try.underlying28 hi0 hz0 hz1 hz2 rfl (by decide) (.slice (some ⟨w6.heap.size, 0, none⟩) 0 0) 0 [] rfl HB0.out (IntB ((w6.setCell ⟨b, 0 + 7, none⟩ (.bool true)).alloc (.cells #[] 3))) C ncaps cc (intv caps) rfl HCs.out (intv_one caps) (by unfold maxLen; omega) (by omega) (by simp) ?_; intro v7 w7 o7 g7 a7; simp only [Nat.zero_add, List.nil_append] at o7; obtain ⟨ga7, c7, rfl, -, -⟩ := o7.form (by omega); have hB8 := Cells.grown HBs.out g7 (by simp [Value.ownBlock]; omega); have HU7 := hideP (HUs.out.grown g7 (fun k hk h => by simp [Value.ownBlock] at hk; omega)); have fz8 : w7.frozen? ⟨b, 0 + 7 + 1, none⟩ = false := hB8.frozen 8; have c8 : w7.cell? ⟨b, 0 + 7 + 1, none⟩ = some (.slice FA6 fn6 fc6) := hB8.cellv rfl; have hB9 := hB8.set_ (0 + 7 + 1) (.slice (some ⟨ga7, 0, none⟩) ncaps c7); have fz9 : (w7.setCell ⟨b, 0 + 7 + 1, none⟩ (.slice (some ⟨ga7, 0, none⟩) ncaps c7)).frozen? ⟨b, 0 + 7 + 2, none⟩ = false := hB9.frozen 9; have c9 : (w7.setCell ⟨b, 0 + 7 + 1, none⟩ (.slice (some ⟨ga7, 0, none⟩) ncaps c7)).cell? ⟨b, 0 + 7 + 2, none⟩ = some (.int .i64 wh6) := hB9.cellv rfl; have l3 : (w7.setCell ⟨b, 0 + 7 + 1, none⟩ (.slice (some ⟨ga7, 0, none⟩) ncaps c7)).cell? ⟨xb, 0 + 3, none⟩ = some (.int .i64 arg) := ((HCX.out.upd (HU7.out.setCell _ _ (fun _ => rfl)) (fun e => hxF (.inl e))).cellv rfl); have hB10 := hB9.set_ (0 + 7 + 2) (.int .i64 arg); have fz11 : ((w7.setCell ⟨b, 0 + 7 + 1, none⟩ (.slice (some ⟨ga7, 0, none⟩) ncaps c7)).setCell ⟨b, 0 + 7 + 2, none⟩ (.int .i64 arg)).frozen? ⟨b, 0 + 11, none⟩ = false := hB10.frozen 11; have fz12 : ((w7.setCell ⟨b, 0 + 7 + 1, none⟩ (.slice (some ⟨ga7, 0, none⟩) ncaps c7)).setCell ⟨b, 0 + 7 + 2, none⟩ (.int .i64 arg)).drew.frozen? ⟨b, 0 + 11, none⟩ = false := hB10.frozen 11; have c11 : ((w7.setCell ⟨b, 0 + 7 + 1, none⟩ (.slice (some ⟨ga7, 0, none⟩) ncaps c7)).setCell ⟨b, 0 + 7 + 2, none⟩ (.int .i64 arg)).cell? ⟨b, 0 + 11, none⟩ = some (.bool (markS s pc).over) := hB10.cellv rfl; have HB10 := hideP hB10; have HO7 := hideP o7; clear hB8 hB9 hB10 o7 g7 a7)
    have hlow := (HO7.out.lt ga7 rfl).1
    have hob : (Value.slice (some ⟨ga7, 0, none⟩) ncaps c7).ownBlock ≠ some b := by simp [Value.ownBlock]; omega
    have hCw := capR_own (own_far (own_far (own_far HO7.out ⟨b, 0 + 7 + 1, none⟩ (.slice (some ⟨ga7, 0, none⟩) ncaps c7) hob) ⟨b, 0 + 7 + 2, none⟩ (.int .i64 arg) hob) ⟨b, 0 + 11, none⟩ (.bool true) hob)
    have hUw := ((HU7.out.setCell ⟨b, 0 + 7 + 1, none⟩ (.slice (some ⟨ga7, 0, none⟩) ncaps c7) (fun _ => rfl)).setCell ⟨b, 0 + 7 + 2, none⟩ (.int .i64 arg) (fun _ => rfl)).setCell ⟨b, 0 + 11, none⟩ (.bool true) (fun _ => rfl)
    have hBw := HB10.out.set_ (0 + 11) (.bool true)
    obtain ⟨hVh, hUh⟩ := HV3.out.hit (wh' := arg) (FA' := some ⟨ga7, 0, none⟩) (fc' := c7) (caps := caps) HB6.out HN6.out HT6.out hcl hUw hBw hCw
    have HVh := hideP hVh
    have HUh := hideP (Fr.trans HU3.out hUh)
    clear hVh hUh hBw hUw hCw hob
    go_end0
    rw [HF.out]
    exact ⟨rfl, HVh.out, HUh.out⟩
  have o5b : (op == 5) = false := by simpa using o5
  have o6 : op = 6 := by have := vmay_op HMY.out; simp only at this; omega
  subst o6
  have HF := hideP (HP.out.trans (rfl : _ = markS s pc))
  go_wp2_with fail
  go_end0
  rw [HF.out]
  exact ⟨rfl, HV3.out, HU3.out⟩

/-- every visit goes as the plain words have it -/
theorem vis_any (n0 b mb mc : Nat) (A : Option Addr) (c : Nat) (is : List PInst) (st : Int) (ncaps : Nat) (T : Option Addr) (tc : Nat) (text : List Int) (j : Nat)
    (hj : j ≤ text.length) (hn1 : 1 ≤ ncaps) (hnc : ncaps ≤ 1002) (hmay : ∀ (i : Nat) (x : PInst), is[i]? = some x → mayB x is.length ncaps = true) : ∀ f, VisOk n0 b mb mc A c is st ncaps T tc text j f
  | 0 => fun _ _ _ _ _ _ _ _ _ _ h => absurd h (by omega)
  | f + 1 => vis_step n0 b mb mc A c is st ncaps T tc text j f hj hn1 hnc hmay (vis_any n0 b mb mc A c is st ncaps T tc text j hj hn1 hnc hmay f)
end Go.Proofs.Ytnkefclbchpafaa
