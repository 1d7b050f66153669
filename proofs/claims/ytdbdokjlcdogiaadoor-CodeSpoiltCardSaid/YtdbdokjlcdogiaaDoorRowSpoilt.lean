/-
  heron's CodeSpoilt: for every input the call answers true, and all that was handed in reads as before: the row's statement, out of the walk. No condition.
-/
import Derived.Test.YtdbdokjlcdogiaaDoorRows
import Derived.Test.YtdbdokjlcdogiaaDoorView
import Derived.Test.YtdbdokjlcdogiaaDoorSpoilt
import Derived.Test.YtdbdokjlcdogiaaDoorNestP
import Derived.Test.YtdbdokjlcdogiaaDoorViewB

import Derived.Test.YtdbdokjlcdogiaaDoorTabs
import Derived.Test.YtdbdokjlcdogiaaDoorTie
import Derived.Test.YtdbdokjlcdogiaaDoorCards
import Derived.JoinedCond
import Derived.LaidMore
import Derived.Stop.Joined
import Derived.SevenTiedAt
namespace Go.Proofs.YtdbdokjlcdogiaaDoor.codeSpoilt
open Go.ChangeShapes Go.WideShapes Go.ChangeAt Go.RowKit
open Go.ChangeMaps (open_string shut_string)
set_option linter.unusedVariables false

theorem door_met (os : Os) (args : Array Value) : laidMetH Tryd.prog Rows.codeSpoiltRow.laid ((World.doorLaid Tryd.prog 4000 os).forCall (fun _ _ => 0) ⟨#[], args, []⟩).memory :=
  laidMetH_of_parts3 (fuel := 8) (laidMet_of_run' 8 (by kernel_rfl) (by kernel_rfl)) (by kernel_rfl) (by kernel_rfl)
theorem own : ownKnob Tryd.prog.godebug = none := by kernel_rfl
theorem laidOut : laidOutB Tryd.prog = true := by kernel_rfl
theorem bytesInt : Tryd.checked.prog.bytesOf 3 = 8 := by kernel_rfl

theorem bytesU8 : Tryd.checked.prog.bytesOf 5 = 1 := by kernel_rfl

set_option maxRecDepth 100000 in
theorem lifted (os : Os) (started : os.Started) (H : Type) (enc : TypeId × Value → H) :
    ReturnsInHanded {} Tryd.checked os 5 .any (fun w args => (Rows.codeSpoiltSpec.pre enc Tryd.prog Tryd.f5 Rows.codeSpoiltRow.domain false w args ∧ laidMetH Tryd.prog Rows.codeSpoiltRow.laid w) ∧ sizedMet enc Tryd.prog Tryd.f5 (OpenSpec.ofChange Rows.codeSpoiltSpec) false w args) (Rows.codeSpoiltSpec.post enc Tryd.prog Tryd.f5 false true false false) := by
  refine returnsInHanded_of_change_and (C := Tryd.checked) (X := fun w _ => laidMetH Tryd.prog Rows.codeSpoiltRow.laid w) (fun _ _ _ hh h => h.of_heap hh) own started (by kernel_rfl) Tryd.func5
    (ChangeSpec.witness_shaped (enc := enc) (C := Tryd.checked) (os := os) (X := fun w _ => laidMetH Tryd.prog Rows.codeSpoiltRow.laid w) false (World.doorLaid Tryd.prog 4000 os) #[.agg #[.slice none 0 0, .int .i64 0, .int .i64 0], .int .i64 0, .int .u8 0, .int .i64 0, .slice none 0 0] 8 rfl (World.shaped_of_RefB (by kernel_rfl) (by kernel_rfl)) (by kernel_rfl) (by kernel_rfl) (by kernel_rfl) (door_met os _)) ?_
  intro W base args ds gs before hval0 hW hcnd hsz0 hL _
  have hval : ∀ (j : Nat) t v, Tryd.f5.params[j]? = some t → args[j]? = some v → Value.okWide Tryd.prog W .any base t v := hval0
  have hsz : (DataW.weightsEach Tryd.checked.prog (Tryd.f5.params.toList ++ Rows.codeSpoiltSpec.plain.varTypes Tryd.prog) (ds ++ gs)).all (· ≤ reachBytes) = true := hsz0
  have hW' := hW
  obtain ⟨p, q, hA0, hV, rfl, hfz, hnd⟩ := hW
  have hA : DataW.TrodAll enc Tryd.prog W 0 (fun _ => true) true Tryd.f5.params.toList args.toList ds p := hA0
  rw [Tryd.params5] at hA hval hsz
  obtain ⟨v0, vs0, d0, ds0, p0, q0, hargs, rfl, rfl, h0, r0⟩ := trodAll_cons hA
  obtain ⟨v1, vs1, d1, ds1, p1, q1, rfl, rfl, rfl, h1, r1⟩ := trodAll_cons r0
  obtain ⟨v2, vs2, d2, ds2, p2, q2, rfl, rfl, rfl, h2, r2⟩ := trodAll_cons r1
  obtain ⟨v3, vs3, d3, ds3, p3, q3, rfl, rfl, rfl, h3, r3⟩ := trodAll_cons r2
  obtain ⟨v4, vs4, d4, ds4, p4, q4, rfl, rfl, rfl, h4, r4⟩ := trodAll_cons r3
  obtain ⟨rfl, rfl, rfl⟩ := trodAll_nil r4
  obtain rfl : args = #[v0, v1, v2, v3, v4] := by cases args; simp_all
  obtain ⟨rfl, rfl⟩ := trodVars_none hV
  have k0 := h0
  have lt0 : ∀ x ∈ p0, x.block < W.heap.size := by obtain ⟨m, hm⟩ := k0; exact DataW.trod_lt m _ _ _ hm
  obtain ⟨cs0, rfl, -⟩ := okWide_struct Tryd.underlying24 (hval 0 24 v0 rfl rfl)
  obtain ⟨A0, n0, c0, is0, st0, cp0, rfl, va0, vst0, vcp0, vn0, vr0⟩ := view_prog Tryd.underlying24 (by kernel_rfl) (by kernel_rfl) Tryd.underlying22 Tryd.underlying3 Tryd.underlying3
    Tryd.underlying48 (by kernel_rfl) (by kernel_rfl) Tryd.underlying3 Tryd.underlying3 Tryd.underlying3 Tryd.underlying3 Tryd.underlying46 (by kernel_rfl)
    Tryd.underlying50 (by kernel_rfl) (by kernel_rfl) Tryd.underlying3 Tryd.underlying3 (by kernel_rfl) h0 (light_arg (P := Tryd.prog) hsz (j := 0) (t := 24) rfl rfl)
  have k1 := h1
  have lt1 : ∀ x ∈ p1, x.block < W.heap.size := by obtain ⟨m, hm⟩ := k1; exact DataW.trod_lt m _ _ _ hm
  obtain ⟨x1, rfl, rfl, rfl, wx1⟩ := open_int Tryd.underlying3 (hval 1 3 v1 rfl rfl) h1
  have vi1 := in64_of_wf wx1
  have k2 := h2
  have lt2 : ∀ x ∈ p2, x.block < W.heap.size := by obtain ⟨m, hm⟩ := k2; exact DataW.trod_lt m _ _ _ hm
  obtain ⟨x2, rfl, rfl, rfl, wx2⟩ := open_int Tryd.underlying5 (hval 2 5 v2 rfl rfl) h2
  have vi2 := u8_of_wf wx2
  have k3 := h3
  have lt3 : ∀ x ∈ p3, x.block < W.heap.size := by obtain ⟨m, hm⟩ := k3; exact DataW.trod_lt m _ _ _ hm
  obtain ⟨x3, rfl, rfl, rfl, wx3⟩ := open_int Tryd.underlying3 (hval 3 3 v3 rfl rfl) h3
  have vi3 := in64_of_wf wx3
  have k4 := h4
  have lt4 : ∀ x ∈ p4, x.block < W.heap.size := by obtain ⟨m, hm⟩ := k4; exact DataW.trod_lt m _ _ _ hm
  obtain ⟨A4, n4, c4, rfl⟩ := okWide_slice Tryd.underlying30 (hval 4 30 v4 rfl rfl)
  obtain ⟨xs4, vr4, vi4, vn4, vp4, vd4⟩ := view_bytes Tryd.underlying30 Tryd.underlying5 (by kernel_rfl) h4
  have vs4 : n4 ≤ 140737488351232 := by
    rcases vd4 with rfl | ⟨es, sp, rfl⟩
    · simp [places] at vp4; omega
    · have := sized_slice hsz (j := 4) (t := 30) (e := 5) rfl rfl Tryd.underlying30
      rw [bytesU8] at this
      simp only [reachBytes] at this
      simp only [places] at vp4
      omega
  clear hA0 hval0 hsz0
  obtain ⟨hptab, hwtab⟩ := tabs_of hL
  refine (spoilt_any W A0 n0 c0 is0 st0 cp0 _ va0 vst0 vcp0 vn0 x1 x2 x3 vi1 vi2 vi3 A4 n4 c4 xs4 _ vr4 vi4 vs4 hptab hwtab).mono fun e W' ⟨he, hU⟩ => ?_
  have bel := hU.below (Nat.le_refl _) (fun _ _ => not_nob)
  subst he
  exact ⟨_, rfl, _, _, _, [], _, [], hW', trodAll_mk1 (shut_bool Tryd.underlying4 _), (trodAll_cons_mk (Below.trod laidOut (by kernel_rfl) (of_decide_eq_true (by kernel_rfl)) k0 bel lt0) (trodAll_cons_mk (Below.trod laidOut (by kernel_rfl) (of_decide_eq_true (by kernel_rfl)) k1 bel lt1) (trodAll_cons_mk (Below.trod laidOut (by kernel_rfl) (of_decide_eq_true (by kernel_rfl)) k2 bel lt2) (trodAll_cons_mk (Below.trod laidOut (by kernel_rfl) (of_decide_eq_true (by kernel_rfl)) k3 bel lt3) (trodAll_cons_mk (Below.trod laidOut (by kernel_rfl) (of_decide_eq_true (by kernel_rfl)) k4 bel lt4) trodAll_mk0))))), rfl, bel.frame _, fun h => by cases h⟩

theorem over : Rows.codeSpoiltRow.holds Tryd.pinned (OpenSpec.ofChange Rows.codeSpoiltSpec) :=
  OpenClaim.holds_of_wide 5 Tryd.f5 rfl rfl rfl rfl rfl rfl rfl ⟨rfl, rfl, rfl, rfl, rfl⟩ rfl rfl rfl rfl rfl (by kernel_rfl) Tryd.func5 (by kernel_rfl)
    (of_decide_eq_true (by kernel_rfl)) (by unfold Func.isWrapper; first | (rw [if_pos (by decide +kernel)]; kernel_rfl) | (rw [if_neg (by decide +kernel)]; exact ⟨rfl, rfl⟩))
    (fun os started H enc _ => lifted os started H enc)

theorem proved : Rows.CodeSpoiltCardSaid :=
  Claim7.holds_tied_plain_at .later [] [.data, .data, .data, .data] true (true, Rows.codeSpoiltCard.stood.harness.2) true
    over (fun _ h => by cases h) (by kernel_rfl) (fun _ h => by cases h) codeSpoilt_row_tie rfl ⟨rfl, rfl⟩ (by kernel_rfl) rfl
    (fun f fn hf hfn => by
      obtain rfl : f = 5 := Option.some.inj ((show Tryd.prog.funcNamed "heron/heronlaw10.CodeSpoilt" = some 5 by kernel_rfl).symm.trans hf) |>.symm
      obtain rfl : fn = Tryd.f5 := (Option.some.inj (Tryd.func5.symm.trans hfn)).symm
      exact ⟨by kernel_rfl, fun j t ht => by
        rw [Tryd.params5] at ht
        have hm : t ∈ [24, 3, 5, 3, 30] := by simpa using Array.mem_of_getElem? ht
        have hall : ([24, 3, 5, 3, 30].all fun u => !Tryd.prog.wantsStandIn u) = true := by kernel_rfl
        exact (show Tryd.prog.wantsStandIn t = false by simpa using List.all_eq_true.1 hall t hm)⟩)
    (by kernel_rfl)
end Go.Proofs.YtdbdokjlcdogiaaDoor.codeSpoilt

