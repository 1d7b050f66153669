/-
  heron's PikeRuns: for every input the call answers true, and all that was handed in reads as before: the row's statement, out of the walk. No condition.
-/
import Derived.Test.YtnkefclbchpafaaRows
import Derived.Test.YtnkefclbchpafaaView
import Derived.Test.YtnkefclbchpafaaRuns
import Derived.Test.YtnkefclbchpafaaNestP
import Derived.Test.YtnkefclbchpafaaAskW
import Derived.JoinedCond
namespace Go.Proofs.Ytnkefclbchpafaa.pikeRuns
open Go.ChangeShapes Go.WideShapes Go.ChangeAt Go.RowKit
open Go.ChangeMaps (open_string shut_string)
set_option linter.unusedVariables false

theorem own : ownKnob Try.prog.godebug = none := by kernel_rfl
theorem laidOut : laidOutB Try.prog = true := by kernel_rfl
theorem bytesInt : Try.checked.prog.bytesOf 3 = 8 := by kernel_rfl


set_option maxRecDepth 100000 in
theorem lifted (os : Os) (started : os.Started) (H : Type) (enc : TypeId × Value → H) :
    ReturnsInHanded {} Try.checked os 4 .any (Rows.pikeRunsSpec.pre6 enc Try.prog Try.f4 Rows.pikeRunsRow.domain false) (Rows.pikeRunsSpec.post enc Try.prog Try.f4 false true false false) := by
  refine returnsInHanded_of_change_sized (C := Try.checked) own started (by kernel_rfl) Try.func4
    (ChangeSpec.witness6 (enc := enc) (C := Try.checked) false ⟨#[], #[.agg #[.slice none 0 0, .int .i64 0, .int .i64 0], .agg #[.slice none 0 0, .int .i64 0, .int .i64 0], .agg #[.slice none 0 0, .int .i64 0, .bool false]], []⟩ 8 (by kernel_rfl) (by kernel_rfl) (by kernel_rfl) (by kernel_rfl)) ?_
  intro W base args ds gs before hval0 hW hcnd hsz0 _
  have hval : ∀ (j : Nat) t v, Try.f4.params[j]? = some t → args[j]? = some v → Value.okWide Try.prog W .any base t v := hval0
  have hsz : (DataW.weightsEach Try.checked.prog (Try.f4.params.toList ++ Rows.pikeRunsSpec.plain.varTypes Try.prog) (ds ++ gs)).all (· ≤ reachBytes) = true := hsz0
  have hW' := hW
  obtain ⟨p, q, hA0, hV, rfl, hfz, hnd⟩ := hW
  have hA : DataW.TrodAll enc Try.prog W 0 (fun _ => true) true Try.f4.params.toList args.toList ds p := hA0
  rw [Try.params4] at hA hval hsz
  obtain ⟨v0, vs0, d0, ds0, p0, q0, hargs, rfl, rfl, h0, r0⟩ := trodAll_cons hA
  obtain ⟨v1, vs1, d1, ds1, p1, q1, rfl, rfl, rfl, h1, r1⟩ := trodAll_cons r0
  obtain ⟨v2, vs2, d2, ds2, p2, q2, rfl, rfl, rfl, h2, r2⟩ := trodAll_cons r1
  obtain ⟨rfl, rfl, rfl⟩ := trodAll_nil r2
  obtain rfl : args = #[v0, v1, v2] := by cases args; simp_all
  obtain ⟨rfl, rfl⟩ := trodVars_none hV
  have k0 := h0
  have lt0 : ∀ x ∈ p0, x.block < W.heap.size := by obtain ⟨m, hm⟩ := k0; exact DataW.trod_lt m _ _ _ hm
  obtain ⟨cs0, rfl, -⟩ := okWide_struct Try.underlying27 (hval 0 27 v0 rfl rfl)
  obtain ⟨A0, n0, c0, is0, st0, cp0, rfl, va0, vst0, vcp0, vn0, vr0⟩ := view_prog Try.underlying27 (by kernel_rfl) (by kernel_rfl) Try.underlying25 Try.underlying3 Try.underlying3
    Try.underlying64 (by kernel_rfl) (by kernel_rfl) Try.underlying3 Try.underlying3 Try.underlying3 Try.underlying3 Try.underlying44 (by kernel_rfl)
    Try.underlying66 (by kernel_rfl) (by kernel_rfl) Try.underlying3 Try.underlying3 (by kernel_rfl) h0 (light_arg (P := Try.prog) hsz (j := 0) (t := 27) rfl rfl)
  have k1 := h1
  have lt1 : ∀ x ∈ p1, x.block < W.heap.size := by obtain ⟨m, hm⟩ := k1; exact DataW.trod_lt m _ _ _ hm
  obtain ⟨cs1, rfl, -⟩ := okWide_struct Try.underlying27 (hval 1 27 v1 rfl rfl)
  obtain ⟨A1, n1, c1, is1, st1, cp1, rfl, va1, vst1, vcp1, vn1, vr1⟩ := view_prog Try.underlying27 (by kernel_rfl) (by kernel_rfl) Try.underlying25 Try.underlying3 Try.underlying3
    Try.underlying64 (by kernel_rfl) (by kernel_rfl) Try.underlying3 Try.underlying3 Try.underlying3 Try.underlying3 Try.underlying44 (by kernel_rfl)
    Try.underlying66 (by kernel_rfl) (by kernel_rfl) Try.underlying3 Try.underlying3 (by kernel_rfl) h1 (light_arg (P := Try.prog) hsz (j := 1) (t := 27) rfl rfl)
  have k2 := h2
  have lt2 : ∀ x ∈ p2, x.block < W.heap.size := by obtain ⟨m, hm⟩ := k2; exact DataW.trod_lt m _ _ _ hm
  obtain ⟨cs2, rfl, -⟩ := okWide_struct Try.underlying30 (hval 2 30 v2 rfl rfl)
  obtain ⟨A2, n2, c2, xs2, at2, an2, rfl, vt2, vi2, vb2⟩ := view_asked8 Try.underlying30 (by kernel_rfl) (by kernel_rfl) Try.underlying28 Try.underlying3 (by kernel_rfl) (by kernel_rfl) Try.underlying3 Try.underlying4 h2 (light_arg (P := Try.prog) hsz (j := 2) (t := 30) rfl rfl)
  clear hA0 hval0 hsz0
  refine (pikeRuns_any W A0 A1 A2 n0 c0 n1 c1 n2 c2 is0 is1 st0 cp0 st1 cp1 xs2 at2 an2 va0 va1 vt2 vst0 vcp0 vst1 vcp1 vi2 vn0 vn1 vr0 vb2).mono fun e W' ⟨he, hU⟩ => ?_
  have bel := hU.below (Nat.le_refl _) (fun _ _ => not_nob)
  subst he
  exact ⟨_, rfl, _, _, _, [], _, [], hW', trodAll_mk1 (shut_bool Try.underlying4 _), (trodAll_cons_mk (Below.trod laidOut (by kernel_rfl) (of_decide_eq_true (by kernel_rfl)) k0 bel lt0) (trodAll_cons_mk (Below.trod laidOut (by kernel_rfl) (of_decide_eq_true (by kernel_rfl)) k1 bel lt1) (trodAll_cons_mk (Below.trod laidOut (by kernel_rfl) (of_decide_eq_true (by kernel_rfl)) k2 bel lt2) trodAll_mk0))), rfl, bel.frame _, fun h => by cases h⟩

theorem over : Rows.pikeRunsRow.holds Try.pinned (OpenSpec.ofChange Rows.pikeRunsSpec) :=
  OpenClaim.holds_of_wide 4 Try.f4 rfl rfl rfl rfl rfl rfl rfl ⟨rfl, rfl, rfl, rfl, rfl⟩ rfl rfl rfl rfl rfl (by kernel_rfl) Try.func4 (by kernel_rfl)
    (of_decide_eq_true (by kernel_rfl)) (by unfold Func.isWrapper; first | (rw [if_pos (by decide +kernel)]; kernel_rfl) | (rw [if_neg (by decide +kernel)]; exact ⟨rfl, rfl⟩))
    (fun os started H enc _ => lifted os started H enc)

theorem proved : Rows.PikeRunsSaid := over
end Go.Proofs.Ytnkefclbchpafaa.pikeRuns

