/-
  RowWays, put together.
-/
import Derived.Test.YtlaofcgllchedaaRows
import Derived.Test.YtlaofcgllchedaaZ00View
import Derived.Test.YtlaofcgllchedaaZWays
import Derived.Test.YtlaofcgllchedaaZ37TreeV
import Derived.JoinedCond

/-
  heron's MirrorWays: for every input the call answers true, and all that was handed in reads as before: the row's statement, out of the walk. No condition.
-/


namespace Go.Proofs.Ytlaofcgllchedaa.mirrorWays
open Go.ChangeShapes Go.WideShapes Go.ChangeAt Go.RowKit
open Go.ChangeMaps (open_string shut_string)
set_option linter.unusedVariables false

theorem own : ownKnob Try.prog.godebug = none := by kernel_rfl
theorem laidOut : laidOutB Try.prog = true := by kernel_rfl
theorem bytesInt : Try.checked.prog.bytesOf 3 = 8 := by kernel_rfl



set_option maxRecDepth 100000 in
theorem lifted (os : Os) (started : os.Started) (H : Type) (enc : TypeId × Value → H) :
    ReturnsInHanded {} Try.checked os 5 .any (Rows.mirrorWaysSpec.pre6 enc Try.prog Try.f5 Rows.mirrorWaysRow.domain false) (Rows.mirrorWaysSpec.post enc Try.prog Try.f5 false true false false) := by
  refine returnsInHanded_of_change_sized (C := Try.checked) own started (by kernel_rfl) Try.func5
    (ChangeSpec.witness6 (enc := enc) (C := Try.checked) false ⟨#[], #[.agg #[.int .i64 0, .slice none 0 0, .int .i64 0, .slice none 0 0, .int .i64 0, .int .i64 0, .bool false, .int .i64 0, .string ByteArray.empty], .slice none 0 0], []⟩ 8 (by kernel_rfl) (by kernel_rfl) (by kernel_rfl) (by kernel_rfl)) ?_
  intro W base args ds gs before hval0 hW hcnd hsz0 _
  have hval : ∀ (j : Nat) t v, Try.f5.params[j]? = some t → args[j]? = some v → Value.okWide Try.prog W .any base t v := hval0
  have hsz : (DataW.weightsEach Try.checked.prog (Try.f5.params.toList ++ Rows.mirrorWaysSpec.plain.varTypes Try.prog) (ds ++ gs)).all (· ≤ reachBytes) = true := hsz0
  have hW' := hW
  obtain ⟨p, q, hA0, hV, rfl, hfz, hnd⟩ := hW
  have hA : DataW.TrodAll enc Try.prog W 0 (fun _ => true) true Try.f5.params.toList args.toList ds p := hA0
  rw [Try.params5] at hA hval hsz
  obtain ⟨v0, vs0, d0, ds0, p0, q0, hargs, rfl, rfl, h0, r0⟩ := trodAll_cons hA
  obtain ⟨v1, vs1, d1, ds1, p1, q1, rfl, rfl, rfl, h1, r1⟩ := trodAll_cons r0
  obtain ⟨rfl, rfl, rfl⟩ := trodAll_nil r1
  obtain rfl : args = #[v0, v1] := by cases args; simp_all
  obtain ⟨rfl, rfl⟩ := trodVars_none hV
  have k0 := h0
  have lt0 : ∀ x ∈ p0, x.block < W.heap.size := by obtain ⟨m, hm⟩ := k0; exact DataW.trod_lt m _ _ _ hm
  obtain ⟨cs0, rfl, -⟩ := okWide_struct Try.underlying30 (hval 0 30 v0 rfl rfl)
  obtain ⟨T0, vt0⟩ := view_node Try.underlying30 (by kernel_rfl) (by kernel_rfl) Try.underlying3 Try.underlying27 Try.underlying3 Try.underlying28 Try.underlying3 Try.underlying3
    Try.underlying4 Try.underlying3 Try.underlying9 (by kernel_rfl) Try.underlying45 (by kernel_rfl) (by kernel_rfl) Try.underlying3 Try.underlying3 (by kernel_rfl) h0 (light_arg (P := Try.prog) hsz (j := 0) (t := 30) rfl rfl)
  have k1 := h1
  have lt1 : ∀ x ∈ p1, x.block < W.heap.size := by obtain ⟨m, hm⟩ := k1; exact DataW.trod_lt m _ _ _ hm
  obtain ⟨A1, n1, c1, rfl⟩ := okWide_slice Try.underlying22 (hval 1 22 v1 rfl rfl)
  obtain ⟨xs1, vr1, vi1, vn1, vp1, vd1⟩ := view_ints Try.underlying22 Try.underlying3 (by kernel_rfl) h1
  have vs1 : n1 * 8 ≤ 140737488351232 := by
    rcases vd1 with rfl | ⟨es, sp, rfl⟩
    · simp [places] at vp1; omega
    · have := sized_slice hsz (j := 1) (t := 22) (e := 3) rfl rfl Try.underlying22
      rw [bytesInt] at this
      simp only [reachBytes] at this
      simp only [places] at vp1
      omega
  clear hA0 hval0 hsz0
  refine (mirrorWays_any W T0 _ _ _ vt0 A1 n1 c1 xs1 vr1 vi1 vs1).mono fun e W' ⟨he, hU⟩ => ?_
  have bel := hU.below (Nat.le_refl _) (fun _ _ => not_nob)
  subst he
  exact ⟨_, rfl, _, _, _, [], _, [], hW', trodAll_mk1 (shut_bool Try.underlying4 _), (trodAll_cons_mk (Below.trod laidOut (by kernel_rfl) (of_decide_eq_true (by kernel_rfl)) k0 bel lt0) (trodAll_cons_mk (Below.trod laidOut (by kernel_rfl) (of_decide_eq_true (by kernel_rfl)) k1 bel lt1) trodAll_mk0)), rfl, bel.frame _, fun h => by cases h⟩

theorem over : Rows.mirrorWaysRow.holds Try.pinned (OpenSpec.ofChange Rows.mirrorWaysSpec) :=
  OpenClaim.holds_of_wide 5 Try.f5 rfl rfl rfl rfl rfl rfl rfl ⟨rfl, rfl, rfl, rfl, rfl⟩ rfl rfl rfl rfl rfl (by kernel_rfl) Try.func5 (by kernel_rfl)
    (of_decide_eq_true (by kernel_rfl)) (by unfold Func.isWrapper; first | (rw [if_pos (by decide +kernel)]; kernel_rfl) | (rw [if_neg (by decide +kernel)]; exact ⟨rfl, rfl⟩))
    (fun os started H enc _ => lifted os started H enc)

theorem proved : Rows.MirrorWaysSaid := over
end Go.Proofs.Ytlaofcgllchedaa.mirrorWays

