/-
  The walk of heronref09.Check.
-/
import Derived.Test.YtdbdokjlcdogiaaDoorRefMay
import Derived.StillTailTactics
namespace Go.Proofs.YtdbdokjlcdogiaaDoor
open Go.RowKit
set_option linter.unusedVariables false

set_option maxRecDepth 100000 in
set_option maxHeartbeats 4000000 in
theorem ref_check (w : World) (S : Nat → Prop) (A : Option Addr) (n c : Nat) (is : List PInst) (start caps : Int) (h : InstsR w S A n is) (hs : In64 start) (hc : In64 caps) (hn : n ≤ 140737488355328) :
    Calls Tryd.prog 28 #[.agg #[.slice A n c, .int .i64 start, .int .i64 caps]] w fun e w' => e = .returned (.int .i64 (errOf (checkB is start caps))) ∧ Upd Nob w w' := by
  obtain rfl : is.length = n := h.len
  have C0 : Cells (w.alloc (.cells #[.slice A is.length c, .int .i64 start, .int .i64 caps] 24)) w.heap.size 24 #[.slice A is.length c, .int .i64 start, .int .i64 caps] := Cells.new _ _ _
  have hU := (Upd.refl Nob w).alloc (.cells #[.slice A is.length c, .int .i64 start, .int .i64 caps] 24)
  have s1 := hs.1
  have s2 := hs.2
  have k1 := hc.1
  have k2 := hc.2
  have H := hideP (h.upd hU (fun _ _ => not_nob))
  clear h
  go_enter Tryd.func28, Tryd.ntmps28
  go_upto_region 1 with fail
  generalize w.alloc (.cells #[.slice A is.length c, .int .i64 start, .int .i64 caps] 24) = w2 at *
  have bs := C0.lt
  generalize w.heap.size = b at *
  have HC := hideP C0
  have HU := hideP hU
  have e0 : w2.cell? ⟨b, 0, none⟩ = some (.slice A is.length c) := C0.cellv rfl
  have e1 : w2.cell? ⟨b, 0 + 1, none⟩ = some (.int .i64 start) := C0.cellv rfl
  have e2 : w2.cell? ⟨b, 0 + 2, none⟩ = some (.int .i64 caps) := C0.cellv rfl
  clear C0 hU
  by_cases h1 : is.length < 1
  · have hv := hideP (checkB_no (is := is) (start := start) (caps := caps) (by omega))
    go_wp2_with fail
    go_ret
    exact ⟨congrArg Ending.returned (congrArg (Value.int .i64) (by rw [hv.out]; rfl)), HU.out⟩
  by_cases h2 : 20000 < is.length
  · have hv := hideP (checkB_no (is := is) (start := start) (caps := caps) (by omega))
    go_wp2_with fail
    go_ret
    exact ⟨congrArg Ending.returned (congrArg (Value.int .i64) (by rw [hv.out]; rfl)), HU.out⟩
  by_cases h3 : start < 0
  · have hv := hideP (checkB_no (is := is) (start := start) (caps := caps) (by omega))
    go_wp2_with fail
    go_ret
    exact ⟨congrArg Ending.returned (congrArg (Value.int .i64) (by rw [hv.out]; rfl)), HU.out⟩
  by_cases h4 : (is.length : Int) ≤ start
  · have hv := hideP (checkB_no (is := is) (start := start) (caps := caps) (by omega))
    go_wp2_with fail
    go_ret
    exact ⟨congrArg Ending.returned (congrArg (Value.int .i64) (by rw [hv.out]; rfl)), HU.out⟩
  by_cases h6 : caps < 2
  · have hv := hideP (checkB_no (is := is) (start := start) (caps := caps) (by omega))
    go_wp2_with fail
    go_ret
    exact ⟨congrArg Ending.returned (congrArg (Value.int .i64) (by rw [hv.out]; rfl)), HU.out⟩
  by_cases h7 : 1002 < caps
  · have hv := hideP (checkB_no (is := is) (start := start) (caps := caps) (by omega))
    go_wp2_with fail
    go_ret
    exact ⟨congrArg Ending.returned (congrArg (Value.int .i64) (by rw [hv.out]; rfl)), HU.out⟩
  have hmod : IntKind.i64.wrap (caps.tmod 2) = caps.tmod 2 := by
    have h1 : caps.tmod 2 < 2 := Int.tmod_lt_of_pos caps (by decide)
    have h2 : -2 < caps.tmod 2 := Int.lt_tmod_of_pos caps (by decide)
    rw [IntKind.wrap_i64]
    omega
  have hmod' : IntKind.i64.wrap (caps % 2) = caps % 2 := by rw [IntKind.wrap_i64]; omega
  have hmod2 : caps.tmod 2 = caps % 2 := Int.tmod_eq_emod_of_nonneg (by omega)
  by_cases h5 : caps % 2 = 1
  · have hv := hideP (checkB_no (is := is) (start := start) (caps := caps) (by omega))
    have hb : (caps % 2 == 1) = true := by simpa using h5
    have hb' : (caps.tmod 2 == 1) = true := by rw [hmod2]; exact hb
    clear hmod2
    go_wp2_with fail
    go_ret
    exact ⟨congrArg Ending.returned (congrArg (Value.int .i64) (by rw [hv.out]; rfl)), HU.out⟩
  have hb : (caps % 2 == 1) = false := by simpa using h5
  have hb' : (caps.tmod 2 == 1) = false := by rw [hmod2]; exact hb
  have hv := checkB_in (is := is) (start := start) (caps := caps) (by omega)
  have HV := hideP hv
  clear hv hmod2
  go_wp2_with fail
  go_loopg [4] is.length (fun gk v4 wr => ∃ k : Nat, k + gk = is.length ∧ v4 = .int .i64 (k : Int) ∧ checkB is start caps = ((is.drop k).all fun x => mayB x is.length caps) ∧ Upd Nob w2 wr)
  case atStart => exact ⟨0, by omega, rfl, HV.out, Upd.refl _ _⟩
  case round =>
    obtain ⟨k, hk, rfl, hq, hU⟩ := hrel
    have HQ := hideP hq
    clear hq
    by_cases hlt : k < is.length
    · obtain ⟨ad, g, o, x, B, m, c', rfl, hx, hadd, -, hg, hR, hI, c0, c1, c2, c3, c4⟩ := (H.out.upd hU (fun _ _ => not_nob)).at1 hlt
      have hstep := all_drop (fun x => mayB x is.length caps) hx
      obtain ⟨op, xx, yy, arg, rs⟩ := x
      simp only at c0 c1 c2 c3 hR hI
      have HS := hideP hstep
      have HR := hideP hR
      have HI := hideP hI
      have CB := HC.out.upd hU not_nob
      have b0 : wr.cell? ⟨b, 0, none⟩ = some (.slice (some ad) is.length c) := CB.cellv rfl
      have b2 : wr.cell? ⟨b, 0 + 2, none⟩ = some (.int .i64 caps) := CB.cellv rfl
      have kl : (k : Int) < (is.length : Int) := by omega
      have HUr := hideP hU
      clear hx hstep hR hI CB hU
      rcases hm : mayB ⟨op, xx, yy, arg, rs⟩ is.length caps with _ | _
      · have hv : checkB is start caps = false := by rw [HQ.out, HS.out, hm]; rfl
        have HV1 := hideP hv
        clear hv
        go_wp2_with fail
        go_still_tail 8, (by kernel_rfl)
        change wpList _ _ _ _ _ wr.drew
        have HD := hideP ((Upd.refl Nob wr).drew)
        generalize wr.drew = w3 at *
        go_wp2_with fail
        refine (ref_may w3 S op xx yy arg rs HI.out B m c' (HR.out.upd HD.out (fun _ _ => not_nob)) is.length caps).mono ?_
        rintro e w5 ⟨he, hU5⟩
        rw [hm] at he
        subst he
        have HU5 := hideP ((HUr.out.trans HD.out (fun _ _ h => h)).trans hU5 (fun _ _ h => h))
        clear hU5
        go_wp2_with fail
        go_ret
        exact ⟨congrArg Ending.returned (congrArg (Value.int .i64) (by rw [HV1.out]; rfl)), HU.out.trans HU5.out (fun _ _ h => h)⟩
      · have hv : checkB is start caps = ((is.drop (k + 1)).all fun x => mayB x is.length caps) := by rw [HQ.out, HS.out, hm]; rfl
        have HV1 := hideP hv
        clear hv
        go_wp2_with fail
        go_still_tail 8, (by kernel_rfl)
        change wpList _ _ _ _ _ wr.drew
        have HD := hideP ((Upd.refl Nob wr).drew)
        generalize wr.drew = w3 at *
        go_wp2_with fail
        refine (ref_may w3 S op xx yy arg rs HI.out B m c' (HR.out.upd HD.out (fun _ _ => not_nob)) is.length caps).mono ?_
        rintro e w5 ⟨he, hU5⟩
        rw [hm] at he
        subst he
        have HU5 := hideP ((HUr.out.trans HD.out (fun _ _ h => h)).trans hU5 (fun _ _ h => h))
        clear hU5
        go_wp2_with fail
        go_roundg (is.length - (k + 1))
        case measure => omega
        case rel => exact ⟨k + 1, by omega, by go_num, HV1.out, HU5.out⟩
    · have hkn : k = is.length := by omega
      have hv : checkB is start caps = true := by rw [HQ.out, hkn, List.drop_length]; rfl
      have HV1 := hideP hv
      clear hk hv
      subst hkn
      go_wp2_with fail
      go_ret
      exact ⟨congrArg Ending.returned (congrArg (Value.int .i64) (by rw [HV1.out]; rfl)), HU.out.trans hU (fun _ _ h => h)⟩
end Go.Proofs.YtdbdokjlcdogiaaDoor
