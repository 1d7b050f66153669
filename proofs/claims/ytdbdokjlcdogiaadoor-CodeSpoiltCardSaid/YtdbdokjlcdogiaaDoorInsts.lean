/-
  A program's instructions in memory: five cells each, the last one a slice of ranges.
-/
import Derived.Test.YtdbdokjlcdogiaaDoorMay
namespace Go.Proofs.YtdbdokjlcdogiaaDoor
open Go.RowKit
set_option linter.unusedVariables false

/-- the cells of an instruction, its slice of ranges given -/
def instCells (x : PInst) (B : Option Addr) (m c : Nat) : Array Value := #[.int .i64 x.op, .int .i64 x.x, .int .i64 x.y, .int .i64 x.arg, .slice B m c]

/-- The slice reads as instructions; their ranges lie in blocks of which S holds. -/
structure InstsR (w : World) (S : Nat → Prop) (A : Option Addr) (n : Nat) (is : List PInst) : Prop where
  len : is.length = n
  at_ : ∀ i x, is[i]? = some x → ∃ ad g o B m c, A = some ad ∧ ad.add (i * 5) = ⟨g, o, none⟩ ∧ S g ∧ g < w.heap.size ∧ RangesR w S B m x.rs ∧ In64I x ∧
    ∀ j v, (instCells x B m c)[j]? = some v → w.cell? ⟨g, o + j, none⟩ = some v

namespace InstsR
variable {w w' : World} {S F : Nat → Prop} {A : Option Addr} {n : Nat} {is : List PInst}
theorem upd (h : InstsR w S A n is) (hU : Upd F w w') (hF : ∀ k, S k → ¬ F k) : InstsR w' S A n is :=
  ⟨h.len, fun i x hx => by
    obtain ⟨ad, g, o, B, m, c, e, e2, hs, hg, hr, hi, hc⟩ := h.at_ i x hx
    exact ⟨ad, g, o, B, m, c, e, e2, hs, Nat.lt_of_lt_of_le hg hU.size, hr.upd hU hF, hi, fun j v hv => (hU.cell (p := ⟨g, o + j, none⟩) hg (hF _ hs)).trans (hc j v hv)⟩⟩
theorem at1 (h : InstsR w S A n is) {i : Nat} (hi : i < n) : ∃ ad g o x B m c, A = some ad ∧ is[i]? = some x ∧ ad.add (i * 5) = ⟨g, o, none⟩ ∧ S g ∧ g < w.heap.size ∧ RangesR w S B m x.rs ∧ In64I x ∧
    w.cell? ⟨g, o, none⟩ = some (.int .i64 x.op) ∧ w.cell? ⟨g, o + 1, none⟩ = some (.int .i64 x.x) ∧ w.cell? ⟨g, o + 2, none⟩ = some (.int .i64 x.y) ∧ w.cell? ⟨g, o + 3, none⟩ = some (.int .i64 x.arg) ∧ w.cell? ⟨g, o + 4, none⟩ = some (.slice B m c) := by
  have hl : i < is.length := by rw [h.len]; exact hi
  have hx := List.getElem?_eq_getElem hl
  obtain ⟨ad, g, o, B, m, c, e, e2, hs, hg, hr, hI, hc⟩ := h.at_ i _ hx
  exact ⟨ad, g, o, _, B, m, c, e, hx, e2, hs, hg, hr, hI, hc 0 _ rfl, hc 1 _ rfl, hc 2 _ rfl, hc 3 _ rfl, hc 4 _ rfl⟩
end InstsR

theorem checkB_no {is : List PInst} {start caps : Int} (h : ¬ (1 ≤ is.length ∧ is.length ≤ 20000 ∧ 0 ≤ start ∧ start < is.length ∧ caps % 2 = 0 ∧ 2 ≤ caps ∧ caps ≤ 1002)) : checkB is start caps = false := by
  unfold checkB
  rw [decide_eq_false h]
  rfl
theorem checkB_in {is : List PInst} {start caps : Int} (h : 1 ≤ is.length ∧ is.length ≤ 20000 ∧ 0 ≤ start ∧ start < is.length ∧ caps % 2 = 0 ∧ 2 ≤ caps ∧ caps ≤ 1002) : checkB is start caps = (is.drop 0).all fun x => mayB x is.length caps := by
  unfold checkB
  rw [decide_eq_true h]
  rfl
theorem tmod_two (c : Int) : c.tmod 2 = 0 ↔ c % 2 = 0 := by
  rw [← Int.dvd_iff_tmod_eq_zero, ← Int.dvd_iff_emod_eq_zero]
/-- the number that Check answers -/
def errOf (b : Bool) : Int := if b then 0 else 90

set_option maxHeartbeats 1000000 in
theorem check_any (w : World) (S : Nat → Prop) (A : Option Addr) (n c : Nat) (is : List PInst) (start caps : Int) (h : InstsR w S A n is) (hs : In64 start) (hc : In64 caps) (hn : n ≤ 140737488355328) :
    Calls Tryd.prog 37 #[.agg #[.slice A n c, .int .i64 start, .int .i64 caps]] w fun e w' => e = .returned (.int .i64 (errOf (checkB is start caps))) ∧ Upd Nob w w' := by
  obtain rfl : is.length = n := h.len
  have C0 : Cells (w.alloc (.cells #[.slice A is.length c, .int .i64 start, .int .i64 caps] 24)) w.heap.size 24 #[.slice A is.length c, .int .i64 start, .int .i64 caps] := Cells.new _ _ _
  have hU := (Upd.refl Nob w).alloc (.cells #[.slice A is.length c, .int .i64 start, .int .i64 caps] 24)
  have s1 := hs.1
  have s2 := hs.2
  have k1 := hc.1
  have k2 := hc.2
  have H := hideP (h.upd hU (fun _ _ => not_nob))
  clear h
  go_enter Tryd.func37, Tryd.ntmps37
  go_upto_region 1 with fail
  generalize w.alloc (.cells #[.slice A is.length c, .int .i64 start, .int .i64 caps] 24) = w2 at *
  have bs := C0.lt
  generalize w.heap.size = b at *
  have HC := hideP C0
  have HU := hideP hU
  have e0 : w2.cell? ⟨b, 0, none⟩ = some (.slice A is.length c) := C0.cellv rfl
  have e1 : w2.cell? ⟨b, 0 + 1, none⟩ = some (.int .i64 start) := C0.cellv rfl
  have e2 : w2.cell? ⟨b, 0 + 2, none⟩ = some (.int .i64 caps) := C0.cellv rfl
  clear C0 hU
  by_cases h1 : is.length < 1
  · have hv := hideP (checkB_no (is := is) (start := start) (caps := caps) (by omega))
    go_wp2_with fail
    go_ret
    exact ⟨congrArg Ending.returned (congrArg (Value.int .i64) (by rw [hv.out]; rfl)), HU.out⟩
  by_cases h2 : 20000 < is.length
  · have hv := hideP (checkB_no (is := is) (start := start) (caps := caps) (by omega))
    go_wp2_with fail
    go_ret
    exact ⟨congrArg Ending.returned (congrArg (Value.int .i64) (by rw [hv.out]; rfl)), HU.out⟩
  by_cases h3 : start < 0
  · have hv := hideP (checkB_no (is := is) (start := start) (caps := caps) (by omega))
    go_wp2_with fail
    go_ret
    exact ⟨congrArg Ending.returned (congrArg (Value.int .i64) (by rw [hv.out]; rfl)), HU.out⟩
  by_cases h4 : (is.length : Int) ≤ start
  · have hv := hideP (checkB_no (is := is) (start := start) (caps := caps) (by omega))
    go_wp2_with fail
    go_ret
    exact ⟨congrArg Ending.returned (congrArg (Value.int .i64) (by rw [hv.out]; rfl)), HU.out⟩
  have hmod : IntKind.i64.wrap (caps.tmod 2) = caps.tmod 2 := by
    have h1 : caps.tmod 2 < 2 := Int.tmod_lt_of_pos caps (by decide)
    have h2 : -2 < caps.tmod 2 := Int.lt_tmod_of_pos caps (by decide)
    rw [IntKind.wrap_i64]
    omega
  have hmod2 := tmod_two caps
  by_cases h5 : caps.tmod 2 = 0
  rotate_left
  · have hv := hideP (checkB_no (is := is) (start := start) (caps := caps) (by omega))
    have hb : (caps.tmod 2 == 0) = false := by simpa using h5
    have hb2 : (caps.tmod 2 != 0) = true := by simpa using h5
    clear hmod2
    go_wp2_with fail
    go_ret
    exact ⟨congrArg Ending.returned (congrArg (Value.int .i64) (by rw [hv.out]; rfl)), HU.out⟩
  have hb : (caps.tmod 2 == 0) = true := by simpa using h5
  have hb2 : (caps.tmod 2 != 0) = false := by simpa using h5
  by_cases h6 : caps < 2
  · have hv := hideP (checkB_no (is := is) (start := start) (caps := caps) (by omega))
    go_wp2_with fail
    go_ret
    exact ⟨congrArg Ending.returned (congrArg (Value.int .i64) (by rw [hv.out]; rfl)), HU.out⟩
  by_cases h7 : 1002 < caps
  · have hv := hideP (checkB_no (is := is) (start := start) (caps := caps) (by omega))
    go_wp2_with fail
    go_ret
    exact ⟨congrArg Ending.returned (congrArg (Value.int .i64) (by rw [hv.out]; rfl)), HU.out⟩
  have hv := checkB_in (is := is) (start := start) (caps := caps) (by omega)
  have HV := hideP hv
  clear hv hmod2
  go_wp2_with fail
  go_loopg [45] is.length (fun gk v45 wr => ∃ k : Nat, k + gk = is.length ∧ v45 = .int .i64 (k : Int) ∧ checkB is start caps = ((is.drop k).all fun x => mayB x is.length caps) ∧ Upd Nob w2 wr)
  case atStart => exact ⟨0, by omega, rfl, HV.out, Upd.refl _ _⟩
  case round =>
    obtain ⟨k, hk, rfl, hq, hU⟩ := hrel
    have HQ := hideP hq
    clear hq
    by_cases hlt : k < is.length
    · obtain ⟨ad, g, o, x, B, m, c', rfl, hx, hadd, -, hg, hR, hI, c0, c1, c2, c3, c4⟩ := (H.out.upd hU (fun _ _ => not_nob)).at1 hlt
      have hstep := all_drop (fun x => mayB x is.length caps) hx
      obtain ⟨op, xx, yy, arg, rs⟩ := x
      simp only at c0 c1 c2 c3 hR hI
      have HX := hideP hx
      have HS := hideP hstep
      have HR := hideP hR
      have HI := hideP hI
      clear hx hstep hR hI
      have C2 : Cells (wr.alloc (.cells #[.int .i64 op, .int .i64 xx, .int .i64 yy, .int .i64 arg, .slice B m c'] 48)) wr.heap.size 48 #[.int .i64 op, .int .i64 xx, .int .i64 yy, .int .i64 arg, .slice B m c'] := Cells.new _ _ _
      have hU1 := (Upd.refl Nob wr).alloc (.cells #[.int .i64 op, .int .i64 xx, .int .i64 yy, .int .i64 arg, .slice B m c'] 48)
      have hU2 := hU.alloc (.cells #[.int .i64 op, .int .i64 xx, .int .i64 yy, .int .i64 arg, .slice B m c'] 48)
      go_upto_region 7 with fail
      generalize wr.alloc (.cells #[.int .i64 op, .int .i64 xx, .int .i64 yy, .int .i64 arg, .slice B m c'] 48) = w4 at *
      generalize wr.heap.size = xb at *
      have l0 : w4.cell? ⟨xb, 0, none⟩ = some (.int .i64 op) := C2.cellv rfl
      have l1 : w4.cell? ⟨xb, 0 + 1, none⟩ = some (.int .i64 xx) := C2.cellv rfl
      have l2 : w4.cell? ⟨xb, 0 + 2, none⟩ = some (.int .i64 yy) := C2.cellv rfl
      have l3 : w4.cell? ⟨xb, 0 + 3, none⟩ = some (.int .i64 arg) := C2.cellv rfl
      have l4 : w4.cell? ⟨xb, 0 + 4, none⟩ = some (.slice B m c') := C2.cellv rfl
      have b2 : w4.cell? ⟨b, 0 + 2, none⟩ = some (.int .i64 caps) := (HC.out.upd hU2 not_nob).cellv rfl
      have HU2 := hideP hU2
      have HR2 := hideP (HR.out.upd hU1 (fun _ _ => not_nob))
      clear C2 c0 c1 c2 c3 c4 hadd hU hU1 hU2 hg
      rcases hm : mayB ⟨op, xx, yy, arg, rs⟩ is.length caps with _ | _
      · have hv : checkB is start caps = false := by rw [HQ.out, HS.out, hm]; rfl
        have HV1 := hideP hv
        clear hv
        go_wp2_with (go_at_call 57; refine (may_any _ S op xx yy arg rs HI.out B m c' HR2.out is.length caps).mono ?_; rintro e w5 ⟨he, hU5⟩; rw [hm] at he; subst he)
        go_ret
        exact ⟨congrArg Ending.returned (congrArg (Value.int .i64) (by rw [HV1.out]; rfl)), HU.out.trans (HU2.out.trans hU5 (fun _ _ h => h)) (fun _ _ h => h)⟩
      · have hv : checkB is start caps = ((is.drop (k + 1)).all fun x => mayB x is.length caps) := by rw [HQ.out, HS.out, hm]; rfl
        have HV1 := hideP hv
        clear hv
        go_wp2_with (go_at_call 57; refine (may_any _ S op xx yy arg rs HI.out B m c' HR2.out is.length caps).mono ?_; rintro e w5 ⟨he, hU5⟩; rw [hm] at he; subst he)
        go_roundg (is.length - (k + 1))
        case measure => omega
        case rel => exact ⟨k + 1, by omega, by go_num, HV1.out, HU2.out.trans hU5 (fun _ _ h => h)⟩
    · have hkn : k = is.length := by omega
      have hv : checkB is start caps = true := by rw [HQ.out, hkn, List.drop_length]; rfl
      have HV1 := hideP hv
      clear hk hv
      subst hkn
      go_wp2_with fail
      go_ret
      exact ⟨congrArg Ending.returned (congrArg (Value.int .i64) (by rw [HV1.out]; rfl)), HU.out.trans hU (fun _ _ h => h)⟩
end Go.Proofs.YtdbdokjlcdogiaaDoor
