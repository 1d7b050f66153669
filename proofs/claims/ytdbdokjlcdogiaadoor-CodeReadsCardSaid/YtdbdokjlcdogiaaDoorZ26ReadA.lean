/-
  FieldsT, Read13, ReadA, put together.
-/
import Derived.Test.YtdbdokjlcdogiaaDoorZFieldsL
import Derived.Test.YtdbdokjlcdogiaaDoorZ25WordW
import Derived.Test.YtdbdokjlcdogiaaDoorZ05Held
import Derived.Deep.RegionHeld3
import Derived.Deep.AppendLies
import Derived.Deep.CutBlock
import Derived.Deep.DeepCutAuto
import Derived.Test.YtdbdokjlcdogiaaDoorZ09OwnR
import Derived.Test.YtdbdokjlcdogiaaDoorZ08LoadA

/-
  The walk of code.fields over a reader of words. Printed by tools/mkFT.py out of FieldsL.
-/
namespace Go.Proofs.YtdbdokjlcdogiaaDoor
open Go.RowKit
set_option linter.unusedVariables false

theorem tnum_meth (p : Addr) (w : World) : (method 221 75 (.pointer (some p)) "heron/code.num").run Tryd.prog w = .ok (44, .pointer (some p)) w := by kernel_rfl
theorem tleft_meth (p : Addr) (w : World) : (method 221 75 (.pointer (some p)) "heron/code.left").run Tryd.prog w = .ok (95, .pointer (some p)) w := by kernel_rfl
def FieldsTAns (w : World) (S : Nat → Prop) (lb : Nat) : Option (PInst × List ByteArray) → Ending → World → Prop
  | none, e, w' => e = .panicked brokenP ∧ Upd (fun b => b = lb) w w'
  | some (x, r), e, w' => ∃ B c, e = .returned (.agg #[.int .i64 x.op, .int .i64 x.x, .int .i64 x.y, .int .i64 x.arg, .slice B x.rs.length c]) ∧ w'.ownsRow w.heap.size 50 2 (.slice B x.rs.length c) x.rs.length (pairv x.rs) ∧ WordR w' S lb r ∧ Upd (fun b => b = lb) w w'
set_option maxRecDepth 100000 in
set_option maxHeartbeats 4000000 in
theorem fieldsT_any (w : World) (S : Nat → Prop) (lb : Nat) (bs : List ByteArray) (op : Int) (h : WordR w S lb bs) (hS : ∀ b, S b → b < w.heap.size) :
    Calls Tryd.prog 34 #[.iface 75 (.pointer (some ⟨lb, 0, none⟩)), .int .i64 op] w (FieldsTAns w S lb (fieldsT op bs)) := by
  have hm1 := tnum_meth ⟨lb, 0, none⟩
  have hm2 := tleft_meth ⟨lb, 0, none⟩
  have C0 : Cells ((w.alloc (.cells #[.int .i64 0, .int .i64 0, .int .i64 0, .int .i64 0, .slice none 0 0] 48)).alloc (.cells #[.int .i64 op, .int .i64 0, .int .i64 0, .int .i64 0, .slice none 0 0] 48)) w.heap.size 48 #[.int .i64 0, .int .i64 0, .int .i64 0, .int .i64 0, .slice none 0 0] := (Cells.new _ _ _).alloc _
  have C1 := Cells.new (w.alloc (.cells #[.int .i64 0, .int .i64 0, .int .i64 0, .int .i64 0, .slice none 0 0] 48)) 48 #[.int .i64 op, .int .i64 0, .int .i64 0, .int .i64 0, .slice none 0 0]
  rw [World.size_alloc] at C1
  have hU : Upd Nob w ((w.alloc (.cells #[.int .i64 0, .int .i64 0, .int .i64 0, .int .i64 0, .slice none 0 0] 48)).alloc (.cells #[.int .i64 op, .int .i64 0, .int .i64 0, .int .i64 0, .slice none 0 0] 48)) := ((Upd.refl Nob w).alloc _).alloc _
  have hlb : lb < w.heap.size := h.lt
  have HLD := hideP (h.upd hU not_nob (fun _ _ => not_nob))
  obtain ⟨i0, hi0, hz0, hz1, hz2⟩ := info_parts finfo_range
  generalize hP : FieldsTAns w S lb (fieldsT op bs) = P
  have HPn := hideP (show ∀ w', fieldsT op bs = none → Upd (fun b => b = lb) w w' → P (.panicked brokenP) w' from fun w' h1 h2 => by rw [← hP, h1]; exact ⟨rfl, h2⟩)
  have HPs := hideP (show ∀ x r B c w', fieldsT op bs = some (x, r) → w'.ownsRow w.heap.size 50 2 (.slice B x.rs.length c) x.rs.length (pairv x.rs) → WordR w' S lb r → Upd (fun b => b = lb) w w' → P (.returned (.agg #[.int .i64 x.op, .int .i64 x.x, .int .i64 x.y, .int .i64 x.arg, .slice B x.rs.length c])) w' from fun x r B c w' h1 h2 h3 h4 => by rw [← hP, h1]; exact ⟨B, c, rfl, h2, h3, h4⟩)
  clear h hP
  go_enter Tryd.func34, Tryd.ntmps34
  go_upto_region 2 with fail
  generalize ((w.alloc (.cells #[.int .i64 0, .int .i64 0, .int .i64 0, .int .i64 0, .slice none 0 0] 48)).alloc (.cells #[.int .i64 op, .int .i64 0, .int .i64 0, .int .i64 0, .slice none 0 0] 48)) = w2 at *
  have HC0 := hideP C0
  have HC1 := hideP C1
  have HU := hideP (hU.mono (G := fun b => b = lb) (fun _ _ h => absurd h not_nob))
  have hsz := C1.lt
  clear C0 C1 hU
  have HST := hideP (show ∀ (w3 : World) (i : Nat) (v : Value) (r : List ByteArray), WordR w3 S lb r → WordR (w3.setCell ⟨w.heap.size + 1, i, none⟩ v) S lb r from fun w3 i v r hr => hr.upd ((Upd.refl (fun b => b = w.heap.size + 1) w3).setCell _ _ (fun _ => rfl)) (show ¬ lb = w.heap.size + 1 by omega) (fun b hb (e : b = w.heap.size + 1) => by have := hS b hb; omega))
  have HSU := hideP (show ∀ (w3 : World) (i : Nat) (v : Value), Upd (fun b => b = lb) w w3 → Upd (fun b => b = lb) w (w3.setCell ⟨w.heap.size + 1, i, none⟩ v) from fun w3 i v hv => hv.setCell _ _ (fun (h : w.heap.size + 1 < w.heap.size) => absurd h (by omega)))
  go_upto_block 0 with fail
  go_cut [] (fun wc => ∃ (x : PInst) (r : List ByteArray) (B : Option Addr) (c : Nat), fieldsT op bs = some (x, r) ∧ Cells wc (w.heap.size + 1) 48 #[.int .i64 x.op, .int .i64 x.x, .int .i64 x.y, .int .i64 x.arg, .slice B x.rs.length c] ∧ Cells wc w.heap.size 48 #[.int .i64 0, .int .i64 0, .int .i64 0, .int .i64 0, .slice none 0 0] ∧ wc.ownsRow w.heap.size 50 2 (.slice B x.rs.length c) x.rs.length (pairv x.rs) ∧ WordR wc S lb r ∧ Upd (fun b => b = lb) w wc)
  case first =>
    by_cases h7 : op = 7
    · subst h7
      have HF := hideP (show fieldsT 7 bs = match wnumT bs with | none => none | some (x, r) => some (⟨7, x, 0, 0, []⟩, r) from rfl)
      generalize hN : wnumT bs = N at *
      have HN := hideP hN
      clear hN
      cases N with
      | none =>
        go_wp2_with (go_at_call 44; refine (tnum_w _ S lb bs HLD.out).mono ?_; rw [HN.out]; rintro e w3 ⟨rfl, hUw3⟩)
        exact ⟨rfl, HPn.out _ HF.out (HU.out.trans hUw3 (fun _ _ h => h))⟩
      | some xr =>
        obtain ⟨x, r⟩ := xr
        go_wp2_with (go_at_call 44; refine (tnum_w _ S lb bs HLD.out).mono ?_; rw [HN.out]; rintro e w3 ⟨rfl, hLw3, hUw3⟩; have cxw3 := (HC1.out).upd hUw3 (show ¬ w.heap.size + 1 = lb by omega); have zw3 := cxw3.cellv (i := 0 + 1) rfl; have fw3 := cxw3.frozen (0 + 1))
        go_meet
        exact ⟨⟨7, x, 0, 0, []⟩, r, none, 0, HF.out, cxw3.set_ 1 (.int .i64 x), (HC0.out.upd hUw3 (show ¬ w.heap.size = lb by omega)).far _ _ (by simp), World.ownsRow_nil _ _ _ _, HST.out _ _ _ _ hLw3, HSU.out _ _ _ (HU.out.trans hUw3 (fun _ _ h => h))⟩
    by_cases h5 : op = 5
    · subst h5
      have HF := hideP (show fieldsT 5 bs = match wnumT bs with | none => none | some (x, r) => some (⟨5, 0, 0, x, []⟩, r) from rfl)
      generalize hN : wnumT bs = N at *
      have HN := hideP hN
      clear hN
      cases N with
      | none =>
        go_wp2_with (go_at_call 44; refine (tnum_w _ S lb bs HLD.out).mono ?_; rw [HN.out]; rintro e w3 ⟨rfl, hUw3⟩)
        exact ⟨rfl, HPn.out _ HF.out (HU.out.trans hUw3 (fun _ _ h => h))⟩
      | some xr =>
        obtain ⟨x, r⟩ := xr
        go_wp2_with (go_at_call 44; refine (tnum_w _ S lb bs HLD.out).mono ?_; rw [HN.out]; rintro e w3 ⟨rfl, hLw3, hUw3⟩; have cxw3 := (HC1.out).upd hUw3 (show ¬ w.heap.size + 1 = lb by omega); have zw3 := cxw3.cellv (i := 0 + 3) rfl; have fw3 := cxw3.frozen (0 + 3))
        go_meet
        exact ⟨⟨5, 0, 0, x, []⟩, r, none, 0, HF.out, cxw3.set_ 3 (.int .i64 x), (HC0.out.upd hUw3 (show ¬ w.heap.size = lb by omega)).far _ _ (by simp), World.ownsRow_nil _ _ _ _, HST.out _ _ _ _ hLw3, HSU.out _ _ _ (HU.out.trans hUw3 (fun _ _ h => h))⟩
    by_cases h6 : op = 6
    · subst h6
      have HF := hideP (show fieldsT 6 bs = some (⟨6, 0, 0, 0, []⟩, bs) from rfl)
      go_wp2_with fail
      go_meet
      exact ⟨⟨6, 0, 0, 0, []⟩, bs, none, 0, HF.out, HC1.out, HC0.out, World.ownsRow_nil _ _ _ _, HLD.out, HU.out⟩
    by_cases h2 : op = 2
    · have HF := hideP (show fieldsT op bs = match wnumT bs with | none => none | some (x, r) => match wnumT r with | none => none | some (y, r2) => some (⟨2, x, y, 0, []⟩, r2) from by unfold fieldsT; rw [if_neg (by omega), if_pos h2]; rfl)
      generalize hN : wnumT bs = N at *
      have HN := hideP hN
      clear hN
      subst h2
      cases N with
      | none =>
        go_wp2_with (go_at_call 44; refine (tnum_w _ S lb bs HLD.out).mono ?_; rw [HN.out]; rintro e w3 ⟨rfl, hUw3⟩)
        all_goals exact ⟨rfl, HPn.out _ HF.out (HU.out.trans hUw3 (fun _ _ h => h))⟩
      | some xr =>
        obtain ⟨x, r⟩ := xr
        simp only at HF
        generalize hM : wnumT r = M at *
        have HM := hideP hM
        clear hM
        cases M with
        | none =>
          go_wp2_with (first | (go_at_call 44; refine (tnum_w _ S lb bs HLD.out).mono ?_; rw [HN.out]; rintro e w3 ⟨rfl, hLw3, hUw3⟩; have cxw3 := (HC1.out).upd hUw3 (show ¬ w.heap.size + 1 = lb by omega); have zw3 := cxw3.cellv (i := 0 + 1) rfl; have fw3 := cxw3.frozen (0 + 1)) | (go_at_call 44; refine (tnum_w _ S lb r (HST.out _ _ _ _ hLw3)).mono ?_; rw [HM.out]; rintro e w4 ⟨rfl, hUw4⟩))
          all_goals exact ⟨rfl, HPn.out _ HF.out ((HSU.out _ _ _ (HU.out.trans hUw3 (fun _ _ h => h))).trans hUw4 (fun _ _ h => h))⟩
        | some yr =>
          obtain ⟨y, r2⟩ := yr
          go_wp2_with (first | (go_at_call 44; refine (tnum_w _ S lb bs HLD.out).mono ?_; rw [HN.out]; rintro e w3 ⟨rfl, hLw3, hUw3⟩; have cxw3 := (HC1.out).upd hUw3 (show ¬ w.heap.size + 1 = lb by omega); have zw3 := cxw3.cellv (i := 0 + 1) rfl; have fw3 := cxw3.frozen (0 + 1)) | (go_at_call 44; refine (tnum_w _ S lb r (HST.out _ _ _ _ hLw3)).mono ?_; rw [HM.out]; rintro e w4 ⟨rfl, hLw4, hUw4⟩; have cxw4 := (cxw3.set_ (0 + 1) (.int .i64 x)).upd hUw4 (show ¬ w.heap.size + 1 = lb by omega); have zw4 := cxw4.cellv (i := 0 + 2) rfl; have fw4 := cxw4.frozen (0 + 2)))
          go_meet
          exact ⟨⟨2, x, y, 0, []⟩, r2, none, 0, HF.out, cxw4.set_ 2 (.int .i64 y), ((((HC0.out.upd hUw3 (show ¬ w.heap.size = lb by omega)).far _ _ (by simp)).upd hUw4 (show ¬ w.heap.size = lb by omega)).far _ _ (by simp)), World.ownsRow_nil _ _ _ _, HST.out _ _ _ _ hLw4, HSU.out _ _ _ ((HSU.out _ _ _ (HU.out.trans hUw3 (fun _ _ h => h))).trans hUw4 (fun _ _ h => h))⟩
    by_cases h3 : op = 3
    · have HF := hideP (show fieldsT op bs = match wnumT bs with | none => none | some (x, r) => match wnumT r with | none => none | some (y, r2) => some (⟨3, y, 0, x, []⟩, r2) from by unfold fieldsT; rw [if_neg (by omega), if_neg (by omega), if_pos (by omega), h3]; rfl)
      generalize hN : wnumT bs = N at *
      have HN := hideP hN
      clear hN
      subst h3
      cases N with
      | none =>
        go_wp2_with (go_at_call 44; refine (tnum_w _ S lb bs HLD.out).mono ?_; rw [HN.out]; rintro e w3 ⟨rfl, hUw3⟩)
        all_goals exact ⟨rfl, HPn.out _ HF.out (HU.out.trans hUw3 (fun _ _ h => h))⟩
      | some xr =>
        obtain ⟨x, r⟩ := xr
        simp only at HF
        generalize hM : wnumT r = M at *
        have HM := hideP hM
        clear hM
        cases M with
        | none =>
          go_wp2_with (first | (go_at_call 44; refine (tnum_w _ S lb bs HLD.out).mono ?_; rw [HN.out]; rintro e w3 ⟨rfl, hLw3, hUw3⟩; have cxw3 := (HC1.out).upd hUw3 (show ¬ w.heap.size + 1 = lb by omega); have zw3 := cxw3.cellv (i := 0 + 3) rfl; have fw3 := cxw3.frozen (0 + 3)) | (go_at_call 44; refine (tnum_w _ S lb r (HST.out _ _ _ _ hLw3)).mono ?_; rw [HM.out]; rintro e w4 ⟨rfl, hUw4⟩))
          all_goals exact ⟨rfl, HPn.out _ HF.out ((HSU.out _ _ _ (HU.out.trans hUw3 (fun _ _ h => h))).trans hUw4 (fun _ _ h => h))⟩
        | some yr =>
          obtain ⟨y, r2⟩ := yr
          go_wp2_with (first | (go_at_call 44; refine (tnum_w _ S lb bs HLD.out).mono ?_; rw [HN.out]; rintro e w3 ⟨rfl, hLw3, hUw3⟩; have cxw3 := (HC1.out).upd hUw3 (show ¬ w.heap.size + 1 = lb by omega); have zw3 := cxw3.cellv (i := 0 + 3) rfl; have fw3 := cxw3.frozen (0 + 3)) | (go_at_call 44; refine (tnum_w _ S lb r (HST.out _ _ _ _ hLw3)).mono ?_; rw [HM.out]; rintro e w4 ⟨rfl, hLw4, hUw4⟩; have cxw4 := (cxw3.set_ (0 + 3) (.int .i64 x)).upd hUw4 (show ¬ w.heap.size + 1 = lb by omega); have zw4 := cxw4.cellv (i := 0 + 1) rfl; have fw4 := cxw4.frozen (0 + 1)))
          go_meet
          exact ⟨⟨3, y, 0, x, []⟩, r2, none, 0, HF.out, cxw4.set_ 1 (.int .i64 y), ((((HC0.out.upd hUw3 (show ¬ w.heap.size = lb by omega)).far _ _ (by simp)).upd hUw4 (show ¬ w.heap.size = lb by omega)).far _ _ (by simp)), World.ownsRow_nil _ _ _ _, HST.out _ _ _ _ hLw4, HSU.out _ _ _ ((HSU.out _ _ _ (HU.out.trans hUw3 (fun _ _ h => h))).trans hUw4 (fun _ _ h => h))⟩
    by_cases h4 : op = 4
    · have HF := hideP (show fieldsT op bs = match wnumT bs with | none => none | some (x, r) => match wnumT r with | none => none | some (y, r2) => some (⟨4, y, 0, x, []⟩, r2) from by unfold fieldsT; rw [if_neg (by omega), if_neg (by omega), if_pos (by omega), h4]; rfl)
      generalize hN : wnumT bs = N at *
      have HN := hideP hN
      clear hN
      subst h4
      cases N with
      | none =>
        go_wp2_with (go_at_call 44; refine (tnum_w _ S lb bs HLD.out).mono ?_; rw [HN.out]; rintro e w3 ⟨rfl, hUw3⟩)
        all_goals exact ⟨rfl, HPn.out _ HF.out (HU.out.trans hUw3 (fun _ _ h => h))⟩
      | some xr =>
        obtain ⟨x, r⟩ := xr
        simp only at HF
        generalize hM : wnumT r = M at *
        have HM := hideP hM
        clear hM
        cases M with
        | none =>
          go_wp2_with (first | (go_at_call 44; refine (tnum_w _ S lb bs HLD.out).mono ?_; rw [HN.out]; rintro e w3 ⟨rfl, hLw3, hUw3⟩; have cxw3 := (HC1.out).upd hUw3 (show ¬ w.heap.size + 1 = lb by omega); have zw3 := cxw3.cellv (i := 0 + 3) rfl; have fw3 := cxw3.frozen (0 + 3)) | (go_at_call 44; refine (tnum_w _ S lb r (HST.out _ _ _ _ hLw3)).mono ?_; rw [HM.out]; rintro e w4 ⟨rfl, hUw4⟩))
          all_goals exact ⟨rfl, HPn.out _ HF.out ((HSU.out _ _ _ (HU.out.trans hUw3 (fun _ _ h => h))).trans hUw4 (fun _ _ h => h))⟩
        | some yr =>
          obtain ⟨y, r2⟩ := yr
          go_wp2_with (first | (go_at_call 44; refine (tnum_w _ S lb bs HLD.out).mono ?_; rw [HN.out]; rintro e w3 ⟨rfl, hLw3, hUw3⟩; have cxw3 := (HC1.out).upd hUw3 (show ¬ w.heap.size + 1 = lb by omega); have zw3 := cxw3.cellv (i := 0 + 3) rfl; have fw3 := cxw3.frozen (0 + 3)) | (go_at_call 44; refine (tnum_w _ S lb r (HST.out _ _ _ _ hLw3)).mono ?_; rw [HM.out]; rintro e w4 ⟨rfl, hLw4, hUw4⟩; have cxw4 := (cxw3.set_ (0 + 3) (.int .i64 x)).upd hUw4 (show ¬ w.heap.size + 1 = lb by omega); have zw4 := cxw4.cellv (i := 0 + 1) rfl; have fw4 := cxw4.frozen (0 + 1)))
          go_meet
          exact ⟨⟨4, y, 0, x, []⟩, r2, none, 0, HF.out, cxw4.set_ 1 (.int .i64 y), ((((HC0.out.upd hUw3 (show ¬ w.heap.size = lb by omega)).far _ _ (by simp)).upd hUw4 (show ¬ w.heap.size = lb by omega)).far _ _ (by simp)), World.ownsRow_nil _ _ _ _, HST.out _ _ _ _ hLw4, HSU.out _ _ _ ((HSU.out _ _ _ (HU.out.trans hUw3 (fun _ _ h => h))).trans hUw4 (fun _ _ h => h))⟩
    by_cases h1 : op = 1
    · subst h1
      have HF := hideP (show fieldsT 1 bs = match wnumT bs with | none => none | some (x, r) => match wnumT r with | none => none | some (n, r2) => match rangesT n.toNat r2 with | none => none | some (rs, r3) => some (⟨1, x, 0, 0, rs⟩, r3) from rfl)
      generalize hN : wnumT bs = N at *
      have HN := hideP hN
      clear hN
      cases N with
      | none =>
        go_wp2_with (go_at_call 44; refine (tnum_w _ S lb bs HLD.out).mono ?_; rw [HN.out]; rintro e w3 ⟨rfl, hUw3⟩)
        exact ⟨rfl, HPn.out _ HF.out (HU.out.trans hUw3 (fun _ _ h => h))⟩
      | some xr =>
      obtain ⟨x, r⟩ := xr
      simp only at HF
      go_upto_region 11 with (go_at_call 44; refine (tnum_w _ S lb bs HLD.out).mono ?_; rw [HN.out]; rintro e w3 ⟨rfl, hLw3, hUw3⟩; have cx3 := (HC1.out).upd hUw3 (show ¬ w.heap.size + 1 = lb by omega); have zw3 := cx3.cellv (i := 0 + 1) rfl; have fw3 := cx3.frozen (0 + 1))
      have HL4 := hideP (HST.out w3 (0 + 1) (.int .i64 x) r hLw3)
      have HU4 := hideP (HSU.out w3 (0 + 1) (.int .i64 x) (HU.out.trans hUw3 (fun _ _ h => h)))
      have HX4 := hideP (cx3.set_ (0 + 1) (.int .i64 x))
      have HZ4 := hideP ((HC0.out.upd hUw3 (show ¬ w.heap.size = lb by omega)).far ⟨w.heap.size + 1, 0 + 1, none⟩ (.int .i64 x) (by simp))
      clear zw3 fw3 cx3 hLw3 hUw3
      generalize w3.setCell ⟨w.heap.size + 1, 0 + 1, none⟩ (.int .i64 x) = w4 at *
      generalize hM : wnumT r = M at *
      have HM := hideP hM
      clear hM
      cases M with
      | none =>
        go_wp2_with (go_at_call 44; refine (tnum_w _ S lb r HL4.out).mono ?_; rw [HM.out]; rintro e w5 ⟨rfl, hUw5⟩)
        exact ⟨rfl, HPn.out _ HF.out (HU4.out.trans hUw5 (fun _ _ h => h))⟩
      | some nr =>
      obtain ⟨n, r2⟩ := nr
      simp only at HF
      have hn0 := (wnumT_in HM.out).1
      go_upto_region 12 with (go_at_call 44; refine (tnum_w _ S lb r HL4.out).mono ?_; rw [HM.out]; rintro e w5 ⟨rfl, hLw5, hUw5⟩)
      have HL5 := hideP hLw5
      have HU5 := hideP (HU4.out.trans hUw5 (fun _ _ h => h))
      have HX5 := hideP (HX4.out.upd hUw5 (show ¬ w.heap.size + 1 = lb by omega))
      have HZ5 := hideP (HZ4.out.upd hUw5 (show ¬ w.heap.size = lb by omega))
      clear hLw5 hUw5
      obtain ⟨L, hL1, hL2, hLC⟩ := tleft_w _ S lb r2 HL5.out
      have HLC := hideP hLC
      clear hLC
      obtain ⟨m, rfl⟩ := Int.eq_ofNat_of_zero_le hn0
      rw [Int.toNat_natCast] at HF
      by_cases hle : ¬ (m : Int) ≤ (L : Int)
      · rw [rangesT_long m r2 (by omega)] at HF
        go_wp2_with (first | (go_at_call 95; refine HLC.out.mono ?_; rintro e w6 ⟨rfl, hw6⟩; subst hw6) | (go_at_call 31; refine (need_not _ _ (by first | rfl | exact decide_eq_false (by omega))).mono ?_; rintro e w7 ⟨rfl, hw7⟩; subst hw7))
        exact ⟨rfl, HPn.out _ HF.out HU5.out.drew⟩
      have hle : (m : Int) ≤ (L : Int) := by omega
      have hm8 : m ≤ 8388608 := by omega
      go_upto_region 13 with (first | (go_at_call 95; refine HLC.out.mono ?_; rintro e w6 ⟨rfl, hw6⟩; subst hw6) | (go_at_call 31; refine (need_is _ _ (by first | rfl | exact decide_eq_true (by omega))).mono ?_; rintro e w7 ⟨rfl, hw7⟩; subst hw7))
      have HL5 := hideP (HL5.out.upd ((Upd.refl Nob w5).drew) not_nob (fun _ _ => not_nob))
      have HU5 := hideP HU5.out.drew
      have HX5 := hideP HX5.out.drew
      have HZ5 := hideP HZ5.out.drew
      generalize HF0 : fieldsT 1 bs = FB at *
      have HLE := hideP hle
      clear hle
      go_wp2_with fail
      go_loopg [35] m (fun gk v35 wr => ∃ (j : Nat) (acc : List (Int × Int)) (q : List ByteArray) (B : Option Addr) (c : Nat), j + gk = m ∧ v35 = .int .i64 (j : Int) ∧ acc.length = j ∧ Cells wr (w.heap.size + 1) 48 #[.int .i64 1, .int .i64 x, .int .i64 0, .int .i64 0, .slice B j c] ∧ Cells wr w.heap.size 48 #[.int .i64 0, .int .i64 0, .int .i64 0, .int .i64 0, .slice none 0 0] ∧ wr.ownsRow w.heap.size 50 2 (.slice B j c) j (pairv acc) ∧ WordR wr S lb q ∧ rangesT m r2 = (rangesT (m - j) q).map (fun p => (acc ++ p.1, p.2)) ∧ Upd (fun b => b = lb) w wr)
      case atStart => exact ⟨0, [], r2, none, 0, by omega, rfl, rfl, HX5.out, HZ5.out, World.ownsRow_nil _ _ _ _, HL5.out, by simp, HU5.out⟩
      case round =>
        obtain ⟨j, acc, q, B, c, hk, rfl, hacc, hX, hZ, hO, hL, hR, hU⟩ := hrel
        have HX := hideP hX
        have HZ := hideP hZ
        have HO := hideP hO
        have HL := hideP hL
        have HU := hideP hU
        have HK := hideP hk
        by_cases hlt : ¬ j < m
        · obtain rfl : j = m := by omega
          have hR0 := hR
          clear hX hZ hO hL hU hk
          go_wp2_with fail
          go_meet
          rw [Nat.sub_self] at hR
          have hR2 : rangesT j r2 = some (acc, q) := by rw [hR]; simp [rangesT]
          exact ⟨⟨1, x, 0, 0, acc⟩, q, B, c, by rw [HF, hR2], by rw [hacc]; exact HX.out, HZ.out, by rw [hacc]; exact HO.out, HL.out, HU.out⟩
        have hlt : j < m := by omega
        have hms : m - j = (m - (j + 1)) + 1 := by omega
        rw [hms, rangesT_more] at hR
        have g1 : (j : Int) < (m : Int) := by omega
        clear hX hZ hO hL hU hk
        generalize hN2 : wnumT q = N2 at *
        have HN2 := hideP hN2
        clear hN2
        cases N2 with
        | none =>
          have HRN := hideP hR
          clear hR hms
          go_wp2_with (go_at_call 44; refine (tnum_w _ S lb q HL.out).mono ?_; rw [HN2.out]; rintro e w6 ⟨rfl, hUw6⟩)
          exact ⟨rfl, HPn.out _ (by rw [HF, HRN.out]; rfl) (HU.out.trans hUw6 (fun _ _ h => h))⟩
        | some loq =>
        obtain ⟨lo, q2⟩ := loq
        simp only at hR
        have HRS := hideP hR
        clear hR hms
        go_upto_region 16 with (go_at_call 44; refine (tnum_w _ S lb q HL.out).mono ?_; rw [HN2.out]; rintro e w6 ⟨rfl, hLw6, hUw6⟩)
        have HL6 := hideP hLw6
        have HU6 := hideP (HU.out.trans hUw6 (fun _ _ h => h))
        have HX6 := hideP (HX.out.upd hUw6 (show ¬ w.heap.size + 1 = lb by omega))
        have HZ6 := hideP (HZ.out.upd hUw6 (show ¬ w.heap.size = lb by omega))
        have HO6 := hideP (own_upd HO.out hUw6 (fun b hb (e : b = lb) => by have := own_lo HO.out hb; omega))
        have hw6 := HX6.out.lt
        clear hLw6 hUw6 HO HX HZ HU HL
        have HLD6 := hideP (HL6.out.upd ((Upd.refl Nob w6).drew) not_nob (fun _ _ => not_nob))
        generalize hN3 : wnumT q2 = N3 at *
        have HN3 := hideP hN3
        clear hN3
        cases N3 with
        | none =>
          refine AnyJ.begin 9 (fun w' => w'.cell? ⟨w.heap.size + 1, 0 + 4, none⟩ = some (.slice B j c)) (by kernel_rfl) (HX6.out.cellv rfl) (fun hSS => ?_)
          refine AnyJ.take (i := 0) (oi := { dst := some 39, op := Op.fieldAddr 48 (Operand.tmp 5) 4, type := 0, pos := "code.go:51", after := #[], guard := none }) (v := ?v0n1) ?a0n1 ?b0n1 ?c0n1 ?d0n1 ?e0n1 (fun _ _ _ h => h) (Or.inl ⟨?f0n1, ?y0n1⟩) (by assumption) ?r0n1
          case a0n1 => rfl
          case b0n1 => kernel_rfl
          case c0n1 => kernel_rfl
          case d0n1 => kernel_rfl
          case e0n1 => kernel_rfl
          case f0n1 => rfl
          case y0n1 => (intro w' hSw; (try dsimp only at hSw); go_simp; try with_reducible rfl)
          try simp only [Act.put, List.setIfInBounds_toArray, List.set_cons_zero, List.set_cons_succ]
          refine AnyJ.take (i := 1) (oi := { dst := some 40, op := Op.load 46 (Operand.tmp 39), type := 46, pos := "code.go:51", after := #[{ on := 0, ground := .data }], guard := none }) (v := ?v1n2) ?a1n2 ?b1n2 ?c1n2 ?d1n2 ?e1n2 (fun _ _ _ h => h) (Or.inl ⟨?f1n2, ?y1n2⟩) (by assumption) ?r1n2
          case a1n2 => rfl
          case b1n2 => kernel_rfl
          case c1n2 => kernel_rfl
          case d1n2 => kernel_rfl
          case e1n2 => kernel_rfl
          case f1n2 => rfl
          case y1n2 => (intro w' hSw; (try dsimp only at hSw); go_simp; try with_reducible rfl)
          try simp only [Act.put, List.setIfInBounds_toArray, List.set_cons_zero, List.set_cons_succ]
          refine AnyJ.take (i := 2) (oi := { dst := some 41, op := Op.move (Operand.tmp 7), type := 3, pos := "code.go:51", after := #[], guard := none }) (v := ?v2n3) ?a2n3 ?b2n3 ?c2n3 ?d2n3 ?e2n3 (fun _ _ _ h => h) (Or.inl ⟨?f2n3, ?y2n3⟩) (by assumption) ?r2n3
          case a2n3 => rfl
          case b2n3 => kernel_rfl
          case c2n3 => kernel_rfl
          case d2n3 => kernel_rfl
          case e2n3 => kernel_rfl
          case f2n3 => rfl
          case y2n3 => (intro w' hSw; (try dsimp only at hSw); go_simp; try with_reducible rfl)
          try simp only [Act.put, List.setIfInBounds_toArray, List.set_cons_zero, List.set_cons_succ]
          refine AnyJ.take (i := 3) (oi := { dst := some 42, op := Op.move (Operand.tmp 0), type := 89, pos := "code.go:51", after := #[], guard := none }) (v := ?v3n4) ?a3n4 ?b3n4 ?c3n4 ?d3n4 ?e3n4 (fun _ _ _ h => h) (Or.inl ⟨?f3n4, ?y3n4⟩) (by assumption) ?r3n4
          case a3n4 => rfl
          case b3n4 => kernel_rfl
          case c3n4 => kernel_rfl
          case d3n4 => kernel_rfl
          case e3n4 => kernel_rfl
          case f3n4 => rfl
          case y3n4 => (intro w' hSw; (try dsimp only at hSw); go_simp; try with_reducible rfl)
          try simp only [Act.put, List.setIfInBounds_toArray, List.set_cons_zero, List.set_cons_succ]
          refine AnyJ.one (i := 4) (o := { dst := some 43, op := Op.call { callee := Callee.invoke (Operand.tmp 42) "heron/code.num", args := #[], argTypes := #[] }, type := 3, pos := "code.go:51", after := #[{ on := 3, ground := .data }], guard := none }) ?p5 ?q5 ?_
          case p5 => kernel_rfl
          case q5 => rfl
          intro K' hK
          go_simp
          refine (tnum_w _ S lb q2 HLD6.out).mono ?_
          rw [HN3.out]
          rintro e w7 ⟨rfl, hUw7⟩
          exact ⟨rfl, HPn.out _ (by rw [HF, HRS.out]; rfl) ((HU6.out.trans ((Upd.refl Nob w6).drew) (fun _ _ h => absurd h not_nob)).trans hUw7 (fun _ _ h => h))⟩
        | some hiq =>
          obtain ⟨hi', q3⟩ := hiq
          refine AnyJ.begin 9 (fun w' => w'.cell? ⟨w.heap.size + 1, 0 + 4, none⟩ = some (.slice B j c)) (by kernel_rfl) (HX6.out.cellv rfl) (fun hSS => ?_)
          refine AnyJ.take (i := 0) (oi := { dst := some 39, op := Op.fieldAddr 48 (Operand.tmp 5) 4, type := 0, pos := "code.go:51", after := #[], guard := none }) (v := ?v0n6) ?a0n6 ?b0n6 ?c0n6 ?d0n6 ?e0n6 (fun _ _ _ h => h) (Or.inl ⟨?f0n6, ?y0n6⟩) (by assumption) ?r0n6
          case a0n6 => rfl
          case b0n6 => kernel_rfl
          case c0n6 => kernel_rfl
          case d0n6 => kernel_rfl
          case e0n6 => kernel_rfl
          case f0n6 => rfl
          case y0n6 => (intro w' hSw; (try dsimp only at hSw); go_simp; try with_reducible rfl)
          try simp only [Act.put, List.setIfInBounds_toArray, List.set_cons_zero, List.set_cons_succ]
          refine AnyJ.take (i := 1) (oi := { dst := some 40, op := Op.load 46 (Operand.tmp 39), type := 46, pos := "code.go:51", after := #[{ on := 0, ground := .data }], guard := none }) (v := ?v1n7) ?a1n7 ?b1n7 ?c1n7 ?d1n7 ?e1n7 (fun _ _ _ h => h) (Or.inl ⟨?f1n7, ?y1n7⟩) (by assumption) ?r1n7
          case a1n7 => rfl
          case b1n7 => kernel_rfl
          case c1n7 => kernel_rfl
          case d1n7 => kernel_rfl
          case e1n7 => kernel_rfl
          case f1n7 => rfl
          case y1n7 => (intro w' hSw; (try dsimp only at hSw); go_simp; try with_reducible rfl)
          try simp only [Act.put, List.setIfInBounds_toArray, List.set_cons_zero, List.set_cons_succ]
          refine AnyJ.take (i := 2) (oi := { dst := some 41, op := Op.move (Operand.tmp 7), type := 3, pos := "code.go:51", after := #[], guard := none }) (v := ?v2n8) ?a2n8 ?b2n8 ?c2n8 ?d2n8 ?e2n8 (fun _ _ _ h => h) (Or.inl ⟨?f2n8, ?y2n8⟩) (by assumption) ?r2n8
          case a2n8 => rfl
          case b2n8 => kernel_rfl
          case c2n8 => kernel_rfl
          case d2n8 => kernel_rfl
          case e2n8 => kernel_rfl
          case f2n8 => rfl
          case y2n8 => (intro w' hSw; (try dsimp only at hSw); go_simp; try with_reducible rfl)
          try simp only [Act.put, List.setIfInBounds_toArray, List.set_cons_zero, List.set_cons_succ]
          refine AnyJ.take (i := 3) (oi := { dst := some 42, op := Op.move (Operand.tmp 0), type := 89, pos := "code.go:51", after := #[], guard := none }) (v := ?v3n9) ?a3n9 ?b3n9 ?c3n9 ?d3n9 ?e3n9 (fun _ _ _ h => h) (Or.inl ⟨?f3n9, ?y3n9⟩) (by assumption) ?r3n9
          case a3n9 => rfl
          case b3n9 => kernel_rfl
          case c3n9 => kernel_rfl
          case d3n9 => kernel_rfl
          case e3n9 => kernel_rfl
          case f3n9 => rfl
          case y3n9 => (intro w' hSw; (try dsimp only at hSw); go_simp; try with_reducible rfl)
          try simp only [Act.put, List.setIfInBounds_toArray, List.set_cons_zero, List.set_cons_succ]
          refine AnyJ.one (i := 4) (o := { dst := some 43, op := Op.call { callee := Callee.invoke (Operand.tmp 42) "heron/code.num", args := #[], argTypes := #[] }, type := 3, pos := "code.go:51", after := #[{ on := 3, ground := .data }], guard := none }) ?p10 ?q10 ?_
          case p10 => kernel_rfl
          case q10 => rfl
          intro K' hK
          go_simp
          refine (tnum_w _ S lb q2 HLD6.out).mono ?_
          rw [HN3.out]
          rintro e w7 ⟨rfl, hLw7, hUw7⟩
          have U7 := ((Upd.refl Nob w6).drew).mono (G := fun b => b = lb) (fun _ _ h => absurd h not_nob) |>.trans hUw7 (fun _ _ h => h)
          have X7 := HX6.out.upd U7 (show ¬ w.heap.size + 1 = lb by omega)
          have hw7 := X7.lt
          have x4 : w7.cell? ⟨w.heap.size + 1, 0 + 4, none⟩ = some (.slice B j c) := X7.cellv rfl
          refine hK.out _ _ (.inr x4) ?_; clear hK K'
          try simp only [Act.put, List.setIfInBounds_toArray, List.set_cons_zero, List.set_cons_succ]
          refine AnyJ.take (i := 5) (oi := { dst := some 44, op := Op.build 50 #[(0, Operand.tmp 41), (1, Operand.tmp 43)], type := 50, pos := "code.go:51", after := #[{ on := 2, ground := .data }, { on := 4, ground := .data }], guard := none }) (v := ?v5n11) ?a5n11 ?b5n11 ?c5n11 ?d5n11 ?e5n11 (fun _ _ _ h => h) (Or.inl ⟨?f5n11, ?y5n11⟩) (by assumption) ?r5n11
          case a5n11 => rfl
          case b5n11 => kernel_rfl
          case c5n11 => kernel_rfl
          case d5n11 => kernel_rfl
          case e5n11 => kernel_rfl
          case f5n11 => rfl
          case y5n11 => (intro w' hSw; (try dsimp only at hSw); go_simp; try with_reducible rfl)
          try simp only [Act.put, List.setIfInBounds_toArray, List.set_cons_zero, List.set_cons_succ]
          refine AnyJ.one (i := 6) (o := { dst := some 45, op := Op.buildSlice 46 1 #[(0, Operand.tmp 44)], type := 46, pos := "code.go:51", after := #[{ on := 5, ground := .data }], guard := none }) ?p12 ?q12 ?_
          case p12 => kernel_rfl
          case q12 => rfl
          intro K' hK
          go_simp
          have U8 := U7.alloc (.cells #[.int .i64 lo, .int .i64 hi'] 50)
          have X8 := HX6.out.upd U8 (show ¬ w.heap.size + 1 = lb by omega)
          refine hK.out _ _ (.inr (X8.cellv rfl)) ?_; clear hK K'
          try simp only [Act.put, List.setIfInBounds_toArray, List.set_cons_zero, List.set_cons_succ]
          refine AnyJ.one (i := 7) (o := { dst := some 46, op := Op.call { callee := Callee.builtin Builtin.append, args := #[Operand.tmp 40, Operand.tmp 45], argTypes := #[46, 46] }, type := 46, pos := "code.go:51", after := #[{ on := 1, ground := .data }, { on := 6, ground := .data }, { on := 4, ground := .chain }], guard := none }) ?p13 ?q13 ?_
          case p13 => kernel_rfl
          case q13 => rfl
          intro K' hK
          have O8 := own_upd HO6.out U8 (fun b hb (e : b = lb) => by have := own_lo HO6.out hb; omega)
          refine step_append_lies _ rfl (.tmp 40) (.tmp 45) 46 rfl w.heap.size 50 i0 _ 2 16 Tryd.underlying46 hi0 hz0 hz1 hz2 rfl (by decide) (.slice B j c) j (pairv acc) (by rfl) O8 ⟨w7.heap.size, 0, none⟩ 1 1 [.int .i64 lo, .int .i64 hi'] (by rfl) (by rfl) (World.news_of_block (cs := #[.int .i64 lo, .int .i64 hi']) (t := 50) (fr := (0, 0)) (heap_alloc_new w7 _)) (by intro u hu; simp at hu; rcases hu with rfl | rfl <;> rfl) (by decide) (by unfold maxLen; omega) (by omega) (by simp; omega) (w7.heap.size + 1) (by simp) ?_
          intro gN cN w9 oN gr hat hlt9
          have OB := fun b (hb : (Value.slice B j c).ownBlock = some b) => own_lo O8 hb
          have U9 := (HU6.out.trans U8 (fun _ _ h => h)).grown gr (fun b hb (h : b < w.heap.size) => by have := OB b hb; omega)
          have UB := (Upd.refl (fun b => (Value.slice B j c).ownBlock = some b) (w7.alloc (.cells #[.int .i64 lo, .int .i64 hi'] 50))).grown gr (fun b hb _ => hb)
          have X9 := X8.upd UB (own_ne O8 X8 (by decide))
          have Z9 := (HZ6.out.upd U8 (show ¬ w.heap.size = lb by omega)).upd UB (own_ne O8 (HZ6.out.upd U8 (show ¬ w.heap.size = lb by omega)) (by decide))
          have L9 := (hLw7.upd ((Upd.refl Nob w7).alloc (.cells #[.int .i64 lo, .int .i64 hi'] 50)) not_nob (fun _ _ => not_nob)).upd UB (fun h => by have := OB lb h; omega) (fun b hb h => by have h1 := OB b h; have h2 := hS b hb; omega)
          refine hK.out _ _ (.inr (X9.cellv rfl)) ?_; clear hK K'
          try simp only [Act.put, List.setIfInBounds_toArray, List.set_cons_zero, List.set_cons_succ]
          have x4 : w9.cell? ⟨w.heap.size + 1, 0 + 4, none⟩ = some (.slice B j c) := X9.cellv rfl
          have z4 : w9.frozen? ⟨w.heap.size + 1, 0 + 4, none⟩ = false := X9.frozen _
          refine AnyJ.take (i := 8) (oi := { dst := some 47, op := Op.fieldAddr 48 (Operand.tmp 5) 4, type := 0, pos := "code.go:51", after := #[{ on := 0, ground := .phase }, { on := 1, ground := .phase }, { on := 2, ground := .phase }, { on := 3, ground := .phase }, { on := 4, ground := .phase }, { on := 5, ground := .phase }, { on := 6, ground := .phase }, { on := 7, ground := .phase }], guard := none }) (v := ?v8z) ?a8z ?b8z ?c8z ?d8z ?e8z (fun _ _ _ h => h) (Or.inl ⟨?f8z, ?y8z⟩) (by assumption) ?r8z
          case a8z => rfl
          case b8z => kernel_rfl
          case c8z => kernel_rfl
          case d8z => kernel_rfl
          case e8z => kernel_rfl
          case f8z => rfl
          case y8z => (intro w' hSw; (try dsimp only at hSw); go_simp; try with_reducible rfl)
          try simp only [Act.put, List.setIfInBounds_toArray, List.set_cons_zero, List.set_cons_succ]
          refine AnyJ.one (i := 9) (o := { dst := none, op := Op.store 46 (Operand.tmp 47) (Operand.tmp 46), type := 0, pos := "code.go:51", after := #[{ on := 8, ground := .data }, { on := 7, ground := .data }, { on := 7, ground := .chain }, { on := 0, ground := .phase }, { on := 1, ground := .phase }, { on := 2, ground := .phase }, { on := 3, ground := .phase }, { on := 4, ground := .phase }, { on := 5, ground := .phase }, { on := 6, ground := .phase }, { on := 7, ground := .phase }], guard := none }) ?pz ?qz ?_
          case pz => kernel_rfl
          case qz => rfl
          intro K' hK
          go_simp
          refine hK.out _ _ (.inl rfl) ?_; clear hK K'
          refine AnyJ.done ?_ ?_ _
          · kernel_rfl
          have HX10 := hideP (X9.set_ (0 + 4) (.slice (some ⟨gN, 0, none⟩) (j + 1) cN))
          have HL10 := hideP (HST.out w9 (0 + 4) (.slice (some ⟨gN, 0, none⟩) (j + 1) cN) q3 L9)
          have HU10 := hideP (HSU.out w9 (0 + 4) (.slice (some ⟨gN, 0, none⟩) (j + 1) cN) U9)
          have HZ10 := hideP (Z9.far ⟨w.heap.size + 1, 0 + 4, none⟩ (.slice (some ⟨gN, 0, none⟩) (j + 1) cN) (by simp))
          have HO10 := hideP (own_far oN ⟨w.heap.size + 1, 0 + 4, none⟩ (.slice (some ⟨gN, 0, none⟩) (j + 1) cN) (own_ne oN X9 (by decide)))
          clear x4 z4 X9 Z9 L9 U9 UB O8 OB X8 U8 oN gr hat hlt9 X7 U7 hLw7 hUw7 hw7
          go_wp2_with fail
          have hk := HK.out
          go_roundg (m - (j + 1))
          case measure => omega
          case rel =>
            refine ⟨j + 1, acc ++ [(lo, hi')], q3, some ⟨gN, 0, none⟩, cN, by omega, by go_num, by simp [hacc], HX10.out, HZ10.out, ?_, HL10.out, ?_, HU10.out⟩
            · rw [pairv_cat]; exact HO10.out
            · rw [HRS.out]
              cases rangesT (m - (j + 1)) q3 with
              | none => rfl
              | some p => simp
    · have HF := hideP (show fieldsT op bs = none from by unfold fieldsT; rw [if_neg h1, if_neg h2, if_neg (by omega), if_neg h7, if_neg h5, if_neg h6])
      go_wp2_with (go_at_call 31; refine (need_no _).mono ?_; rintro e w3 ⟨rfl, hw3⟩; subst hw3)
      exact ⟨rfl, HPn.out _ HF.out HU.out⟩
  case rest =>
    obtain ⟨x, r, B, c, hF, hX, hZ, hO, hL, hU⟩ := hcut
    have e0 : wc.cell? ⟨w.heap.size + 1, 0, none⟩ = some (.int .i64 x.op) := hX.cellv rfl
    have e1 : wc.cell? ⟨w.heap.size + 1, 0 + 1, none⟩ = some (.int .i64 x.x) := hX.cellv rfl
    have e2 : wc.cell? ⟨w.heap.size + 1, 0 + 2, none⟩ = some (.int .i64 x.y) := hX.cellv rfl
    have e3 : wc.cell? ⟨w.heap.size + 1, 0 + 3, none⟩ = some (.int .i64 x.arg) := hX.cellv rfl
    have e4 : wc.cell? ⟨w.heap.size + 1, 0 + 4, none⟩ = some (.slice B x.rs.length c) := hX.cellv rfl
    have z0 := hZ.cellv (i := 0) rfl
    have z1 := hZ.cellv (i := 0 + 1) rfl
    have z2 := hZ.cellv (i := 0 + 2) rfl
    have z3 := hZ.cellv (i := 0 + 3) rfl
    have z4 := hZ.cellv (i := 0 + 4) rfl
    have f0 := hZ.frozen 0
    have f1 := hZ.frozen (0 + 1)
    have f2 := hZ.frozen (0 + 2)
    have f3 := hZ.frozen (0 + 3)
    have f4 := hZ.frozen (0 + 4)
    go_wp2_with fail
    clear e0 e1 e2 e3 e4 z0 z1 z2 z3 z4 f0 f1 f2 f3 f4
    have C9 := ((((hZ.set_ 0 (.int .i64 x.op)).set_ 1 (.int .i64 x.x)).set_ 2 (.int .i64 x.y)).set_ 3 (.int .i64 x.arg)).set_ 4 (.slice B x.rs.length c)
    have U9 := (((((Upd.refl (fun b => b = w.heap.size) wc).setCell ⟨w.heap.size, 0, none⟩ (.int .i64 x.op) (fun _ => rfl)).setCell ⟨w.heap.size, 1, none⟩ (.int .i64 x.x) (fun _ => rfl)).setCell ⟨w.heap.size, 2, none⟩ (.int .i64 x.y) (fun _ => rfl)).setCell ⟨w.heap.size, 3, none⟩ (.int .i64 x.arg) (fun _ => rfl)).setCell ⟨w.heap.size, 4, none⟩ (.slice B x.rs.length c) (fun _ => rfl)
    have O9 := own_upd hO U9 (fun b hb e => own_ne hO hZ (by decide) (by rw [← e]; exact hb))
    have L9 := hL.upd U9 (show ¬ lb = w.heap.size by omega) (fun b hb (e : b = w.heap.size) => by have := hS b hb; omega)
    have V9 := hU.trans U9 (fun b hb (e : b = w.heap.size) => absurd hb (by omega))
    clear U9 hZ hX hO hL hU
    generalize ((((wc.setCell ⟨w.heap.size, 0, none⟩ (.int .i64 x.op)).setCell ⟨w.heap.size, 1, none⟩ (.int .i64 x.x)).setCell ⟨w.heap.size, 2, none⟩ (.int .i64 x.y)).setCell ⟨w.heap.size, 3, none⟩ (.int .i64 x.arg)).setCell ⟨w.heap.size, 4, none⟩ (.slice B x.rs.length c) = w9 at *
    have e0 : w9.cell? ⟨w.heap.size, 0, none⟩ = some (.int .i64 x.op) := C9.cellv rfl
    have e1 : w9.cell? ⟨w.heap.size, 1, none⟩ = some (.int .i64 x.x) := C9.cellv rfl
    have e2 : w9.cell? ⟨w.heap.size, 2, none⟩ = some (.int .i64 x.y) := C9.cellv rfl
    have e3 : w9.cell? ⟨w.heap.size, 3, none⟩ = some (.int .i64 x.arg) := C9.cellv rfl
    have e4 : w9.cell? ⟨w.heap.size, 4, none⟩ = some (.slice B x.rs.length c) := C9.cellv rfl
    refine bodyPost_ret (by simp [results, Tryd.results34, go_sem, e0, e1, e2, e3, e4]; try rfl) rfl ?_
    exact HPs.out x r B c _ hF O9 L9 V9
end Go.Proofs.YtdbdokjlcdogiaaDoor

/-
  code.Read's region 13 (p.Insts = append(p.Insts, fields(r, named(w)))), over whatever frame. Printed by tools/mkreg13.py.
-/
namespace Go.Proofs.YtdbdokjlcdogiaaDoor
open Go.RowKit
set_option linter.unusedVariables false

set_option maxRecDepth 100000 in
set_option maxHeartbeats 4000000 in
theorem read_reg13 (Q : Exit → Act → World → Prop) (wr : World) (S : Nat → Prop) (pb eb lb base c : Nat) (A : Option Addr) (is : List PInst) (gs : List (Option Addr × Nat)) (v : ByteArray) (q : List ByteArray) (s0 c0 : Value) (x0 x1 x6 x7 x8 x9 x10 x11 x12 x13 x14 x15 x16 x17 x18 x19 x20 x21 x22 x23 x24 x25 x26 x27 x28 x29 x30 x31 x32 x33 x34 x35 x36 x37 x38 x39 x40 x41 x42 x43 x44 x45 x46 x47 x48 x49 x50 x51 x52 x53 : Value)
    (hWT : WordTab wr) (hL : WordR wr S lb q) (hC : Cells wr pb 24 #[.slice A is.length c, s0, c0]) (hP : ProgW wr base A c is gs) (hS : ∀ b, S b → b < pb) (hpl : ¬ pb = lb) (hpb : pb < base) (hlb : lb < base) (hba : base ≤ wr.heap.size) (hk : is.length < 20000)
    (hno : fieldsT (nameOf v : Nat) q = none → ∀ a w', Door 42 a pb eb → Upd (fun b => b = lb) wr w' → Q (.panic brokenP) a w')
    (hyes : ∀ x r, fieldsT (nameOf v : Nat) q = some (x, r) → ∀ v39 v40 v41 v42 v43 v44 v45 v46 v47 v48 A' c' gs' w', Cells w' pb 24 #[.slice A' (is.length + 1) c', s0, c0] → ProgW w' base A' c' (is ++ [x]) gs' → WordR w' S lb r → Upd (fun b => b = pb ∨ b = lb ∨ base ≤ b) wr w' → Q .normal ⟨#[x0, x1, .pointer (some ⟨pb, 0, none⟩), .pointer (some ⟨eb, 0, none⟩), .pointer (some ⟨lb, 0, none⟩), .string v, x6, x7, x8, x9, x10, x11, x12, x13, x14, x15, x16, x17, x18, x19, x20, x21, x22, x23, x24, x25, x26, x27, x28, x29, x30, x31, x32, x33, x34, x35, x36, x37, x38, v39, v40, v41, v42, v43, v44, v45, v46, v47, v48, x49, x50, x51, x52, x53], [{ target := .fn (.func 42) #[.pointer (some ⟨pb, 0, none⟩), .pointer (some ⟨eb, 0, none⟩)], args := #[] }]⟩ w') :
    (Code.region 13 #[{ dst := some 39, op := Op.fieldAddr 24 (Operand.tmp 2) 0, type := 0, pos := "code.go:171", after := #[], guard := none },
    { dst := some 40, op := Op.load 22 (Operand.tmp 39), type := 22, pos := "code.go:171", after := #[{ on := 0, ground := .data }], guard := none },
    { dst := some 41, op := Op.move (Operand.tmp 4), type := 75, pos := "code.go:171", after := #[], guard := none },
    { dst := some 42, op := Op.makeInterface 75 (Operand.tmp 41), type := 89, pos := "code.go:171", after := #[{ on := 2, ground := .data }], guard := none },
    { dst := some 43, op := Op.move (Operand.tmp 5), type := 9, pos := "code.go:171", after := #[], guard := none },
    { dst := some 44, op := Op.call { callee := Callee.value (Operand.func 45), args := #[Operand.tmp 43], argTypes := #[9] }, type := 3, pos := "code.go:171", after := #[{ on := 4, ground := .data }], guard := none },
    { dst := some 45, op := Op.call { callee := Callee.value (Operand.func 34), args := #[Operand.tmp 42, Operand.tmp 44], argTypes := #[89, 3] }, type := 48, pos := "code.go:171", after := #[{ on := 3, ground := .data }, { on := 5, ground := .data }, { on := 5, ground := .chain }], guard := none },
    { dst := some 46, op := Op.buildSlice 22 1 #[(0, Operand.tmp 45)], type := 22, pos := "code.go:171", after := #[{ on := 6, ground := .data }], guard := none },
    { dst := some 47, op := Op.call { callee := Callee.builtin Builtin.append, args := #[Operand.tmp 40, Operand.tmp 46], argTypes := #[22, 22] }, type := 22, pos := "code.go:171", after := #[{ on := 1, ground := .data }, { on := 7, ground := .data }, { on := 6, ground := .chain }], guard := none },
    { dst := some 48, op := Op.fieldAddr 24 (Operand.tmp 2) 0, type := 0, pos := "code.go:171", after := #[{ on := 0, ground := .phase }, { on := 1, ground := .phase }, { on := 2, ground := .phase }, { on := 3, ground := .phase }, { on := 4, ground := .phase }, { on := 5, ground := .phase }, { on := 6, ground := .phase }, { on := 7, ground := .phase }, { on := 8, ground := .phase }], guard := none },
    { dst := none, op := Op.store 22 (Operand.tmp 48) (Operand.tmp 47), type := 0, pos := "code.go:171", after := #[{ on := 9, ground := .data }, { on := 8, ground := .data }, { on := 8, ground := .chain }, { on := 0, ground := .phase }, { on := 1, ground := .phase }, { on := 2, ground := .phase }, { on := 3, ground := .phase }, { on := 4, ground := .phase }, { on := 5, ground := .phase }, { on := 6, ground := .phase }, { on := 7, ground := .phase }, { on := 8, ground := .phase }], guard := none }] true).wp Tryd.prog Q ⟨#[x0, x1, .pointer (some ⟨pb, 0, none⟩), .pointer (some ⟨eb, 0, none⟩), .pointer (some ⟨lb, 0, none⟩), .string v, x6, x7, x8, x9, x10, x11, x12, x13, x14, x15, x16, x17, x18, x19, x20, x21, x22, x23, x24, x25, x26, x27, x28, x29, x30, x31, x32, x33, x34, x35, x36, x37, x38, x39, x40, x41, x42, x43, x44, x45, x46, x47, x48, x49, x50, x51, x52, x53], [{ target := .fn (.func 42) #[.pointer (some ⟨pb, 0, none⟩), .pointer (some ⟨eb, 0, none⟩)], args := #[] }]⟩ wr := by
  obtain ⟨i0, hi0, hz0, hz1, hz2⟩ := info_parts finfo_inst
  have HC := hideP hC
  have HWT := hideP (show WordTab wr.drew from hWT)
  have HLD := hideP (hL.upd ((Upd.refl Nob wr).drew) not_nob (fun _ _ => not_nob))
  have HU0 := hideP ((Upd.refl (fun b => b = lb) wr).drew)
  have HPA := hideP hP.lt
  have HP := hideP hP
  have HY := hideP hyes
  generalize hNP : (fieldsT (nameOf v : Nat) q = none) = NP at hno
  have HNP := hideP hNP
  clear hNP
  refine Code.wp_mono (QuietQ.imp (G := fun c a w' => c = brokenP ∧ Door 42 a pb eb ∧ Upd (fun b => b = lb) wr w' ∧ NP) (fun c a w' h => ?_)) ?_
  · obtain ⟨rfl, hd, hU, hn⟩ := h
    exact hno hn a w' hd hU
  clear hno hyes hP hL hC hWT
  generalize hF : fieldsT (nameOf v : Nat) q = F at *
  have HF := hideP hF
  clear hF
  cases F with
  | none =>
    refine AnyJ.begin 10 (fun w' => w'.cell? ⟨pb, 0, none⟩ = some (.slice A is.length c)) (by kernel_rfl) (HC.out.cellv rfl) (fun hSS => ?_)
    refine AnyJ.take (i := 0) (oi := { dst := some 39, op := Op.fieldAddr 24 (Operand.tmp 2) 0, type := 0, pos := "code.go:171", after := #[], guard := none }) (v := ?v0nb1) ?a0nb1 ?b0nb1 ?c0nb1 ?d0nb1 ?e0nb1 (fun _ _ _ h => ⟨h.1, Door.put h.2.1 (by decide) (by decide), h.2.2⟩) (Or.inl ⟨?f0nb1, ?y0nb1⟩) (by assumption) ?r0nb1
    case a0nb1 => rfl
    case b0nb1 => kernel_rfl
    case c0nb1 => kernel_rfl
    case d0nb1 => kernel_rfl
    case e0nb1 => kernel_rfl
    case f0nb1 => rfl
    case y0nb1 => (intro w' hSw; (try dsimp only at hSw); go_simp; try with_reducible rfl)
    try simp only [Act.put, List.setIfInBounds_toArray, List.set_cons_zero, List.set_cons_succ]
    refine AnyJ.take (i := 1) (oi := { dst := some 40, op := Op.load 22 (Operand.tmp 39), type := 22, pos := "code.go:171", after := #[{ on := 0, ground := .data }], guard := none }) (v := ?v1nb2) ?a1nb2 ?b1nb2 ?c1nb2 ?d1nb2 ?e1nb2 (fun _ _ _ h => ⟨h.1, Door.put h.2.1 (by decide) (by decide), h.2.2⟩) (Or.inl ⟨?f1nb2, ?y1nb2⟩) (by assumption) ?r1nb2
    case a1nb2 => rfl
    case b1nb2 => kernel_rfl
    case c1nb2 => kernel_rfl
    case d1nb2 => kernel_rfl
    case e1nb2 => kernel_rfl
    case f1nb2 => rfl
    case y1nb2 => (intro w' hSw; (try dsimp only at hSw); go_simp; try with_reducible rfl)
    try simp only [Act.put, List.setIfInBounds_toArray, List.set_cons_zero, List.set_cons_succ]
    refine AnyJ.take (i := 2) (oi := { dst := some 41, op := Op.move (Operand.tmp 4), type := 75, pos := "code.go:171", after := #[], guard := none }) (v := ?v2nb3) ?a2nb3 ?b2nb3 ?c2nb3 ?d2nb3 ?e2nb3 (fun _ _ _ h => ⟨h.1, Door.put h.2.1 (by decide) (by decide), h.2.2⟩) (Or.inl ⟨?f2nb3, ?y2nb3⟩) (by assumption) ?r2nb3
    case a2nb3 => rfl
    case b2nb3 => kernel_rfl
    case c2nb3 => kernel_rfl
    case d2nb3 => kernel_rfl
    case e2nb3 => kernel_rfl
    case f2nb3 => rfl
    case y2nb3 => (intro w' hSw; (try dsimp only at hSw); go_simp; try with_reducible rfl)
    try simp only [Act.put, List.setIfInBounds_toArray, List.set_cons_zero, List.set_cons_succ]
    refine AnyJ.take (i := 3) (oi := { dst := some 42, op := Op.makeInterface 75 (Operand.tmp 41), type := 89, pos := "code.go:171", after := #[{ on := 2, ground := .data }], guard := none }) (v := ?v3nb4) ?a3nb4 ?b3nb4 ?c3nb4 ?d3nb4 ?e3nb4 (fun _ _ _ h => ⟨h.1, Door.put h.2.1 (by decide) (by decide), h.2.2⟩) (Or.inl ⟨?f3nb4, ?y3nb4⟩) (by assumption) ?r3nb4
    case a3nb4 => rfl
    case b3nb4 => kernel_rfl
    case c3nb4 => kernel_rfl
    case d3nb4 => kernel_rfl
    case e3nb4 => kernel_rfl
    case f3nb4 => rfl
    case y3nb4 => (intro w' hSw; (try dsimp only at hSw); go_simp; try with_reducible rfl)
    try simp only [Act.put, List.setIfInBounds_toArray, List.set_cons_zero, List.set_cons_succ]
    refine AnyJ.take (i := 4) (oi := { dst := some 43, op := Op.move (Operand.tmp 5), type := 9, pos := "code.go:171", after := #[], guard := none }) (v := ?v4nb5) ?a4nb5 ?b4nb5 ?c4nb5 ?d4nb5 ?e4nb5 (fun _ _ _ h => ⟨h.1, Door.put h.2.1 (by decide) (by decide), h.2.2⟩) (Or.inl ⟨?f4nb5, ?y4nb5⟩) (by assumption) ?r4nb5
    case a4nb5 => rfl
    case b4nb5 => kernel_rfl
    case c4nb5 => kernel_rfl
    case d4nb5 => kernel_rfl
    case e4nb5 => kernel_rfl
    case f4nb5 => rfl
    case y4nb5 => (intro w' hSw; (try dsimp only at hSw); go_simp; try with_reducible rfl)
    try simp only [Act.put, List.setIfInBounds_toArray, List.set_cons_zero, List.set_cons_succ]
    refine AnyJ.one (i := 5) (o := { dst := some 44, op := Op.call { callee := Callee.value (Operand.func 45), args := #[Operand.tmp 43], argTypes := #[9] }, type := 3, pos := "code.go:171", after := #[{ on := 4, ground := .data }], guard := none }) ?pb6 ?qb6 ?_
    case pb6 => kernel_rfl
    case qb6 => rfl
    intro K' hK
    go_simp
    refine (named_any _ v HWT.out).mono ?_
    rintro e w7 ⟨rfl, hw7⟩
    subst hw7
    have X7 := HC.out.upd HU0.out hpl
    refine hK.out _ _ (.inr (X7.cellv rfl)) ?_; clear hK K'
    try simp only [Act.put, List.setIfInBounds_toArray, List.set_cons_zero, List.set_cons_succ]
    refine AnyJ.one (i := 6) (o := { dst := some 45, op := Op.call { callee := Callee.value (Operand.func 34), args := #[Operand.tmp 42, Operand.tmp 44], argTypes := #[89, 3] }, type := 48, pos := "code.go:171", after := #[{ on := 3, ground := .data }, { on := 5, ground := .data }, { on := 5, ground := .chain }], guard := none }) ?pb7 ?qb7 ?_
    case pb7 => kernel_rfl
    case qb7 => rfl
    intro K' hK
    go_simp
    refine (fieldsT_any _ S lb q (nameOf v : Nat) HLD.out (fun b hb => by have := hS b hb; have := X7.lt; omega)).mono ?_
    rw [HF.out]
    rintro e w8 ⟨rfl, hU8⟩
    exact ⟨rfl, ⟨rfl, rfl, rfl⟩, HU0.out.trans hU8 (fun _ _ h => h), by rw [← HNP.out]⟩
  | some xr =>
    obtain ⟨x, r⟩ := xr
    refine AnyJ.begin 10 (fun w' => w'.cell? ⟨pb, 0, none⟩ = some (.slice A is.length c)) (by kernel_rfl) (HC.out.cellv rfl) (fun hSS => ?_)
    refine AnyJ.take (i := 0) (oi := { dst := some 39, op := Op.fieldAddr 24 (Operand.tmp 2) 0, type := 0, pos := "code.go:171", after := #[], guard := none }) (v := ?v0nc8) ?a0nc8 ?b0nc8 ?c0nc8 ?d0nc8 ?e0nc8 (fun _ _ _ h => ⟨h.1, Door.put h.2.1 (by decide) (by decide), h.2.2⟩) (Or.inl ⟨?f0nc8, ?y0nc8⟩) (by assumption) ?r0nc8
    case a0nc8 => rfl
    case b0nc8 => kernel_rfl
    case c0nc8 => kernel_rfl
    case d0nc8 => kernel_rfl
    case e0nc8 => kernel_rfl
    case f0nc8 => rfl
    case y0nc8 => (intro w' hSw; (try dsimp only at hSw); go_simp; try with_reducible rfl)
    try simp only [Act.put, List.setIfInBounds_toArray, List.set_cons_zero, List.set_cons_succ]
    refine AnyJ.take (i := 1) (oi := { dst := some 40, op := Op.load 22 (Operand.tmp 39), type := 22, pos := "code.go:171", after := #[{ on := 0, ground := .data }], guard := none }) (v := ?v1nc9) ?a1nc9 ?b1nc9 ?c1nc9 ?d1nc9 ?e1nc9 (fun _ _ _ h => ⟨h.1, Door.put h.2.1 (by decide) (by decide), h.2.2⟩) (Or.inl ⟨?f1nc9, ?y1nc9⟩) (by assumption) ?r1nc9
    case a1nc9 => rfl
    case b1nc9 => kernel_rfl
    case c1nc9 => kernel_rfl
    case d1nc9 => kernel_rfl
    case e1nc9 => kernel_rfl
    case f1nc9 => rfl
    case y1nc9 => (intro w' hSw; (try dsimp only at hSw); go_simp; try with_reducible rfl)
    try simp only [Act.put, List.setIfInBounds_toArray, List.set_cons_zero, List.set_cons_succ]
    refine AnyJ.take (i := 2) (oi := { dst := some 41, op := Op.move (Operand.tmp 4), type := 75, pos := "code.go:171", after := #[], guard := none }) (v := ?v2nc10) ?a2nc10 ?b2nc10 ?c2nc10 ?d2nc10 ?e2nc10 (fun _ _ _ h => ⟨h.1, Door.put h.2.1 (by decide) (by decide), h.2.2⟩) (Or.inl ⟨?f2nc10, ?y2nc10⟩) (by assumption) ?r2nc10
    case a2nc10 => rfl
    case b2nc10 => kernel_rfl
    case c2nc10 => kernel_rfl
    case d2nc10 => kernel_rfl
    case e2nc10 => kernel_rfl
    case f2nc10 => rfl
    case y2nc10 => (intro w' hSw; (try dsimp only at hSw); go_simp; try with_reducible rfl)
    try simp only [Act.put, List.setIfInBounds_toArray, List.set_cons_zero, List.set_cons_succ]
    refine AnyJ.take (i := 3) (oi := { dst := some 42, op := Op.makeInterface 75 (Operand.tmp 41), type := 89, pos := "code.go:171", after := #[{ on := 2, ground := .data }], guard := none }) (v := ?v3nc11) ?a3nc11 ?b3nc11 ?c3nc11 ?d3nc11 ?e3nc11 (fun _ _ _ h => ⟨h.1, Door.put h.2.1 (by decide) (by decide), h.2.2⟩) (Or.inl ⟨?f3nc11, ?y3nc11⟩) (by assumption) ?r3nc11
    case a3nc11 => rfl
    case b3nc11 => kernel_rfl
    case c3nc11 => kernel_rfl
    case d3nc11 => kernel_rfl
    case e3nc11 => kernel_rfl
    case f3nc11 => rfl
    case y3nc11 => (intro w' hSw; (try dsimp only at hSw); go_simp; try with_reducible rfl)
    try simp only [Act.put, List.setIfInBounds_toArray, List.set_cons_zero, List.set_cons_succ]
    refine AnyJ.take (i := 4) (oi := { dst := some 43, op := Op.move (Operand.tmp 5), type := 9, pos := "code.go:171", after := #[], guard := none }) (v := ?v4nc12) ?a4nc12 ?b4nc12 ?c4nc12 ?d4nc12 ?e4nc12 (fun _ _ _ h => ⟨h.1, Door.put h.2.1 (by decide) (by decide), h.2.2⟩) (Or.inl ⟨?f4nc12, ?y4nc12⟩) (by assumption) ?r4nc12
    case a4nc12 => rfl
    case b4nc12 => kernel_rfl
    case c4nc12 => kernel_rfl
    case d4nc12 => kernel_rfl
    case e4nc12 => kernel_rfl
    case f4nc12 => rfl
    case y4nc12 => (intro w' hSw; (try dsimp only at hSw); go_simp; try with_reducible rfl)
    try simp only [Act.put, List.setIfInBounds_toArray, List.set_cons_zero, List.set_cons_succ]
    refine AnyJ.one (i := 5) (o := { dst := some 44, op := Op.call { callee := Callee.value (Operand.func 45), args := #[Operand.tmp 43], argTypes := #[9] }, type := 3, pos := "code.go:171", after := #[{ on := 4, ground := .data }], guard := none }) ?pc13 ?qc13 ?_
    case pc13 => kernel_rfl
    case qc13 => rfl
    intro K' hK
    go_simp
    refine (named_any _ v HWT.out).mono ?_
    rintro e w7 ⟨rfl, hw7⟩
    subst hw7
    have X7 := HC.out.upd HU0.out hpl
    refine hK.out _ _ (.inr (X7.cellv rfl)) ?_; clear hK K'
    try simp only [Act.put, List.setIfInBounds_toArray, List.set_cons_zero, List.set_cons_succ]
    refine AnyJ.one (i := 6) (o := { dst := some 45, op := Op.call { callee := Callee.value (Operand.func 34), args := #[Operand.tmp 42, Operand.tmp 44], argTypes := #[89, 3] }, type := 48, pos := "code.go:171", after := #[{ on := 3, ground := .data }, { on := 5, ground := .data }, { on := 5, ground := .chain }], guard := none }) ?pc14 ?qc14 ?_
    case pc14 => kernel_rfl
    case qc14 => rfl
    intro K' hK
    go_simp
    refine (fieldsT_any _ S lb q (nameOf v : Nat) HLD.out (fun b hb => by have := hS b hb; have := X7.lt; omega)).mono ?_
    rw [HF.out]
    rintro e w8 ⟨B, cc, rfl, hO8, hL8, hU8⟩
    have U8 := HU0.out.trans hU8 (fun _ _ h => h)
    have X8 := HC.out.upd U8 hpl
    have hs7 := HU0.out.size
    refine hK.out _ _ (.inr (X8.cellv rfl)) ?_; clear hK K'
    try simp only [Act.put, List.setIfInBounds_toArray, List.set_cons_zero, List.set_cons_succ]
    refine AnyJ.one (i := 7) (o := { dst := some 46, op := Op.buildSlice 22 1 #[(0, Operand.tmp 45)], type := 22, pos := "code.go:171", after := #[{ on := 6, ground := .data }], guard := none }) ?pc15 ?qc15 ?_
    case pc15 => kernel_rfl
    case qc15 => rfl
    intro K' hK
    go_simp
    have U9 := U8.alloc (.cells #[.int .i64 x.op, .int .i64 x.x, .int .i64 x.y, .int .i64 x.arg, .slice B x.rs.length cc] 48)
    have X9 := HC.out.upd U9 hpl
    have hs8 := U8.size
    refine hK.out _ _ (.inr (X9.cellv rfl)) ?_; clear hK K'
    try simp only [Act.put, List.setIfInBounds_toArray, List.set_cons_zero, List.set_cons_succ]
    refine AnyJ.one (i := 8) (o := { dst := some 47, op := Op.call { callee := Callee.builtin Builtin.append, args := #[Operand.tmp 40, Operand.tmp 46], argTypes := #[22, 22] }, type := 22, pos := "code.go:171", after := #[{ on := 1, ground := .data }, { on := 7, ground := .data }, { on := 6, ground := .chain }], guard := none }) ?pc16 ?qc16 ?_
    case pc16 => kernel_rfl
    case qc16 => rfl
    intro K' hK
    have P9 := HP.out.upd U9 (fun b hb (e : b = lb) => by omega)
    have O9 : (w8.alloc (.cells #[.int .i64 x.op, .int .i64 x.x, .int .i64 x.y, .int .i64 x.arg, .slice B x.rs.length cc] 48)).ownsRow base 50 2 (.slice B x.rs.length cc) x.rs.length (pairv x.rs) := own_base (own_upd hO8 ((Upd.refl Nob w8).alloc _) (fun _ _ => not_nob)) (fun b hb => by have := own_lo hO8 hb; omega)
    refine step_append_lies _ rfl (.tmp 40) (.tmp 46) 22 rfl base 48 i0 _ 5 56 Tryd.underlying22 hi0 hz0 hz1 hz2 rfl (by decide) (.slice A is.length c) is.length (flatI is gs) (by rfl) P9.row ⟨w8.heap.size, 0, none⟩ 1 1 (instCells x B x.rs.length cc).toList (by rfl) (by rfl) (World.news_of_block (cs := instCells x B x.rs.length cc) (t := 48) (fr := (0, 0)) (heap_alloc_new w8 _)) (by intro u hu; simp [instCells] at hu; rcases hu with rfl | rfl | rfl | rfl | rfl <;> rfl) (by decide) (by unfold maxLen; omega) (by omega) (by simp; omega) (w8.heap.size + 1) (by simp) ?_
    intro gN cN wN oN gr hat hltN
    have OB := fun b (hb : (Value.slice A is.length c).ownBlock = some b) => own_lo P9.row hb
    have UN := (U9.mono (G := fun b => b = pb ∨ b = lb ∨ base ≤ b) (fun b _ h => .inr (.inl h))).grown gr (fun b hb _ => .inr (.inr (OB b hb)))
    have UB := (Upd.refl (fun b => (Value.slice A is.length c).ownBlock = some b) (w8.alloc (.cells #[.int .i64 x.op, .int .i64 x.x, .int .i64 x.y, .int .i64 x.arg, .slice B x.rs.length cc] 48))).grown gr (fun b hb _ => hb)
    have XN := X9.upd UB (own_ne P9.row X9 (by decide))
    have PN := P9.more O9 (fun i B' cc' b hg hb hb2 => by have hi := (List.getElem?_eq_some_iff.1 hg).1; have h1 := HPA.out i B' cc' b hg hb; have h2 := own_lo hO8 (ownBlock_map.2 hb2); omega) oN gr
    have LN := (hL8.upd ((Upd.refl Nob w8).alloc (.cells #[.int .i64 x.op, .int .i64 x.x, .int .i64 x.y, .int .i64 x.arg, .slice B x.rs.length cc] 48)) not_nob (fun _ _ => not_nob)).upd UB (fun h => by have := OB lb h; omega) (fun b hb h => by have h1 := OB b h; have h2 := hS b hb; omega)
    refine hK.out _ _ (.inr (XN.cellv rfl)) ?_; clear hK K'
    try simp only [Act.put, List.setIfInBounds_toArray, List.set_cons_zero, List.set_cons_succ]
    have x4 : wN.cell? ⟨pb, 0, none⟩ = some (.slice A is.length c) := XN.cellv rfl
    have z4 : wN.frozen? ⟨pb, 0, none⟩ = false := XN.frozen _
    refine AnyJ.take (i := 9) (oi := { dst := some 48, op := Op.fieldAddr 24 (Operand.tmp 2) 0, type := 0, pos := "code.go:171", after := #[{ on := 0, ground := .phase }, { on := 1, ground := .phase }, { on := 2, ground := .phase }, { on := 3, ground := .phase }, { on := 4, ground := .phase }, { on := 5, ground := .phase }, { on := 6, ground := .phase }, { on := 7, ground := .phase }, { on := 8, ground := .phase }], guard := none }) (v := ?v9nc17) ?a9nc17 ?b9nc17 ?c9nc17 ?d9nc17 ?e9nc17 (fun _ _ _ h => ⟨h.1, Door.put h.2.1 (by decide) (by decide), h.2.2⟩) (Or.inl ⟨?f9nc17, ?y9nc17⟩) (by assumption) ?r9nc17
    case a9nc17 => rfl
    case b9nc17 => kernel_rfl
    case c9nc17 => kernel_rfl
    case d9nc17 => kernel_rfl
    case e9nc17 => kernel_rfl
    case f9nc17 => rfl
    case y9nc17 => (intro w' hSw; (try dsimp only at hSw); go_simp; try with_reducible rfl)
    try simp only [Act.put, List.setIfInBounds_toArray, List.set_cons_zero, List.set_cons_succ]
    refine AnyJ.one (i := 10) (o := { dst := none, op := Op.store 22 (Operand.tmp 48) (Operand.tmp 47), type := 0, pos := "code.go:171", after := #[{ on := 9, ground := .data }, { on := 8, ground := .data }, { on := 8, ground := .chain }, { on := 0, ground := .phase }, { on := 1, ground := .phase }, { on := 2, ground := .phase }, { on := 3, ground := .phase }, { on := 4, ground := .phase }, { on := 5, ground := .phase }, { on := 6, ground := .phase }, { on := 7, ground := .phase }, { on := 8, ground := .phase }], guard := none }) ?pc18 ?qc18 ?_
    case pc18 => kernel_rfl
    case qc18 => rfl
    intro K' hK
    go_simp
    refine hK.out _ _ (.inl rfl) ?_; clear hK K'
    refine AnyJ.done ?_ ?_ _
    · kernel_rfl
    have XE := XN.set_ 0 (.slice (some ⟨gN, 0, none⟩) (is.length + 1) cN)
    have UE := (Upd.refl (fun b => b = pb) wN).setCell ⟨pb, 0, none⟩ (.slice (some ⟨gN, 0, none⟩) (is.length + 1) cN) (fun _ => rfl)
    exact HY.out _ _ rfl _ _ _ _ _ _ _ _ _ _ _ _ _ _ XE (PN.upd UE (fun b hb (e : b = pb) => by omega)) (LN.upd UE (fun e => by omega) (fun b hb (e : b = pb) => by have := hS b hb; omega)) (UN.trans UE (fun b _ h => .inl h))
end Go.Proofs.YtdbdokjlcdogiaaDoor

/-
  The ways out of code.Read. Printed by tools/mkReadA.py.
-/
namespace Go.Proofs.YtdbdokjlcdogiaaDoor
open Go.RowKit
set_option linter.unusedVariables false

set_option maxRecDepth 100000 in
theorem read_catch (pb eb : Nat) (v0 v1 v2 v3 : Value) (w : World) (hp : Cells w pb 24 #[v0, v1, v2]) (he : Cells w eb 31 #[v3]) (hne : pb ≠ eb) :
    CallsD Tryd.prog 42 #[.pointer (some ⟨pb, 0, none⟩), .pointer (some ⟨eb, 0, none⟩)] (.panicking brokenP) w fun e u' w' =>
      e = .returned (.tuple #[]) ∧ u' = .panicking caughtP ∧ ∃ w1, Upd Nob w w1 ∧ w' = laidW w1 pb eb 100 := by
  unfold brokenP
  refine callsD_of_wpS Tryd.func42 rfl fun c₀ cs hu => ?_
  apply wpS_seq
  apply wpS_region
  simp [wpOpsS, go_sem, recoverD, hu, Tryd.ntmps42, Exit.thenS]
  refine (given_broken w).mono ?_
  rintro e w1 ⟨rfl, hU⟩
  simp only
  have hp1 := hp.upd hU not_nob
  have he1 := he.upd hU not_nob
  have c0 := hp1.cellv (i := 0) rfl
  have c1 := hp1.cellv (i := 1) rfl
  have c2 := hp1.cellv (i := 2) rfl
  have c3 := he1.cellv (i := 0) rfl
  have f0 := hp1.frozen 0
  have f1 := hp1.frozen 1
  have f2 := hp1.frozen 2
  have f3 := he1.frozen 0
  refine wpS_cond (t := true) (by simp [Act.eval, Array.replicate]) ?_
  simp only [if_true]
  apply wpS_region
  simp [wpOpsS, go_sem, c0, c1, c2, c3, f0, f1, f2, f3, bodyPostS, results, Tryd.results42]
  exact ⟨rfl, w1, hU, rfl⟩
theorem read_idle (pb eb : Nat) (w : World) :
    CallsD Tryd.prog 42 #[.pointer (some ⟨pb, 0, none⟩), .pointer (some ⟨eb, 0, none⟩)] .returning w fun e u' w' =>
      e = .returned (.tuple #[]) ∧ u' = .returning ∧ w' = w := by
  refine callsD_of_wpS Tryd.func42 rfl fun c₀ cs hu => ?_
  apply wpS_seq
  apply wpS_region
  simp [wpOpsS, go_sem, recoverD, hu, Tryd.ntmps42, Exit.thenS]
  refine (given_nil w).mono ?_
  rintro e w1 ⟨rfl, rfl⟩
  simp only
  refine wpS_cond (t := false) (by simp [Act.eval, Array.replicate]) ?_
  simp only [Bool.false_eq_true, if_false]
  refine wpS_of_wp (wp_skip ?_)
  cases c₀
  simp_all [bodyPostS, results, Tryd.results42]
theorem read_res (a : Act) (pb eb : Nat) (v0 v1 v2 v3 : Value) (w : World) (hd : Door 42 a pb eb) (hp : Cells w pb 24 #[v0, v1, v2]) (he : Cells w eb 31 #[v3]) :
    (results Tryd.f20 a.tmps).run Tryd.prog w = .ok (.tuple #[.agg #[v0, v1, v2], v3]) w := by
  have c0 := hp.cellv (i := 0) rfl
  have c1 := hp.cellv (i := 1) rfl
  have c2 := hp.cellv (i := 2) rfl
  have c3 := he.cellv (i := 0) rfl
  have h2 := hd.p
  have h3 := hd.e
  simp [results, Tryd.results20, go_sem, c0, c1, c2, c3, h2, h3]
theorem read_no (P : Ending → World → Prop) (a : Act) (pb eb : Nat) (v0 v1 v2 v3 : Value) (w : World) (hd : Door 42 a pb eb) (hp : Cells w pb 24 #[v0, v1, v2]) (he : Cells w eb 31 #[v3]) (hne : pb ≠ eb)
    (hP : ∀ w', Upd (fun b => b = pb ∨ b = eb) w w' → P (.returned (.tuple #[.agg #[.slice none 0 0, .int .i64 0, .int .i64 0], .int .i64 100])) w') :
    bodyPostD Tryd.prog Tryd.f20 P (.panic brokenP) a w := by
  show Leaves Tryd.prog Tryd.f20 a.tmps P a.defers (.panicking brokenP) w
  rw [hd.d]
  refine leaves_cons (f := 42) (args := #[.pointer (some ⟨pb, 0, none⟩), .pointer (some ⟨eb, 0, none⟩)]) (by simp) (by simp [go_sem]) ?_
  refine (read_catch pb eb v0 v1 v2 v3 w hp he hne).mono ?_
  rintro e u' w'' ⟨rfl, rfl, w1, hU, rfl⟩
  have hp1 := hp.upd hU not_nob
  have he1 := he.upd hU not_nob
  have hp2 : Cells (laidW w1 pb eb 100) pb 24 #[.slice none 0 0, .int .i64 0, .int .i64 0] := (((hp1.set_ 0 (.slice none 0 0)).set_ 1 (.int .i64 0)).set_ 2 (.int .i64 0)).far ⟨eb, 0, none⟩ _ hne
  have he2 : Cells (laidW w1 pb eb 100) eb 31 #[.int .i64 100] := (((he1.far ⟨pb, 0, none⟩ (.slice none 0 0) hne.symm).far ⟨pb, 1, none⟩ (.int .i64 0) hne.symm).far ⟨pb, 2, none⟩ (.int .i64 0) hne.symm).set_ 0 (.int .i64 100)
  have hU2 : Upd (fun b => b = pb ∨ b = eb) w (laidW w1 pb eb 100) := ((((hU.mono (G := fun b => b = pb ∨ b = eb) (fun _ _ h => absurd h not_nob)).setCell _ _ (fun _ => .inl rfl)).setCell _ _ (fun _ => .inl rfl)).setCell _ _ (fun _ => .inl rfl)).setCell _ _ (fun _ => .inr rfl)
  exact ⟨_, read_res a pb eb _ _ _ _ _ hd hp2 he2, hP _ hU2⟩
theorem read_yes (P : Ending → World → Prop) (a : Act) (pb eb : Nat) (v0 v1 v2 v3 : Value) (w : World) (hd : Door 42 a pb eb) (hp : Cells w pb 24 #[v0, v1, v2]) (he : Cells w eb 31 #[v3])
    (hP : P (.returned (.tuple #[.agg #[v0, v1, v2], v3])) w) :
    bodyPostD Tryd.prog Tryd.f20 P .ret a w := by
  show Leaves Tryd.prog Tryd.f20 a.tmps P a.defers .returning w
  rw [hd.d]
  refine leaves_cons (f := 42) (args := #[.pointer (some ⟨pb, 0, none⟩), .pointer (some ⟨eb, 0, none⟩)]) (by simp) (by simp [go_sem]) ?_
  refine (read_idle pb eb w).mono ?_
  rintro e u' w'' ⟨rfl, rfl, rfl⟩
  exact ⟨_, read_res a pb eb _ _ _ _ _ hd hp he, hP⟩
end Go.Proofs.YtdbdokjlcdogiaaDoor
