/-
  Insts, Nums, Held, put together.
-/
import Derived.Test.YtdbdokjlcdogiaaDoorZMay
import Derived.Test.YtdbdokjlcdogiaaDoorZ03LoadN
import Derived.OrdersHeld
import Derived.StillTail
import Derived.RegionTactic
import Derived.Deep.RegionHeld

/-
  A program's instructions in memory: five cells each, the last one a slice of ranges.
-/
namespace Go.Proofs.YtdbdokjlcdogiaaDoor
open Go.RowKit
set_option linter.unusedVariables false

/-- the cells of an instruction, its slice of ranges given -/
def instCells (x : PInst) (B : Option Addr) (m c : Nat) : Array Value := #[.int .i64 x.op, .int .i64 x.x, .int .i64 x.y, .int .i64 x.arg, .slice B m c]

/-- The slice reads as instructions; their ranges lie in blocks of which S holds. -/
structure InstsR (w : World) (S : Nat → Prop) (A : Option Addr) (n : Nat) (is : List PInst) : Prop where
  len : is.length = n
  at_ : ∀ i x, is[i]? = some x → ∃ ad g o B m c, A = some ad ∧ ad.add (i * 5) = ⟨g, o, none⟩ ∧ S g ∧ g < w.heap.size ∧ RangesR w S B m x.rs ∧ In64I x ∧
    ∀ j v, (instCells x B m c)[j]? = some v → w.cell? ⟨g, o + j, none⟩ = some v

namespace InstsR
variable {w w' : World} {S F : Nat → Prop} {A : Option Addr} {n : Nat} {is : List PInst}
theorem upd (h : InstsR w S A n is) (hU : Upd F w w') (hF : ∀ k, S k → ¬ F k) : InstsR w' S A n is :=
  ⟨h.len, fun i x hx => by
    obtain ⟨ad, g, o, B, m, c, e, e2, hs, hg, hr, hi, hc⟩ := h.at_ i x hx
    exact ⟨ad, g, o, B, m, c, e, e2, hs, Nat.lt_of_lt_of_le hg hU.size, hr.upd hU hF, hi, fun j v hv => (hU.cell (p := ⟨g, o + j, none⟩) hg (hF _ hs)).trans (hc j v hv)⟩⟩
theorem at1 (h : InstsR w S A n is) {i : Nat} (hi : i < n) : ∃ ad g o x B m c, A = some ad ∧ is[i]? = some x ∧ ad.add (i * 5) = ⟨g, o, none⟩ ∧ S g ∧ g < w.heap.size ∧ RangesR w S B m x.rs ∧ In64I x ∧
    w.cell? ⟨g, o, none⟩ = some (.int .i64 x.op) ∧ w.cell? ⟨g, o + 1, none⟩ = some (.int .i64 x.x) ∧ w.cell? ⟨g, o + 2, none⟩ = some (.int .i64 x.y) ∧ w.cell? ⟨g, o + 3, none⟩ = some (.int .i64 x.arg) ∧ w.cell? ⟨g, o + 4, none⟩ = some (.slice B m c) := by
  have hl : i < is.length := by rw [h.len]; exact hi
  have hx := List.getElem?_eq_getElem hl
  obtain ⟨ad, g, o, B, m, c, e, e2, hs, hg, hr, hI, hc⟩ := h.at_ i _ hx
  exact ⟨ad, g, o, _, B, m, c, e, hx, e2, hs, hg, hr, hI, hc 0 _ rfl, hc 1 _ rfl, hc 2 _ rfl, hc 3 _ rfl, hc 4 _ rfl⟩
end InstsR

theorem checkB_no {is : List PInst} {start caps : Int} (h : ¬ (1 ≤ is.length ∧ is.length ≤ 20000 ∧ 0 ≤ start ∧ start < is.length ∧ caps % 2 = 0 ∧ 2 ≤ caps ∧ caps ≤ 1002)) : checkB is start caps = false := by
  unfold checkB
  rw [decide_eq_false h]
  rfl
theorem checkB_in {is : List PInst} {start caps : Int} (h : 1 ≤ is.length ∧ is.length ≤ 20000 ∧ 0 ≤ start ∧ start < is.length ∧ caps % 2 = 0 ∧ 2 ≤ caps ∧ caps ≤ 1002) : checkB is start caps = (is.drop 0).all fun x => mayB x is.length caps := by
  unfold checkB
  rw [decide_eq_true h]
  rfl
theorem tmod_two (c : Int) : c.tmod 2 = 0 ↔ c % 2 = 0 := by
  rw [← Int.dvd_iff_tmod_eq_zero, ← Int.dvd_iff_emod_eq_zero]
/-- the number that Check answers -/
def errOf (b : Bool) : Int := if b then 0 else 90

set_option maxHeartbeats 1000000 in
theorem check_any (w : World) (S : Nat → Prop) (A : Option Addr) (n c : Nat) (is : List PInst) (start caps : Int) (h : InstsR w S A n is) (hs : In64 start) (hc : In64 caps) (hn : n ≤ 140737488355328) :
    Calls Tryd.prog 37 #[.agg #[.slice A n c, .int .i64 start, .int .i64 caps]] w fun e w' => e = .returned (.int .i64 (errOf (checkB is start caps))) ∧ Upd Nob w w' := by
  obtain rfl : is.length = n := h.len
  have C0 : Cells (w.alloc (.cells #[.slice A is.length c, .int .i64 start, .int .i64 caps] 24)) w.heap.size 24 #[.slice A is.length c, .int .i64 start, .int .i64 caps] := Cells.new _ _ _
  have hU := (Upd.refl Nob w).alloc (.cells #[.slice A is.length c, .int .i64 start, .int .i64 caps] 24)
  have s1 := hs.1
  have s2 := hs.2
  have k1 := hc.1
  have k2 := hc.2
  have H := hideP (h.upd hU (fun _ _ => not_nob))
  clear h
  go_enter Tryd.func37, Tryd.ntmps37
  go_upto_region 1 with fail
  generalize w.alloc (.cells #[.slice A is.length c, .int .i64 start, .int .i64 caps] 24) = w2 at *
  have bs := C0.lt
  generalize w.heap.size = b at *
  have HC := hideP C0
  have HU := hideP hU
  have e0 : w2.cell? ⟨b, 0, none⟩ = some (.slice A is.length c) := C0.cellv rfl
  have e1 : w2.cell? ⟨b, 0 + 1, none⟩ = some (.int .i64 start) := C0.cellv rfl
  have e2 : w2.cell? ⟨b, 0 + 2, none⟩ = some (.int .i64 caps) := C0.cellv rfl
  clear C0 hU
  by_cases h1 : is.length < 1
  · have hv := hideP (checkB_no (is := is) (start := start) (caps := caps) (by omega))
    go_wp2_with fail
    go_ret
    exact ⟨congrArg Ending.returned (congrArg (Value.int .i64) (by rw [hv.out]; rfl)), HU.out⟩
  by_cases h2 : 20000 < is.length
  · have hv := hideP (checkB_no (is := is) (start := start) (caps := caps) (by omega))
    go_wp2_with fail
    go_ret
    exact ⟨congrArg Ending.returned (congrArg (Value.int .i64) (by rw [hv.out]; rfl)), HU.out⟩
  by_cases h3 : start < 0
  · have hv := hideP (checkB_no (is := is) (start := start) (caps := caps) (by omega))
    go_wp2_with fail
    go_ret
    exact ⟨congrArg Ending.returned (congrArg (Value.int .i64) (by rw [hv.out]; rfl)), HU.out⟩
  by_cases h4 : (is.length : Int) ≤ start
  · have hv := hideP (checkB_no (is := is) (start := start) (caps := caps) (by omega))
    go_wp2_with fail
    go_ret
    exact ⟨congrArg Ending.returned (congrArg (Value.int .i64) (by rw [hv.out]; rfl)), HU.out⟩
  have hmod : IntKind.i64.wrap (caps.tmod 2) = caps.tmod 2 := by
    have h1 : caps.tmod 2 < 2 := Int.tmod_lt_of_pos caps (by decide)
    have h2 : -2 < caps.tmod 2 := Int.lt_tmod_of_pos caps (by decide)
    rw [IntKind.wrap_i64]
    omega
  have hmod2 := tmod_two caps
  by_cases h5 : caps.tmod 2 = 0
  rotate_left
  · have hv := hideP (checkB_no (is := is) (start := start) (caps := caps) (by omega))
    have hb : (caps.tmod 2 == 0) = false := by simpa using h5
    have hb2 : (caps.tmod 2 != 0) = true := by simpa using h5
    clear hmod2
    go_wp2_with fail
    go_ret
    exact ⟨congrArg Ending.returned (congrArg (Value.int .i64) (by rw [hv.out]; rfl)), HU.out⟩
  have hb : (caps.tmod 2 == 0) = true := by simpa using h5
  have hb2 : (caps.tmod 2 != 0) = false := by simpa using h5
  by_cases h6 : caps < 2
  · have hv := hideP (checkB_no (is := is) (start := start) (caps := caps) (by omega))
    go_wp2_with fail
    go_ret
    exact ⟨congrArg Ending.returned (congrArg (Value.int .i64) (by rw [hv.out]; rfl)), HU.out⟩
  by_cases h7 : 1002 < caps
  · have hv := hideP (checkB_no (is := is) (start := start) (caps := caps) (by omega))
    go_wp2_with fail
    go_ret
    exact ⟨congrArg Ending.returned (congrArg (Value.int .i64) (by rw [hv.out]; rfl)), HU.out⟩
  have hv := checkB_in (is := is) (start := start) (caps := caps) (by omega)
  have HV := hideP hv
  clear hv hmod2
  go_wp2_with fail
  go_loopg [45] is.length (fun gk v45 wr => ∃ k : Nat, k + gk = is.length ∧ v45 = .int .i64 (k : Int) ∧ checkB is start caps = ((is.drop k).all fun x => mayB x is.length caps) ∧ Upd Nob w2 wr)
  case atStart => exact ⟨0, by omega, rfl, HV.out, Upd.refl _ _⟩
  case round =>
    obtain ⟨k, hk, rfl, hq, hU⟩ := hrel
    have HQ := hideP hq
    clear hq
    by_cases hlt : k < is.length
    · obtain ⟨ad, g, o, x, B, m, c', rfl, hx, hadd, -, hg, hR, hI, c0, c1, c2, c3, c4⟩ := (H.out.upd hU (fun _ _ => not_nob)).at1 hlt
      have hstep := all_drop (fun x => mayB x is.length caps) hx
      obtain ⟨op, xx, yy, arg, rs⟩ := x
      simp only at c0 c1 c2 c3 hR hI
      have HX := hideP hx
      have HS := hideP hstep
      have HR := hideP hR
      have HI := hideP hI
      clear hx hstep hR hI
      have C2 : Cells (wr.alloc (.cells #[.int .i64 op, .int .i64 xx, .int .i64 yy, .int .i64 arg, .slice B m c'] 48)) wr.heap.size 48 #[.int .i64 op, .int .i64 xx, .int .i64 yy, .int .i64 arg, .slice B m c'] := Cells.new _ _ _
      have hU1 := (Upd.refl Nob wr).alloc (.cells #[.int .i64 op, .int .i64 xx, .int .i64 yy, .int .i64 arg, .slice B m c'] 48)
      have hU2 := hU.alloc (.cells #[.int .i64 op, .int .i64 xx, .int .i64 yy, .int .i64 arg, .slice B m c'] 48)
      go_upto_region 7 with fail
      generalize wr.alloc (.cells #[.int .i64 op, .int .i64 xx, .int .i64 yy, .int .i64 arg, .slice B m c'] 48) = w4 at *
      generalize wr.heap.size = xb at *
      have l0 : w4.cell? ⟨xb, 0, none⟩ = some (.int .i64 op) := C2.cellv rfl
      have l1 : w4.cell? ⟨xb, 0 + 1, none⟩ = some (.int .i64 xx) := C2.cellv rfl
      have l2 : w4.cell? ⟨xb, 0 + 2, none⟩ = some (.int .i64 yy) := C2.cellv rfl
      have l3 : w4.cell? ⟨xb, 0 + 3, none⟩ = some (.int .i64 arg) := C2.cellv rfl
      have l4 : w4.cell? ⟨xb, 0 + 4, none⟩ = some (.slice B m c') := C2.cellv rfl
      have b2 : w4.cell? ⟨b, 0 + 2, none⟩ = some (.int .i64 caps) := (HC.out.upd hU2 not_nob).cellv rfl
      have HU2 := hideP hU2
      have HR2 := hideP (HR.out.upd hU1 (fun _ _ => not_nob))
      clear C2 c0 c1 c2 c3 c4 hadd hU hU1 hU2 hg
      rcases hm : mayB ⟨op, xx, yy, arg, rs⟩ is.length caps with _ | _
      · have hv : checkB is start caps = false := by rw [HQ.out, HS.out, hm]; rfl
        have HV1 := hideP hv
        clear hv
        go_wp2_with (go_at_call 57; refine (may_any _ S op xx yy arg rs HI.out B m c' HR2.out is.length caps).mono ?_; rintro e w5 ⟨he, hU5⟩; rw [hm] at he; subst he)
        go_ret
        exact ⟨congrArg Ending.returned (congrArg (Value.int .i64) (by rw [HV1.out]; rfl)), HU.out.trans (HU2.out.trans hU5 (fun _ _ h => h)) (fun _ _ h => h)⟩
      · have hv : checkB is start caps = ((is.drop (k + 1)).all fun x => mayB x is.length caps) := by rw [HQ.out, HS.out, hm]; rfl
        have HV1 := hideP hv
        clear hv
        go_wp2_with (go_at_call 57; refine (may_any _ S op xx yy arg rs HI.out B m c' HR2.out is.length caps).mono ?_; rintro e w5 ⟨he, hU5⟩; rw [hm] at he; subst he)
        go_roundg (is.length - (k + 1))
        case measure => omega
        case rel => exact ⟨k + 1, by omega, by go_num, HV1.out, HU2.out.trans hU5 (fun _ _ h => h)⟩
    · have hkn : k = is.length := by omega
      have hv : checkB is start caps = true := by rw [HQ.out, hkn, List.drop_length]; rfl
      have HV1 := hideP hv
      clear hk hv
      subst hkn
      go_wp2_with fail
      go_ret
      exact ⟨congrArg Ending.returned (congrArg (Value.int .i64) (by rw [HV1.out]; rfl)), HU.out.trans hU (fun _ _ h => h)⟩
end Go.Proofs.YtdbdokjlcdogiaaDoor

/-
  The walks of code.numbers and heronref10.fields: an instruction's numbers.
-/
namespace Go.Proofs.YtdbdokjlcdogiaaDoor
open Go.RowKit
set_option linter.unusedVariables false

def flatR : List (Int × Int) → List Int
  | [] => []
  | r :: l => r.1 :: r.2 :: flatR l
/-- an instruction's numbers -/
def numsOf (x : PInst) : List Int :=
  if x.op = 1 then x.x :: (x.rs.length : Int) :: flatR x.rs
  else if x.op = 2 then [x.x, x.y]
  else if x.op = 3 ∨ x.op = 4 then [x.arg, x.x]
  else if x.op = 5 then [x.arg]
  else if x.op = 7 then [x.x]
  else []
theorem flatR_step {l : List (Int × Int)} {k : Nat} {r : Int × Int} (h : l[k]? = some r) : flatR (l.take (k + 1)) = flatR (l.take k) ++ [r.1, r.2] := by
  have ha : ∀ (a b : List (Int × Int)), flatR (a ++ b) = flatR a ++ flatR b := fun a b => by
    induction a with
    | nil => rfl
    | cons x a ih => simp [flatR, ih]
  rw [List.take_add_one, h, ha]
  rfl
theorem own_lit {w : World} (cs : Array Value) (t : TypeId) (h : cs.size ≤ maxLen) : (w.alloc (.cells cs t)).ownsRow w.heap.size t 1 (.slice (some ⟨w.heap.size, 0, none⟩) cs.size cs.size) cs.size cs.toList :=
  ⟨by simp, .inr ⟨w.heap.size, cs.size, cs, rfl, Nat.le_refl _, heap_alloc_new _ _, Nat.le_refl _, h, by simp, by rw [List.take_of_length_le (by simp)]⟩⟩
theorem nuinfo_int : (Tryd.prog.info? 3).map (fun i => (i.zero, i.size, i.bytes)) = some (some (.int .i64 0), 1, 8) := by kernel_rfl
theorem own_lo {w : World} {base e n size : Nat} {v : Value} {xs : List Value} (h : w.ownsRow base e size v n xs) {g : Nat} (hg : v.ownBlock = some g) : base ≤ g := by
  obtain ⟨-, h | ⟨b, cap, cur, rfl, hb, -⟩⟩ := h
  · obtain ⟨h1, -⟩ := h
    subst h1
    cases hg
  · simp [Value.ownBlock] at hg
    omega
def NumsAns (w : World) (l : List Int) (e : Ending) (w' : World) : Prop := ∃ A c, e = .returned (.slice A l.length c) ∧ w'.ownsRow w.heap.size 3 1 (.slice A l.length c) l.length (l.map (Value.int .i64)) ∧ Upd Nob w w'

set_option maxRecDepth 100000 in
set_option maxHeartbeats 4000000 in
theorem numbers_any (w : World) (S : Nat → Prop) (B : Option Addr) (c : Nat) (x : PInst) (h : RangesR w S B x.rs.length x.rs) (hf : x.rs.length ≤ 5000) :
    Calls Tryd.prog 39 #[.agg #[.int .i64 x.op, .int .i64 x.x, .int .i64 x.y, .int .i64 x.arg, .slice B x.rs.length c]] w (NumsAns w (numsOf x)) := by
  have C0 := Cells.new w 48 #[.int .i64 x.op, .int .i64 x.x, .int .i64 x.y, .int .i64 x.arg, .slice B x.rs.length c]
  have hU := (Upd.refl Nob w).alloc (.cells #[.int .i64 x.op, .int .i64 x.x, .int .i64 x.y, .int .i64 x.arg, .slice B x.rs.length c] 48)
  have HR := hideP h
  clear h
  generalize hP : NumsAns w (numsOf x) = P
  have HP := hideP (show ∀ l A c w', numsOf x = l → w'.ownsRow w.heap.size 3 1 (.slice A l.length c) l.length (l.map (Value.int .i64)) → Upd Nob w w' → P (.returned (.slice A l.length c)) w' from fun l A c w' h1 h2 h3 => by rw [← hP, h1]; exact ⟨A, c, rfl, h2, h3⟩)
  clear hP
  obtain ⟨i0, hi0, hz0, hz1, hz2⟩ := info_parts nuinfo_int
  go_enter Tryd.func39, Tryd.ntmps39
  go_upto_region 1 with fail
  generalize w.alloc (.cells #[.int .i64 x.op, .int .i64 x.x, .int .i64 x.y, .int .i64 x.arg, .slice B x.rs.length c] 48) = w2 at *
  have HU := hideP hU
  have hsz := hU.size
  have HC := hideP C0
  have e0 : w2.cell? ⟨w.heap.size, 0, none⟩ = some (.int .i64 x.op) := C0.cellv rfl
  have e1 : w2.cell? ⟨w.heap.size, 1, none⟩ = some (.int .i64 x.x) := C0.cellv rfl
  have e2 : w2.cell? ⟨w.heap.size, 2, none⟩ = some (.int .i64 x.y) := C0.cellv rfl
  have e3 : w2.cell? ⟨w.heap.size, 3, none⟩ = some (.int .i64 x.arg) := C0.cellv rfl
  have e4 : w2.cell? ⟨w.heap.size, 4, none⟩ = some (.slice B x.rs.length c) := C0.cellv rfl
  clear C0 hU
  have HE := hideP (show ∀ a b : Int, ¬ a = b → (a == b) = false from fun a b h => by simpa using h)
  by_cases h2 : x.op = 2
  · have k1 : (x.op == 1) = false := by rw [h2]; rfl
    have k2 : (x.op == 2) = true := by rw [h2]; rfl
    have HQ := hideP (show numsOf x = [x.x, x.y] by unfold numsOf; rw [if_neg (by omega), if_pos h2])
    clear h2
    go_wp2_with fail
    try go_ret
    have ho := own_base (base' := w.heap.size) (own_lit (w := w2) #[.int .i64 x.x, .int .i64 x.y] 3 (by unfold maxLen; simp)) (fun g hg => by simp [Value.ownBlock] at hg; omega)
    exact HP.out [x.x, x.y] _ _ _ HQ.out ho (HU.out.alloc _)
  by_cases h3 : x.op = 3
  · skip
    have k1 : (x.op == 1) = false := by rw [h3]; rfl
    have k2 : (x.op == 2) = false := by rw [h3]; rfl
    have k3 : (x.op == 3) = true := by rw [h3]; rfl
    have HQ := hideP (show numsOf x = [x.arg, x.x] by unfold numsOf; rw [if_neg (by omega), if_neg (by omega), if_pos (by omega)])
    clear h3
    go_wp2_with fail
    try go_ret
    have ho := own_base (base' := w.heap.size) (own_lit (w := w2) #[.int .i64 x.arg, .int .i64 x.x] 3 (by unfold maxLen; simp)) (fun g hg => by simp [Value.ownBlock] at hg; omega)
    exact HP.out [x.arg, x.x] _ _ _ HQ.out ho (HU.out.alloc _)
  by_cases h4 : x.op = 4
  · skip
    have k1 : (x.op == 1) = false := by rw [h4]; rfl
    have k2 : (x.op == 2) = false := by rw [h4]; rfl
    have k3 : (x.op == 3) = false := by rw [h4]; rfl
    have k4 : (x.op == 4) = true := by rw [h4]; rfl
    have HQ := hideP (show numsOf x = [x.arg, x.x] by unfold numsOf; rw [if_neg (by omega), if_neg (by omega), if_pos (by omega)])
    clear h4
    go_wp2_with fail
    try go_ret
    have ho := own_base (base' := w.heap.size) (own_lit (w := w2) #[.int .i64 x.arg, .int .i64 x.x] 3 (by unfold maxLen; simp)) (fun g hg => by simp [Value.ownBlock] at hg; omega)
    exact HP.out [x.arg, x.x] _ _ _ HQ.out ho (HU.out.alloc _)
  by_cases h5 : x.op = 5
  · skip
    have k1 : (x.op == 1) = false := by rw [h5]; rfl
    have k2 : (x.op == 2) = false := by rw [h5]; rfl
    have k3 : (x.op == 3) = false := by rw [h5]; rfl
    have k4 : (x.op == 4) = false := by rw [h5]; rfl
    have k5 : (x.op == 5) = true := by rw [h5]; rfl
    have HQ := hideP (show numsOf x = [x.arg] by unfold numsOf; rw [if_neg (by omega), if_neg (by omega), if_neg (by omega), if_pos h5])
    clear h5
    go_wp2_with fail
    try go_ret
    have ho := own_base (base' := w.heap.size) (own_lit (w := w2) #[.int .i64 x.arg] 3 (by unfold maxLen; simp)) (fun g hg => by simp [Value.ownBlock] at hg; omega)
    exact HP.out [x.arg] _ _ _ HQ.out ho (HU.out.alloc _)
  by_cases h7 : x.op = 7
  · skip
    have k1 : (x.op == 1) = false := by rw [h7]; rfl
    have k2 : (x.op == 2) = false := by rw [h7]; rfl
    have k3 : (x.op == 3) = false := by rw [h7]; rfl
    have k4 : (x.op == 4) = false := by rw [h7]; rfl
    have k5 : (x.op == 5) = false := by rw [h7]; rfl
    have k6 : (x.op == 6) = false := by rw [h7]; rfl
    have k7 : (x.op == 7) = true := by rw [h7]; rfl
    have HQ := hideP (show numsOf x = [x.x] by unfold numsOf; rw [if_neg (by omega), if_neg (by omega), if_neg (by omega), if_neg (by omega), if_pos h7])
    clear h7
    go_wp2_with fail
    try go_ret
    have ho := own_base (base' := w.heap.size) (own_lit (w := w2) #[.int .i64 x.x] 3 (by unfold maxLen; simp)) (fun g hg => by simp [Value.ownBlock] at hg; omega)
    exact HP.out [x.x] _ _ _ HQ.out ho (HU.out.alloc _)
  by_cases h1 : x.op = 1
  · have k1 : (x.op == 1) = true := by rw [h1]; rfl
    have HQ := hideP (show numsOf x = x.x :: (x.rs.length : Int) :: flatR x.rs by unfold numsOf; rw [if_pos h1])
    clear h1 h2 h3 h4 h5 h7
    have hA := (Upd.refl Nob w2).alloc (.cells #[.int .i64 x.x, .int .i64 (x.rs.length : Int)] 3)
    have f4 : (w2.alloc (.cells #[.int .i64 x.x, .int .i64 (x.rs.length : Int)] 3)).cell? ⟨w.heap.size, 4, none⟩ = some (.slice B x.rs.length c) := (HC.out.upd hA not_nob).cellv rfl
    have HA := hideP hA
    have HO := hideP (own_base (base' := w.heap.size) (own_lit (w := w2) #[.int .i64 x.x, .int .i64 (x.rs.length : Int)] 3 (by unfold maxLen; simp)) (fun g hg => by simp [Value.ownBlock] at hg; omega))
    clear hA
    go_wp2_with fail
    clear f4 k1 e0 e1 e2 e3 e4
    generalize w2.alloc (.cells #[.int .i64 x.x, .int .i64 (x.rs.length : Int)] 3) = w3 at *
    have hs3 := HA.out.size
    generalize w2.heap.size = g0 at *
    go_loopg [3, 19] x.rs.length (fun gk v3 v19 wr => ∃ (k : Nat) (L : List Int) (A : Option Addr) (c' : Nat), k + gk = x.rs.length ∧ v19 = .int .i64 (k : Int) ∧ L = x.x :: (x.rs.length : Int) :: flatR (x.rs.take k) ∧ v3 = .slice A L.length c' ∧ L.length = 2 + 2 * k ∧ wr.ownsRow w.heap.size 3 1 (.slice A L.length c') L.length (L.map (Value.int .i64)) ∧ Upd Nob w wr)
    case atStart => exact ⟨0, [x.x, (x.rs.length : Int)], some ⟨g0, 0, none⟩, 2, by omega, rfl, by simp [flatR], rfl, rfl, HO.out, HU.out.trans HA.out (fun _ _ h => h)⟩
    case round =>
      obtain ⟨k, L, A, c', hk, rfl, hL, rfl, hLl, ho, hUr⟩ := hrel
      have HLl := hideP hLl
      clear hLl
      by_cases hlt : k < x.rs.length
      · have g1 : (k : Int) < (x.rs.length : Int) := by omega
        obtain ⟨ad, y, g, o, rfl, hy, -, -, hadd, r0, r1, -⟩ := (HR.out.upd hUr (fun _ _ => not_nob)).at1 hlt
        obtain ⟨lo, hi⟩ := y
        simp only at r0 r1
        have hst := flatR_step hy
        have HST := hideP (show L ++ [lo, hi] = x.x :: (x.rs.length : Int) :: flatR (x.rs.take (k + 1)) by rw [hL, hst]; simp)
        have hA := ((Upd.refl Nob wr).alloc (.cells #[.int .i64 lo, .int .i64 hi] 50)).alloc (.cells #[.int .i64 lo, .int .i64 hi] 3)
        have HOo := hideP ((ho.alloc (.cells #[.int .i64 lo, .int .i64 hi] 50)).alloc (.cells #[.int .i64 lo, .int .i64 hi] 3))
        have HUu := hideP (hUr.trans hA (fun _ _ h => h))
        have hsz2 := hUr.size
        have hln := HLl.out
        have hlb : L.length ≤ 20000 := by omega
        have HK := hideP hk
        clear hL hst hy ho hUr hA hk hln
        go_wp2_with (at_builtin; refine wpList_append_own_at _ rfl _ _ 71 rfl w.heap.size 3 i0 (.int .i64 0) 1 8 Tryd.underlying71 hi0 hz0 hz1 hz2 rfl (by decide) _ _ _ rfl HOo.out ⟨wr.heap.size + 1, 0, none⟩ 2 2 [(.int .i64 lo), (.int .i64 hi)] rfl rfl ?d1 ?d2 ?d3 ?d4 ?d5 ?_)
        case d1 => exact World.news_of_block (cs := #[(.int .i64 lo), (.int .i64 hi)]) (t := 3) (fr := (0, 0)) (by rw [show wr.heap.size + 1 = (wr.alloc (.cells #[.int .i64 lo, .int .i64 hi] 50)).heap.size from (by simp)]; exact heap_alloc_new _ _)
        case d2 => intro u hu; simp at hu; rcases hu with rfl | rfl <;> rfl
        case d3 => unfold maxLen; simp; omega
        case d4 => omega
        case d5 => simp; omega
        intro v8 w8 o8 g8 _ hat
        obtain ⟨A8, c8, rfl⟩ := own_shape o8
        have hU8 : Upd Nob w w8 := HUu.out.trans ((Upd.refl (fun b => (Value.slice A L.length c').ownBlock = some b) _).grown g8 (fun b hb _ => hb)) (fun b hb h => by have := own_lo HOo.out h; omega)
        have h9 : L.length + 2 = (L ++ [lo, hi]).length := by simp
        have HO8 := hideP (show w8.ownsRow w.heap.size 3 1 (.slice A8 (L ++ [lo, hi]).length c8) (L ++ [lo, hi]).length ((L ++ [lo, hi]).map (Value.int .i64)) from by rw [← h9]; simpa using o8)
        rw [h9]
        have HU8 := hideP hU8
        clear o8 g8 hat hU8 h9
        go_wp2_with fail
        have hk := HK.out
        go_roundg (x.rs.length - (k + 1))
        case measure => omega
        case rel => exact ⟨k + 1, L ++ [lo, hi], A8, c8, by omega, by go_num, HST.out, rfl, by have := HLl.out; simp; omega, HO8.out, HU8.out⟩
      · have g1 : ¬ (k : Int) < (x.rs.length : Int) := by omega
        obtain rfl : k = x.rs.length := by omega
        rw [List.take_length] at hL
        have HL := hideP hL
        have HOz := hideP ho
        have HUz := hideP hUr
        clear hL ho hUr hk
        go_wp2_with fail
        try go_ret
        exact HP.out L _ _ _ (HQ.out.trans HL.out.symm) HOz.out HUz.out
  have k1 := HE.out _ _ h1
  have k2 := HE.out _ _ h2
  have k3 := HE.out _ _ h3
  have k4 := HE.out _ _ h4
  have k5 := HE.out _ _ h5
  have k7 := HE.out _ _ h7
  have HQ := hideP (show numsOf x = [] by unfold numsOf; rw [if_neg h1, if_neg h2, if_neg (by omega), if_neg h5, if_neg h7])
  clear h1 h2 h3 h4 h5 h7
  go_wp2_with fail
  try go_ret
  exact HP.out [] none 0 _ HQ.out (World.ownsRow_nil _ _ _ _) HU.out
end Go.Proofs.YtdbdokjlcdogiaaDoor

/-
  A region that draws its order, whose LAST operation writes what its other operations load: a condition S on the world is kept by all operations but that one; what yields under S, and is awaited by that one, may be taken first. (The library's OrdersHeld asks S behind the last one, too.)
-/
namespace Go.Proofs.YtdbdokjlcdogiaaDoor
set_option linter.unusedVariables false
section
variable {P : Program} {ops : Array Oper} {Q : Exit → Act → World → Prop} {md : Region.Mode} {S : World → Prop} {n : Nat}

/-- Whatever order is picked from here on, and S holds behind each operation but number n. -/
def AnyJ (P : Program) (md : Region.Mode) (ops : Array Oper) (Q : Exit → Act → World → Prop) (S : World → Prop) (n : Nat) : Nat → Array Bool → Act → World → Prop
  | 0, listed, a, w => Region.ready md ops listed = [] ∧ Q .normal a w
  | fuel + 1, listed, a, w => (Region.ready md ops listed = [] → Q .normal a w) ∧
    ∀ i ∈ Region.ready md ops listed, wpOp P ops Q i (fun a' w' => (i = n ∨ S w') ∧ AnyJ P md ops Q S n fuel (listed.setIfInBounds i true) a' w') a w

theorem AnyJ.any : ∀ (fuel : Nat) (listed : Array Bool) (a : Act) (w : World), AnyJ P md ops Q S n fuel listed a w → wpAny P md ops Q fuel listed a w
  | 0, _, _, _, h => h
  | fuel + 1, _, _, _, h => ⟨h.1, fun i hi => wpOp_mono (fun _ _ k => AnyJ.any fuel _ _ _ k.2) (h.2 i hi)⟩

theorem AnyJ.first {i : Nat} {oi : Oper} {v : Value} (hi : ops[i]? = some oi) (hsel : ∀ (j : Nat) (o : Oper) cs b, ops[j]? = some o → o.op ≠ .select cs b)
    (hQ : ∀ c a w, Q (.panic c) (a.put oi.dst v) w → Q (.panic c) a w) (hn : Region.waitsFor md ops n i = true) :
    ∀ (fuel : Nat) (listed : Array Bool) (a : Act) (w : World),
      (∀ j oj, ops[j]? = some oj → j ≠ i → listed.getD j true = false → (∀ e ∈ oj.after, Region.binds md e = true → e.on ≠ i) → oi.apart ops oj = true) →
      i ∈ Region.ready md ops listed → YieldsIf P ops S oi v a → S w →
      AnyJ P md ops Q S n fuel (listed.setIfInBounds i true) (a.put oi.dst v) w → AnyJ P md ops Q S n (fuel + 1) listed a w := by
  obtain ⟨on, hon, en, hen, hbn, hin⟩ := Region.waitsFor_spec hn
  intro fuel
  induction fuel with
  | zero =>
    intro listed a w _ hr hy hS H
    refine ⟨fun h => (by rw [h] at hr; cases hr), fun j hj => ?_⟩
    by_cases hji : j = i
    · subst hji
      exact hy.wpOp hi hS ⟨.inr hS, H⟩
    · have hz := ready_mono hj hji
      rw [H.1] at hz
      cases hz
  | succ fuel ih =>
    intro listed a w hfree hr hy hS H
    refine ⟨fun h => (by rw [h] at hr; cases hr), fun j hj => ?_⟩
    by_cases hji : j = i
    · subst hji
      exact hy.wpOp hi hS ⟨.inr hS, H⟩
    · obtain ⟨hjun, oj, hoj, hall⟩ := mem_ready.1 hj
      have hun := (mem_ready.1 hr).1
      have hnot : ∀ e ∈ oj.after, Region.binds md e = true → e.on ≠ i := fun e he hb heq => by
        have h1 := hall e he hb
        rw [heq] at h1
        rcases Nat.lt_or_ge i listed.size with hlt | hge
        · simp [hlt] at hun h1
          rw [hun] at h1
          cases h1
        · simp [Array.getElem?_eq_none hge] at h1
      have hjn : j ≠ n := fun e => by
        subst e
        rw [hoj] at hon
        injection hon with hon
        subst hon
        exact hnot en hen hbn hin
      refine wpOp_mono (fun a' w' h3 => ?_) (wpOp_putIf hoj (hfree j oj hoj hji hjun hnot) (fun cs b => hsel i oi cs b hi) (fun cs b => hsel j oj cs b hoj) hQ hy (H.2 j (ready_mono hj hji)))
      have hS' : S w' := h3.2.1.resolve_left hjn
      refine ⟨.inr hS', ih (listed.setIfInBounds j true) a' w' (fun k ok hk hki hku hno => ?_) (ready_mono hr (Ne.symm hji)) h3.1 hS' ?_⟩
      · refine hfree k ok hk hki ?_ hno
        by_cases hjk : j = k
        · subst hjk; exact hjun
        · rw [getD_set_ne true hjk] at hku; exact hku
      · rw [Array.setIfInBounds_comm _ _ hji]
        exact h3.2.2

/-- take number i first -/
theorem AnyJ.take {i : Nat} {oi : Oper} {v : Value} {fuel : Nat} {listed : Array Bool} {a : Act} {w : World} (hi : ops[i]? = some oi)
    (hs : Region.noSelect ops = true) (hf : Region.free md ops listed i = true) (hr : (Region.ready md ops listed).contains i = true) (hn : Region.waitsFor md ops n i = true)
    (hQ : ∀ c a w, Q (.panic c) (a.put oi.dst v) w → Q (.panic c) a w) (hy : YieldsIf P ops S oi v a) (hS : S w)
    (h : AnyJ P md ops Q S n fuel (listed.setIfInBounds i true) (a.put oi.dst v) w) : AnyJ P md ops Q S n (fuel + 1) listed a w :=
  AnyJ.first hi (Region.noSelect_spec hs) hQ hn fuel listed a w (Region.free_spec hi hf) (by simpa using hr) hy hS h

/-- whichever comes up -/
theorem AnyJ.all {rs : List Nat} {fuel : Nat} {listed : Array Bool} {a : Act} {w : World} (hr : Region.ready md ops listed = rs) (hne : rs ≠ [])
    (h : ∀ i ∈ rs, wpOp P ops Q i (fun a' w' => (i = n ∨ S w') ∧ AnyJ P md ops Q S n fuel (listed.setIfInBounds i true) a' w') a w) : AnyJ P md ops Q S n (fuel + 1) listed a w :=
  ⟨fun h0 => absurd (hr ▸ h0) hne, hr ▸ h⟩
/-- one alone may come up -/
theorem AnyJ.one {i : Nat} {o : Oper} {fuel : Nat} {listed : Array Bool} {a : Act} {w : World} (hr : Region.ready md ops listed = [i]) (ho : ops[i]? = some o)
    (h : ∀ K' : Act → World → Prop, Shut (∀ a w, (i = n ∨ S w) → AnyJ P md ops Q S n fuel (listed.setIfInBounds i true) a w → K' a w) → if Region.wanted o (yielded ops a.tmps) = true then Oper.wp P o a w K' Q else K' (a.put o.dst undef) w) : AnyJ P md ops Q S n (fuel + 1) listed a w :=
  AnyJ.all hr (by simp) (fun j hj => by
    rw [List.mem_singleton] at hj
    subst hj
    exact wpOp_step ho (fun K' hK => h K' (fun a w h1 h2 => hK a w ⟨h1, h2⟩)))
/-- one of two -/
theorem AnyJ.two {i j : Nat} {o p : Oper} {fuel : Nat} {listed : Array Bool} {a : Act} {w : World} (hr : Region.ready md ops listed = [i, j]) (ho : ops[i]? = some o) (hp : ops[j]? = some p)
    (h : ∀ K' : Act → World → Prop, Shut (∀ a w, (i = n ∨ S w) → AnyJ P md ops Q S n fuel (listed.setIfInBounds i true) a w → K' a w) → if Region.wanted o (yielded ops a.tmps) = true then Oper.wp P o a w K' Q else K' (a.put o.dst undef) w)
    (k : ∀ K' : Act → World → Prop, Shut (∀ a w, (j = n ∨ S w) → AnyJ P md ops Q S n fuel (listed.setIfInBounds j true) a w → K' a w) → if Region.wanted p (yielded ops a.tmps) = true then Oper.wp P p a w K' Q else K' (a.put p.dst undef) w) : AnyJ P md ops Q S n (fuel + 1) listed a w :=
  AnyJ.all hr (by simp) (fun q hq => by
    simp only [List.mem_cons, List.not_mem_nil, or_false] at hq
    rcases hq with rfl | rfl
    · exact wpOp_step ho (fun K' hK => h K' (fun a w h1 h2 => hK a w ⟨h1, h2⟩))
    · exact wpOp_step hp (fun K' hK => k K' (fun a w h1 h2 => hK a w ⟨h1, h2⟩)))
/-- all have come up -/
theorem AnyJ.done {listed : Array Bool} {a : Act} {w : World} (hr : Region.ready md ops listed = []) (h : Q .normal a w) : ∀ fuel, AnyJ P md ops Q S n fuel listed a w
  | 0 => ⟨hr, h⟩
  | _ + 1 => ⟨fun _ => h, by rw [hr]; simp⟩
/-- the beginning -/
theorem AnyJ.begin {id : Nat} {a : Act} {w : World} (n : Nat) (S : World → Prop) (hm : P.follows .mixedOrders = true) (hS : S w.drew)
    (h : S w.drew → AnyJ P .any ops Q S n ops.size (Array.replicate ops.size false) a w.drew) : (Code.region id ops true).wp P Q a w :=
  wp_region_any hm (AnyJ.any _ _ _ _ (h hS))
end
/-- Q, but what is asked at a panic hangs on G alone -/
def QuietQ (G : List PanicEntry → Act → World → Prop) (Q : Exit → Act → World → Prop) : Exit → Act → World → Prop
  | .panic c, a, w => G c a w
  | e, a, w => Q e a w
theorem QuietQ.imp {G : List PanicEntry → Act → World → Prop} {Q : Exit → Act → World → Prop} (h : ∀ c a w, G c a w → Q (.panic c) a w) : ∀ (e : Exit) (a : Act) (w : World), QuietQ G Q e a w → Q e a w := fun e a w k => by
  cases e <;> first | exact k | exact h _ _ _ k
end Go.Proofs.YtdbdokjlcdogiaaDoor
