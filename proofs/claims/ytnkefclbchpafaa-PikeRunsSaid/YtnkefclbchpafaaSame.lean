/-
  The walks of heronlaw11's sameInts and may.
-/
import Derived.Test.YtnkefclbchpafaaAwake
namespace Go.Proofs.Ytnkefclbchpafaa
open Go.RowKit
set_option linter.unusedVariables false

set_option maxHeartbeats 1000000 in
theorem same_any (w : World) (S1 S2 : Nat → Prop) (A B : Option Addr) (n m c d : Nat) (xs ys : List Int) (hx : Reads w S1 1 A n (intv xs)) (hy : Reads w S2 1 B m (intv ys)) (hn : n ≤ 140737488355328) :
    Calls Try.prog 15 #[.slice A n c, .slice B m d] w fun e w' => e = .returned (.bool (decide (xs = ys))) ∧ ∃ q, w' = w.drewN q := by
  obtain rfl : xs.length = n := by have := hx.1; simpa [intv] using this
  obtain rfl : ys.length = m := by have := hy.1; simpa [intv] using this
  by_cases hl : xs.length = ys.length
  rotate_left
  · have hv : decide (xs = ys) = false := decide_eq_false (fun e => hl (by rw [e]))
    rw [hv]; clear hv
    have hlb : ((xs.length : Int) == (ys.length : Int)) = false := beq_eq_false_iff_ne.2 (by omega)
    have hlb2 : (xs.length == ys.length) = false := beq_eq_false_iff_ne.2 hl
    go_enter Try.func15, Try.ntmps15
    go_wp2_with fail
    go_ret
    exact ⟨rfl, 0, rfl⟩
  have HX := hideP hx
  have HY := hideP hy
  have HL := hideP hl
  clear hx hy
  go_enter Try.func15, Try.ntmps15
  go_wp2_with fail
  go_loopg [5] xs.length (fun gk v5 wr => ∃ k q : Nat, k + gk = xs.length ∧ v5 = .int .i64 (k : Int) ∧ wr = w.drewN q ∧ ∀ j, j < k → xs[j]? = ys[j]?)
  case atStart => exact ⟨0, 0, by omega, rfl, rfl, fun j hj => by omega⟩
  case round =>
    obtain ⟨k, q, hk, rfl, rfl, hj⟩ := hrel
    have HJ := hideP hj
    clear hj
    by_cases hlt : k < xs.length
    · obtain ⟨ad, x, rfl, hxk, hcx⟩ := HX.out.int1 hlt
      obtain ⟨bd, y, rfl, hyk, hcy⟩ := HY.out.int1 (k := k) (by have := HL.out; omega)
      have g1 : (k : Int) < (xs.length : Int) := by omega
      have g2 : (k : Int) < (ys.length : Int) := by have := HL.out; omega
      have HXK := hideP hxk
      have HYK := hideP hyk
      clear hxk hyk hl
      by_cases hxy : x = y
      · subst hxy
        go_wp2_with fail
        go_quiet (fail)
        go_wp2_with fail
        go_roundg (xs.length - (k + 1))
        case measure => omega
        case rel => exact ⟨k + 1, _, by omega, by go_num, by first | rfl | rw [World.drewN_drewN], fun j hj => (by rcases (by omega : j < k ∨ j = k) with h | h; exact HJ.out j h; subst h; rw [HXK.out, HYK.out])⟩
      · have hxe : (x == y) = false := by simpa using hxy
        have hv : decide (xs = ys) = false := decide_eq_false (fun e => by
          have h1 := HXK.out
          rw [e, HYK.out] at h1
          injection h1 with h1
          exact hxy h1.symm)
        have HV := hideP hv
        clear hv
        go_wp2_with fail
        go_quiet (fail)
        go_wp2_with fail
        go_ret
        exact ⟨congrArg Ending.returned (congrArg Value.bool HV.out.symm), _, by first | rfl | rw [World.drewN_drewN]⟩
    · have hkn : k = xs.length := by omega
      have hv : decide (xs = ys) = true := decide_eq_true (List.ext_getElem? fun j => by
        by_cases hj : j < k
        · exact HJ.out j hj
        · rw [List.getElem?_eq_none (by omega), List.getElem?_eq_none (by omega)])
      have HV := hideP hv
      clear hk hv
      subst hkn
      go_wp2_with fail
      go_ret
      exact ⟨congrArg Ending.returned (congrArg Value.bool HV.out.symm), q, rfl⟩

/-- may the search be asked? -/
def okB (is : List PInst) (start caps : Int) (text : List Int) (a : Int) : Bool := checkB is start caps && decide (text.length ≤ 4194304 ∧ 0 ≤ a ∧ a ≤ text.length)
theorem okB_ans {is : List PInst} {start caps : Int} {text : List Int} {a : Int} {b : Bool} (h : okB is start caps text a = false) : (ansF is start caps text a b).2 ≠ 0 := by
  unfold ansF
  unfold okB at h
  by_cases h1 : 4194304 < text.length
  · rw [if_pos h1]; decide
  rw [if_neg h1]
  by_cases h2 : checkB is start caps = false
  · rw [if_pos h2]; decide
  rw [if_neg h2]
  by_cases h3 : a < 0 ∨ (text.length : Int) < a
  · rw [if_pos h3]; decide
  rw [Bool.not_eq_false] at h2
  rw [h2, decide_eq_true (by omega)] at h
  cases h

set_option maxHeartbeats 2000000 in
theorem may_law (w : World) (S : Nat → Prop) (A : Option Addr) (n c : Nat) (is : List PInst) (start caps : Int) (T : Option Addr) (tn tc : Nat) (text : List Int) (a : Int) (anchored : Bool)
    (h : InstsR w S A n is) (hs : In64 start) (hc : In64 caps) (hn : n ≤ 140737488355328) (ht : TextR w S T tn text) (ha : In64 a) :
    Calls Try.prog 26 #[.agg #[.slice A n c, .int .i64 start, .int .i64 caps], .agg #[.slice T tn tc, .int .i64 a, .bool anchored]] w fun e w' => e = .returned (.bool (okB is start caps text a)) ∧ Upd Nob w w' := by
  obtain rfl : is.length = n := h.len
  obtain rfl : text.length = tn := ht.len
  have hsz : (w.alloc (.cells #[.slice A is.length c, .int .i64 start, .int .i64 caps] 27)).heap.size = w.heap.size + 1 := by simp
  have C0 := (Cells.new w 27 #[.slice A is.length c, .int .i64 start, .int .i64 caps]).alloc (.cells #[.slice T text.length tc, .int .i64 a, .bool anchored] 30)
  have C1 := Cells.new (w.alloc (.cells #[.slice A is.length c, .int .i64 start, .int .i64 caps] 27)) 30 #[.slice T text.length tc, .int .i64 a, .bool anchored]
  rw [hsz] at C1
  have hU := ((Upd.refl Nob w).alloc (.cells #[.slice A is.length c, .int .i64 start, .int .i64 caps] 27)).alloc (.cells #[.slice T text.length tc, .int .i64 a, .bool anchored] 30)
  have H := hideP h
  have h64 := ht.n
  have ha1 := ha.1
  have ha2 := ha.2
  clear h ht
  go_enter Try.func26, Try.ntmps26
  go_upto_region 1 with fail
  generalize (w.alloc (.cells #[.slice A is.length c, .int .i64 start, .int .i64 caps] 27)).alloc (.cells #[.slice T text.length tc, .int .i64 a, .bool anchored] 30) = w2 at *
  have e0 : w2.cell? ⟨w.heap.size, 0, none⟩ = some (.slice A is.length c) := C0.cellv rfl
  have e1 : w2.cell? ⟨w.heap.size, 0 + 1, none⟩ = some (.int .i64 start) := C0.cellv rfl
  have e2 : w2.cell? ⟨w.heap.size, 0 + 2, none⟩ = some (.int .i64 caps) := C0.cellv rfl
  have HC1 := hideP C1
  have HU := hideP hU
  clear C0 C1 hU
  go_wp2_with fail
  refine (ref_check w2 S A is.length c is start caps (H.out.upd HU.out (fun _ _ => not_nob)) hs hc hn).mono ?_
  rintro e w3 ⟨rfl, hU3⟩
  have C3 := HC1.out.upd hU3 not_nob
  have x0 : w3.cell? ⟨w.heap.size + 1, 0, none⟩ = some (.slice T text.length tc) := C3.cellv rfl
  have x1 : w3.cell? ⟨w.heap.size + 1, 0 + 1, none⟩ = some (.int .i64 a) := C3.cellv rfl
  have HU3 := hideP (HU.out.trans hU3 (fun _ _ h => h))
  clear C3 hU3 e0 e1 e2
  have hv : ∀ b : Bool, okB is start caps text a = b → (.returned (.bool b) : Ending) = .returned (.bool (okB is start caps text a)) := fun b h => by rw [h]
  have HV := hideP hv
  clear hv
  rcases hck : checkB is start caps with _ | _
  · have h0 : okB is start caps text a = false := by unfold okB; rw [hck]; rfl
    have hE : errOf false = 90 := rfl
    have H0 := hideP h0
    clear h0 hck
    go_wp2_with fail
    go_ret
    exact ⟨HV.out _ H0.out, HU3.out⟩
  have hE : errOf true = 0 := rfl
  have hk : okB is start caps text a = decide (text.length ≤ 4194304 ∧ 0 ≤ a ∧ a ≤ text.length) := by unfold okB; rw [hck]; rfl
  have HK := hideP hk
  clear hk hck
  by_cases h1 : (text.length : Int) ≤ 4194304
  rotate_left
  · have H0 := hideP (HK.out.trans (decide_eq_false (by omega)))
    have d1 : decide ((text.length : Int) ≤ 4194304) = false := decide_eq_false h1
    go_wp2_with fail
    go_ret
    exact ⟨HV.out _ H0.out, HU3.out⟩
  have d1 : decide ((text.length : Int) ≤ 4194304) = true := decide_eq_true h1
  by_cases h2 : 0 ≤ a
  rotate_left
  · have H0 := hideP (HK.out.trans (decide_eq_false (by omega)))
    have d2 : decide (0 ≤ a) = false := decide_eq_false h2
    go_wp2_with fail
    go_ret
    exact ⟨HV.out _ H0.out, HU3.out⟩
  have d2 : decide (0 ≤ a) = true := decide_eq_true h2
  by_cases h3 : a ≤ (text.length : Int)
  · have H0 := hideP (HK.out.trans (decide_eq_true (by omega)))
    have d3 : decide (a ≤ (text.length : Int)) = true := decide_eq_true h3
    go_wp2_with fail
    go_ret
    exact ⟨HV.out _ H0.out, HU3.out⟩
  · have H0 := hideP (HK.out.trans (decide_eq_false (by omega)))
    have d3 : decide (a ≤ (text.length : Int)) = false := decide_eq_false h3
    go_wp2_with fail
    go_ret
    exact ⟨HV.out _ H0.out, HU3.out⟩
end Go.Proofs.Ytnkefclbchpafaa
