/-
  Right, OwnT, put together.
-/
import Derived.Test.YtdbdokjlcdogiaaDoorRows
import Derived.Test.YtdbdokjlcdogiaaDoorZ00Need
import Derived.Test.YtdbdokjlcdogiaaDoorZ01PlainP
import Derived.WalkSpells
import Derived.WalkLawsBesides
import Derived.RegionTactic
import Derived.Deep.RegionLaw
import Derived.Deep.DeepCutAuto
import Derived.Deep.LoopGhost
import Derived.ChangeAlike
import Derived.BigQuiet
import Derived.Deep.QuietTactic
import Derived.Outline
import Derived.PlainAid
import Derived.Lib.AppendStr

/-
  Programs in memory; the walks of runes.Right.
-/
namespace Go.Proofs.YtdbdokjlcdogiaaDoor
open Go.RowKit
set_option linter.unusedVariables false

theorem hideP {p : Prop} (h : p) : Hid p := h

def pairv : List (Int × Int) → List Value
  | [] => []
  | x :: r => .int .i64 x.1 :: .int .i64 x.2 :: pairv r
theorem pairv_len (rs : List (Int × Int)) : (pairv rs).length = rs.length * 2 := by
  induction rs with
  | nil => rfl
  | cons x r ih => simp [pairv, ih]; omega
theorem pairv_at : ∀ (rs : List (Int × Int)) (k : Nat) (x : Int × Int), rs[k]? = some x → (pairv rs)[2 * k]? = some (.int .i64 x.1) ∧ (pairv rs)[2 * k + 1]? = some (.int .i64 x.2)
  | [], k, x, h => by simp at h
  | y :: r, 0, x, h => by simp at h; subst h; simp [pairv]
  | y :: r, k + 1, x, h => by
    have := pairv_at r k x (by simpa using h)
    have e : 2 * (k + 1) = 2 * k + 1 + 1 := by omega
    rw [e]
    simp only [pairv, List.getElem?_cons_succ]
    exact this

/-- a spot's address, written out -/
theorem spot_form {w : World} {ad : Addr} {u : Value} (h : w.cell? ad = some u) : ∃ g o, ad = ⟨g, o, none⟩ := by
  have hs := World.cell?_spot h
  cases ad
  simp_all
theorem add_two {w : World} {ad : Addr} {k : Nat} {u v : Value} (h0 : w.cell? (ad.add (2 * k)) = some u) (h1 : w.cell? (ad.add (2 * k + 1)) = some v) :
    ∃ g o, ad.add (k * 2) = ⟨g, o, none⟩ ∧ w.cell? ⟨g, o, none⟩ = some u ∧ w.cell? ⟨g, o + 1, none⟩ = some v := by
  obtain ⟨g, o, e⟩ := spot_form h0
  refine ⟨g, o, by rw [Nat.mul_comm]; exact e, by rw [← e]; exact h0, ?_⟩
  rw [← h1, ← add_add_, e, add_lit_]

/-- the ranges of a slice are numbers of 64 bits -/
def In64s (rs : List (Int × Int)) : Prop := ∀ x ∈ rs, In64 x.1 ∧ In64 x.2

/-- The slice reads as ranges. -/
structure RangesR (w : World) (S : Nat → Prop) (A : Option Addr) (n : Nat) (rs : List (Int × Int)) : Prop where
  r : Reads w S 2 A n (pairv rs)
  i : In64s rs
  n : n ≤ 140737488355328

namespace RangesR
variable {w w' : World} {S F : Nat → Prop} {A : Option Addr} {n : Nat} {rs : List (Int × Int)}
theorem len (h : RangesR w S A n rs) : rs.length = n := by have := h.r.1; rw [pairv_len] at this; omega
theorem upd (h : RangesR w S A n rs) (hU : Upd F w w') (hF : ∀ k, S k → ¬ F k) : RangesR w' S A n rs := ⟨h.r.upd hU hF, h.i, h.n⟩
theorem at1 (h : RangesR w S A n rs) {k : Nat} (hk : k < n) : ∃ ad x g o, A = some ad ∧ rs[k]? = some x ∧ In64 x.1 ∧ In64 x.2 ∧ ad.add (k * 2) = ⟨g, o, none⟩ ∧ w.cell? ⟨g, o, none⟩ = some (.int .i64 x.1) ∧ w.cell? ⟨g, o + 1, none⟩ = some (.int .i64 x.2) ∧ S g := by
  obtain ⟨ad, e, hb, hs, hc⟩ := h.r.2 (by omega)
  have hl : k < rs.length := by rw [h.len]; exact hk
  have hx := List.getElem?_eq_getElem hl
  obtain ⟨p0, p1⟩ := pairv_at rs k _ hx
  have hm := h.i _ (List.getElem_mem hl)
  obtain ⟨g, o, e2, c0, c1⟩ := add_two (hc _ _ p0) (hc _ _ p1)
  refine ⟨ad, _, g, o, e, hx, hm.1, hm.2, e2, c0, c1, ?_⟩
  have := congrArg Addr.block e2
  rw [add_block] at this
  change ad.block = g at this
  rw [← this]
  exact hs
end RangesR

set_option maxHeartbeats 400000 in
theorem domain_any (w : World) (r : Int) (hr : In64 r) : Calls Tryd.prog 67 #[.int .i64 r] w fun e w' => e = .returned (.bool (domB r)) ∧ w = w' := by
  have h1 := hr.1
  have h2 := hr.2
  rcases (by omega : r < 0 ∨ 1114111 < r ∨ (0 ≤ r ∧ r < 55296) ∨ (55296 ≤ r ∧ r ≤ 57343) ∨ (57343 < r ∧ r ≤ 1114111)) with h | h | ⟨h, h'⟩ | ⟨h, h'⟩ | ⟨h, h'⟩
  · rw [show domB r = false from decide_eq_false (by omega)]
    go_enter Tryd.func67, Tryd.ntmps67
    go_wp2
    go_ret
    exact ⟨rfl, rfl⟩
  · rw [show domB r = false from decide_eq_false (by omega)]
    go_enter Tryd.func67, Tryd.ntmps67
    go_wp2
    go_ret
    exact ⟨rfl, rfl⟩
  · rw [show domB r = true from decide_eq_true (by omega)]
    go_enter Tryd.func67, Tryd.ntmps67
    go_wp2
    go_ret
    exact ⟨rfl, rfl⟩
  · rw [show domB r = false from decide_eq_false (by omega)]
    go_enter Tryd.func67, Tryd.ntmps67
    go_wp2
    go_ret
    exact ⟨congrArg Ending.returned (congrArg Value.bool (by simp; omega)), rfl⟩
  · rw [show domB r = true from decide_eq_true (by omega)]
    go_enter Tryd.func67, Tryd.ntmps67
    go_wp2
    go_ret
    exact ⟨congrArg Ending.returned (congrArg Value.bool (by simp <;> omega)), rfl⟩

set_option maxHeartbeats 1000000 in
theorem right_any (w : World) (S : Nat → Prop) (A : Option Addr) (n c : Nat) (rs : List (Int × Int)) (h : RangesR w S A n rs) :
    Calls Tryd.prog 63 #[.slice A n c] w fun e w' => e = .returned (.bool (rightB rs)) ∧ Upd Nob w w' := by
  have hn := h.n
  obtain rfl : rs.length = n := h.len
  by_cases hbig : 5000 < rs.length
  · have hv : rightB rs = false := by unfold rightB; rw [decide_eq_false (by omega)]; rfl
    rw [hv]; clear hv
    go_enter Tryd.func63, Tryd.ntmps63
    go_wp2
    go_ret
    exact ⟨rfl, Upd.refl _ _⟩
  have hv : rightB rs = rightFrom (prevOf rs 0) (rs.drop 0) := by unfold rightB; rw [decide_eq_true (by omega)]; rfl
  have H := hideP h
  have HV := hideP hv
  clear h hv
  go_enter Tryd.func63, Tryd.ntmps63
  go_wp2_with fail
  go_loopg [10] rs.length (fun gk v10 wr => ∃ k : Nat, k + gk = rs.length ∧ v10 = .int .i64 (k : Int) ∧ rightB rs = rightFrom (prevOf rs k) (rs.drop k) ∧ (∀ y, prevOf rs k = some y → 0 ≤ y.2 ∧ y.2 ≤ 1114111) ∧ Upd Nob w wr)
  case atStart => exact ⟨0, by omega, rfl, HV.out, fun y h => (by cases h), Upd.refl _ _⟩
  case round =>
    obtain ⟨k, hk, rfl, hq, hpv, hU⟩ := hrel
    have HQ := hideP hq
    have HPV := hideP hpv
    clear hq hpv
    by_cases hlt : k < rs.length
    · obtain ⟨ad, x, g, o, rfl, hx, i1, i2, hadd, c0, c1, -⟩ := (H.out.upd hU (fun _ _ => not_nob)).at1 hlt
      have HX := hideP hx
      clear hx
      obtain ⟨lo, hi⟩ := x
      simp only at c0 c1 i1 i2
      have hstep := rightFrom_drop HX.out
      have b1 := i1.1
      have b2 := i1.2
      have b3 := i2.1
      have b4 := i2.2
      have hprev : ∀ j, k = j + 1 → ∃ y g' o', rs[j]? = some y ∧ In64 y.2 ∧ ad.add (j * 2) = ⟨g', o', none⟩ ∧ wr.cell? ⟨g', o' + 1, none⟩ = some (.int .i64 y.2) ∧ g' < wr.heap.size := by
        rintro j rfl
        obtain ⟨ad', y, g', o', e1, hy, _, h2, hadd', _, c1', _⟩ := (H.out.upd hU (fun _ _ => not_nob)).at1 (k := j) (by omega)
        injection e1 with e1
        subst e1
        exact ⟨y, g', o', hy, h2, hadd', c1', World.block_lt_of_cell? wr _ c1'⟩
      have HP := hideP hprev
      clear hprev
      have C2 : Cells (wr.alloc (.cells #[.int .i64 lo, .int .i64 hi] 50)) wr.heap.size 50 #[.int .i64 lo, .int .i64 hi] := Cells.new _ _ _
      have hU2 := hU.alloc (.cells #[.int .i64 lo, .int .i64 hi] 50)
      have far : ∀ a : Addr, a.block < wr.heap.size → (wr.alloc (.cells #[.int .i64 lo, .int .i64 hi] 50)).cell? a = wr.cell? a := fun a ha => World.cell?_of_block (Below.heap_alloc _ _ _ ha)
      go_upto_region 6 with fail
      generalize wr.alloc (.cells #[.int .i64 lo, .int .i64 hi] 50) = w2 at *
      generalize wr.heap.size = xb at *
      have l0 : w2.cell? ⟨xb, 0, none⟩ = some (.int .i64 lo) := C2.cellv rfl
      have l1 : w2.cell? ⟨xb, 0 + 1, none⟩ = some (.int .i64 hi) := C2.cellv rfl
      clear C2 c0 c1 hadd
      rcases hlo : domB lo with _ | _
      · have hv : rightB rs = false := by rw [HQ.out, hstep]; simp [rangeB, hlo]
        go_wp2_with (go_at_call 67; refine (domain_any _ _ (by assumption)).mono ?_; rintro e w1 ⟨he, rfl⟩; simp only [hlo] at he; subst he)
        go_ret
        exact ⟨congrArg Ending.returned (congrArg Value.bool hv.symm), hU2⟩
      rcases hhi : domB hi with _ | _
      · have hv : rightB rs = false := by rw [HQ.out, hstep]; simp [rangeB, hhi]
        go_wp2_with (go_at_call 67; refine (domain_any _ _ (by assumption)).mono ?_; rintro e w1 ⟨he, rfl⟩; simp only [hlo, hhi] at he; subst he)
        go_ret
        exact ⟨congrArg Ending.returned (congrArg Value.bool hv.symm), hU2⟩
      by_cases hle : hi < lo
      · have hv : rightB rs = false := by rw [HQ.out, hstep]; simp [rangeB]; omega
        go_wp2_with (go_at_call 67; refine (domain_any _ _ (by assumption)).mono ?_; rintro e w1 ⟨he, rfl⟩; simp only [hlo, hhi] at he; subst he)
        go_ret
        exact ⟨congrArg Ending.returned (congrArg Value.bool hv.symm), hU2⟩
      have hhb : 0 ≤ hi ∧ hi ≤ 1114111 := by
        have := of_decide_eq_true hhi
        omega
      by_cases hlo1 : lo < 55296
      · by_cases hhi1 : 57343 < hi
        · have hv : rightB rs = false := by rw [HQ.out, hstep]; simp [rangeB]; omega
          go_wp2_with (go_at_call 67; refine (domain_any _ _ (by assumption)).mono ?_; rintro e w1 ⟨he, rfl⟩; simp only [hlo, hhi] at he; subst he)
          go_ret
          exact ⟨congrArg Ending.returned (congrArg Value.bool hv.symm), hU2⟩
        · -- below
          by_cases hk0 : k = 0
          · subst hk0
            have hv : rightB rs = rightFrom (prevOf rs (0 + 1)) (rs.drop (0 + 1)) := by
              rw [HQ.out, hstep, show rangeB (prevOf rs 0) (lo, hi) = true from ?_, Bool.true_and]
              simp [rangeB, gapB, prevOf, hlo, hhi]
              omega
            have HV1 := hideP hv
            clear hv hstep
            go_wp2_with (go_at_call 67; refine (domain_any _ _ (by assumption)).mono ?_; rintro e w1 ⟨he, rfl⟩; simp only [hlo, hhi] at he; subst he)
            go_quiet (fail)
            go_wp2_with fail
            go_roundg (rs.length - (0 + 1))
            case measure => omega
            case rel => exact ⟨0 + 1, by omega, by go_num, HV1.out, fun y h => (by rw [show prevOf rs (0 + 1) = some (lo, hi) from HX.out] at h; injection h with h; subst h; exact hhb), hU2.drewN _⟩
          · obtain ⟨j, hj⟩ : ∃ j, k = j + 1 := ⟨k - 1, by omega⟩
            obtain ⟨y, g', o', hy, hy2, hadd', c1', hg'⟩ := HP.out j hj
            have hyb := HPV.out y (by rw [hj]; exact hy)
            have y1 := hyb.1
            have y2 := hyb.2
            have cy : w2.cell? ⟨g', o' + 1, none⟩ = some (.int .i64 y.2) := (far _ hg').trans c1'
            have hkj : (k : Int) - 1 = (j : Int) := by omega
            have hjl : (j : Int) < (rs.length : Int) := by omega
            have hwj : IntKind.i64.wrap (j : Int) = (j : Int) := by rw [IntKind.wrap_i64]; omega
            have hpk : prevOf rs k = some y := by rw [hj]; exact hy
            have hk1 : 0 < k := by omega
            by_cases hgap : lo ≤ y.2 + 1
            · have hv : rightB rs = false := by rw [HQ.out, hstep, hpk]; simp [rangeB, gapB]; omega
              have HV1 := hideP hv
              clear hv hstep hpk c1' hy hyb hj far
              go_wp2_with (go_at_call 67; refine (domain_any _ _ (by assumption)).mono ?_; rintro e w1 ⟨he, rfl⟩; simp only [hlo, hhi] at he; subst he)
              go_quiet (fail)
              go_wp2_with fail
              go_ret
              exact ⟨congrArg Ending.returned (congrArg Value.bool HV1.out.symm), hU2.drewN _⟩
            · have hv : rightB rs = rightFrom (prevOf rs (k + 1)) (rs.drop (k + 1)) := by
                rw [HQ.out, hstep, show rangeB (prevOf rs k) (lo, hi) = true from ?_, Bool.true_and]
                rw [hpk]
                simp [rangeB, gapB, hlo, hhi]
                omega
              have HV1 := hideP hv
              clear hv hstep hpk c1' hy hyb hj far
              go_wp2_with (go_at_call 67; refine (domain_any _ _ (by assumption)).mono ?_; rintro e w1 ⟨he, rfl⟩; simp only [hlo, hhi] at he; subst he)
              go_quiet (fail)
              go_wp2_with fail
              go_roundg (rs.length - (k + 1))
              case measure => omega
              case rel => exact ⟨k + 1, by omega, by go_num, HV1.out, fun y h => (by rw [show prevOf rs (k + 1) = some (lo, hi) from HX.out] at h; injection h with h; subst h; exact hhb), hU2.drewN _⟩
      · -- above
        by_cases hk0 : k = 0
        · subst hk0
          have hv : rightB rs = rightFrom (prevOf rs (0 + 1)) (rs.drop (0 + 1)) := by
            rw [HQ.out, hstep, show rangeB (prevOf rs 0) (lo, hi) = true from ?_, Bool.true_and]
            simp [rangeB, gapB, prevOf, hlo, hhi]
            omega
          have HV1 := hideP hv
          clear hv hstep
          go_wp2_with (go_at_call 67; refine (domain_any _ _ (by assumption)).mono ?_; rintro e w1 ⟨he, rfl⟩; simp only [hlo, hhi] at he; subst he)
          go_quiet (fail)
          go_wp2_with fail
          go_roundg (rs.length - (0 + 1))
          case measure => omega
          case rel => exact ⟨0 + 1, by omega, by go_num, HV1.out, fun y h => (by rw [show prevOf rs (0 + 1) = some (lo, hi) from HX.out] at h; injection h with h; subst h; exact hhb), hU2.drewN _⟩
        · obtain ⟨j, hj⟩ : ∃ j, k = j + 1 := ⟨k - 1, by omega⟩
          obtain ⟨y, g', o', hy, hy2, hadd', c1', hg'⟩ := HP.out j hj
          have hyb := HPV.out y (by rw [hj]; exact hy)
          have y1 := hyb.1
          have y2 := hyb.2
          have cy : w2.cell? ⟨g', o' + 1, none⟩ = some (.int .i64 y.2) := (far _ hg').trans c1'
          have hkj : (k : Int) - 1 = (j : Int) := by omega
          have hjl : (j : Int) < (rs.length : Int) := by omega
          have hwj : IntKind.i64.wrap (j : Int) = (j : Int) := by rw [IntKind.wrap_i64]; omega
          have hpk : prevOf rs k = some y := by rw [hj]; exact hy
          have hk1 : 0 < k := by omega
          by_cases hgap : lo ≤ y.2 + 1
          · have hv : rightB rs = false := by rw [HQ.out, hstep, hpk]; simp [rangeB, gapB]; omega
            have HV1 := hideP hv
            clear hv hstep hpk c1' hy hyb hj far
            go_wp2_with (go_at_call 67; refine (domain_any _ _ (by assumption)).mono ?_; rintro e w1 ⟨he, rfl⟩; simp only [hlo, hhi] at he; subst he)
            go_quiet (fail)
            go_wp2_with fail
            go_ret
            exact ⟨congrArg Ending.returned (congrArg Value.bool HV1.out.symm), hU2.drewN _⟩
          · have hv : rightB rs = rightFrom (prevOf rs (k + 1)) (rs.drop (k + 1)) := by
              rw [HQ.out, hstep, show rangeB (prevOf rs k) (lo, hi) = true from ?_, Bool.true_and]
              rw [hpk]
              simp [rangeB, gapB, hlo, hhi]
              omega
            have HV1 := hideP hv
            clear hv hstep hpk c1' hy hyb hj far
            go_wp2_with (go_at_call 67; refine (domain_any _ _ (by assumption)).mono ?_; rintro e w1 ⟨he, rfl⟩; simp only [hlo, hhi] at he; subst he)
            go_quiet (fail)
            go_wp2_with fail
            go_roundg (rs.length - (k + 1))
            case measure => omega
            case rel => exact ⟨k + 1, by omega, by go_num, HV1.out, fun y h => (by rw [show prevOf rs (k + 1) = some (lo, hi) from HX.out] at h; injection h with h; subst h; exact hhb), hU2.drewN _⟩
    · have hkn : k = rs.length := by omega
      clear hk
      have hv : rightB rs = true := by rw [HQ.out, hkn, List.drop_length]; rfl
      subst hkn
      go_wp2
      go_ret
      exact ⟨congrArg Ending.returned (congrArg Value.bool hv.symm), hU⟩
end Go.Proofs.YtdbdokjlcdogiaaDoor

/-
  A row of bytes of the call's own whose block may bear a mark: a frozen range that lies behind its last cell (what a conversion of a string leaves). Laws: append of a row, of a string; what stays. Plain lemmas; nothing of the program.
-/
namespace Go.Proofs.YtdbdokjlcdogiaaDoor
open Go.RowKit Go.Lib
set_option linter.unusedVariables false

/-- no cell of the row is frozen -/
def Loose (cs : Array Value) (fz : Nat × Nat) : Prop := fz.2 = 0 ∨ cs.size ≤ fz.1
/-- the slice v of n one-cell elements owns the cells xs -/
def OwnT (w : World) (base : Nat) (e : TypeId) (v : Value) (n : Nat) (xs : List Value) : Prop :=
  xs.length = n ∧ ((v = .slice none 0 0 ∧ n = 0) ∨ ∃ g cap cur fz, v = .slice (some ⟨g, 0, none⟩) n cap ∧ base ≤ g ∧ w.heap[g]? = some (.cells cur e fz) ∧ Loose cur fz ∧ n ≤ cap ∧ cap ≤ maxLen ∧ cur.size = cap ∧ cur.toList.take n = xs)

section
variable {F : Nat → Prop} {w w' : World} {base n : Nat} {e : TypeId} {v : Value} {xs : List Value}
theorem OwnT.of (h : w.ownsRow base e 1 v n xs) : OwnT w base e v n xs := by
  refine ⟨by simpa using h.1, ?_⟩
  rcases h.2 with hn | ⟨g, cap, cur, hv, hb, hg, h1, h2, h3, h4⟩
  · exact .inl hn
  · exact .inr ⟨g, cap, cur, (0, 0), hv, hb, hg, .inl rfl, h1, h2, by simpa using h3, by simpa using h4⟩
theorem OwnT.nil_ (w : World) (base : Nat) (e : TypeId) : OwnT w base e (.slice none 0 0) 0 [] := ⟨rfl, .inl ⟨rfl, rfl⟩⟩
theorem OwnT.shape (h : OwnT w base e v n xs) : ∃ A c, v = .slice A n c := by
  rcases h.2 with ⟨rfl, rfl⟩ | ⟨g, cap, cur, fz, rfl, _⟩
  · exact ⟨_, _, rfl⟩
  · exact ⟨_, _, rfl⟩
theorem OwnT.upd (h : OwnT w base e v n xs) (hU : Upd F w w') (hF : ∀ k, v.ownBlock = some k → ¬ F k) : OwnT w' base e v n xs := by
  refine ⟨h.1, ?_⟩
  rcases h.2 with hn | ⟨g, cap, cur, fz, rfl, hb, hg, r⟩
  · exact .inl hn
  · exact .inr ⟨g, cap, cur, fz, rfl, hb, (hU.block g (Array.getElem?_eq_some_iff.1 hg).1 (hF g rfl)).trans hg, r⟩
theorem OwnT.alloc (h : OwnT w base e v n xs) (o : Obj) : OwnT (w.alloc o) base e v n xs := h.upd (F := Nob) ((Upd.refl _ _).alloc o) (fun _ _ => not_nob)
theorem OwnT.base_ {base' : Nat} (h : OwnT w base e v n xs) (hb : ∀ g, v.ownBlock = some g → base' ≤ g) : OwnT w base' e v n xs := by
  refine ⟨h.1, ?_⟩
  rcases h.2 with hn | ⟨g, cap, cur, fz, rfl, _, r⟩
  · exact .inl hn
  · exact .inr ⟨g, cap, cur, fz, rfl, hb g rfl, r⟩
theorem OwnT.lo (h : OwnT w base e v n xs) {g : Nat} (hg : v.ownBlock = some g) : base ≤ g := by
  rcases h.2 with ⟨h1, -⟩ | ⟨b, cap, cur, fz, rfl, hb, -⟩
  · subst h1
    cases hg
  · simp [Value.ownBlock] at hg
    omega
theorem OwnT.lt (h : OwnT w base e v n xs) {g : Nat} (hg : v.ownBlock = some g) : g < w.heap.size := by
  rcases h.2 with ⟨h1, -⟩ | ⟨b, cap, cur, fz, rfl, hb, hh, -⟩
  · subst h1
    cases hg
  · simp [Value.ownBlock] at hg
    subst hg
    exact (Array.getElem?_eq_some_iff.1 hh).1
theorem OwnT.ne {b : Nat} {t : TypeId} {cs : Array Value} (h : OwnT w base e v n xs) (hc : Cells w b t cs) (hne : e ≠ t) : v.ownBlock ≠ some b := by
  rcases h.2 with ⟨rfl, _⟩ | ⟨g', cap, cur, fz, rfl, _, hh, _⟩
  · simp [Value.ownBlock]
  · intro he
    have : g' = b := by simpa [Value.ownBlock] using he
    subst this
    unfold Cells at hc
    rw [hc] at hh
    injection hh with hh
    injection hh with _ ht
    exact hne ht.symm
theorem OwnT.cells (h : OwnT w base e v n xs) {g : Nat} (hg : v.ownBlock = some g) : ∀ j u, xs[j]? = some u → w.cell? ((⟨g, 0, none⟩ : Addr).add j) = some u := by
  intro j u hu
  rcases h.2 with ⟨rfl, _⟩ | ⟨g', cap, cur, fz, rfl, _, hgg, _, _, _, _, htake⟩
  · simp [Value.ownBlock] at hg
  · simp [Value.ownBlock] at hg
    subst hg
    rw [add_lit_, Nat.zero_add, cell_of_row w g' j cur e fz hgg]
    rw [← htake, List.getElem?_take] at hu
    split at hu
    · simpa using hu
    · cases hu
theorem Reads.of_ownT {c : Nat} {A : Option Addr} (h : OwnT w base e (.slice A n c) n xs) : Reads w (fun k => (Value.slice A n c).ownBlock = some k) 1 A n xs := by
  refine ⟨by rw [Nat.mul_one]; exact h.1, fun hn => ?_⟩
  rcases h.2 with ⟨_, rfl⟩ | ⟨g, cap, cur, fz, hv, hb, hg, _⟩
  · omega
  · obtain ⟨rfl, _, rfl⟩ : A = some ⟨g, 0, none⟩ ∧ n = n ∧ c = cap := by injection hv with a b c; exact ⟨a, b, c⟩
    exact ⟨_, rfl, (Array.getElem?_eq_some_iff.1 hg).1, rfl, h.cells rfl⟩
end

/-- a row that a conversion has marked behind its last cell -/
theorem OwnT.marked (w : World) (cs : Array Value) (e : TypeId) (h : cs.size ≤ maxLen) : OwnT (w.alloc (.cells cs e (cs.size, cs.size + 1))) w.heap.size e (.slice (some ⟨w.heap.size, 0, none⟩) cs.size cs.size) cs.size cs.toList :=
  ⟨by simp, .inr ⟨w.heap.size, cs.size, cs, _, rfl, Nat.le_refl _, heap_alloc_new _ _, .inr (Nat.le_refl _), Nat.le_refl _, h, rfl, by rw [List.take_of_length_le (by simp)]⟩⟩

theorem storeCellsT (P : Program) (g o : Nat) (t : TypeId) (fz : Nat × Nat) : ∀ (vs : List Value) (i : Nat) (cur : Array Value) (w : World), w.heap[g]? = some (.cells cur t fz) → Loose cur fz → o + i + vs.length ≤ cur.size → (∀ v ∈ vs, v.oneCell' = true) →
    (storeCells ⟨g, o, none⟩ vs i).run P w = .ok () (w.setRow g (cur.toList.take (o + i) ++ vs ++ cur.toList.drop (o + i + vs.length)).toArray)
  | [], i, cur, w, hg, _, _, _ => by
    simp only [storeCells, List.append_nil, List.length_nil, Nat.add_zero, List.take_append_drop, Array.toArray_toList]
    rw [setRow_self w g cur t fz hg]
    rfl
  | v :: rest, i, cur, w, hg, hfz, hl, h1 => by
    have hi : o + i < cur.size := by simp at hl; omega
    have hcell : w.cell? ⟨g, o + i, none⟩ = some cur[o + i] := by simp [World.cell?, hg, hi]
    have hfro : w.frozen? ⟨g, o + i, none⟩ = false := by
      obtain ⟨lo, hi'⟩ := fz
      simp only [World.frozen?, hg, Bool.and_eq_false_iff, decide_eq_false_iff_not]
      unfold Loose at hfz
      simp only at hfz
      omega
    have hst : (store ((⟨g, o, none⟩ : Addr).add i) v).run P w = .ok () (w.setRow g (cur.setIfInBounds (o + i) v)) := by
      rw [add_lit_, run_store P w _ v _ (h1 v (by simp)), hcell]
      simp [hfro, setCell_eq_setRow w g (o + i) cur t fz v hg]
    have ih := storeCellsT P g o t fz rest (i + 1) (cur.setIfInBounds (o + i) v) (w.setRow g (cur.setIfInBounds (o + i) v)) (setRow_heap w g cur _ t _ hg) (by unfold Loose at hfz ⊢; simpa using hfz) (by simp at hl ⊢; omega) (fun x hx => h1 x (by simp [hx]))
    simp only [storeCells, Sem.run_bind, hst, Result.andThen_ok, ih, setRow_setRow]
    congr 3
    have e := list_seg_step cur.toList (o + i) v rest (by simp at hl ⊢; omega)
    simpa [Array.toList_setIfInBounds, Nat.add_assoc] using e

section
variable {P : Program} (w : World)
theorem append_room_T (t ty e : TypeId) (i : TypeInfo) (ht : P.underlying t = some (.slice e)) (hi : P.info? e = some i) (hs : i.size = 1)
    (g sLen sCap : Nat) (cur : Array Value) (fz : Nat × Nat) (hg : w.heap[g]? = some (.cells cur e fz)) (hfz : Loose cur fz)
    (a : Addr) (m c : Nat) (news : List Value) (hl : news.length = m) (hnews : ∀ j u, news[j]? = some u → w.cell? (a.add j) = some u) (h1 : ∀ u ∈ news, u.oneCell' = true)
    (hroom : sLen + m ≤ sCap) (hfit : sLen + news.length ≤ cur.size) :
    (Builtin.append_ #[t, t] ty #[.slice (some ⟨g, 0, none⟩) sLen sCap, .slice (some a) m c]).run P w =
      .ok (.slice (some ⟨g, 0, none⟩) (sLen + m) sCap) (w.setRow g (cur.toList.take sLen ++ news ++ cur.toList.drop (sLen + news.length)).toArray) := by
  have hf := run_firstCells_some (P := P) w 1 m a m c news (by omega) hnews
  have hst := storeCellsT P g sLen e fz news 0 cur w hg hfz (by simpa using hfit) h1
  simp only [Nat.add_zero] at hst
  simp [Builtin.append_, run_underlying ht, sizeOf, typeInfo, hi, hs, Builtin.lenOf, hroom, hf, Addr.add_lit, hst]
theorem append_room_string_T (t u ty e : TypeId) (i : TypeInfo) (ht : P.underlying t = some (.slice e)) (hu : P.underlying u = some .string) (hi : P.info? e = some i) (hs1 : i.size = 1)
    (g sLen sCap : Nat) (cur : Array Value) (fz : Nat × Nat) (hg : w.heap[g]? = some (.cells cur e fz)) (hfz : Loose cur fz) (s : ByteArray)
    (hroom : sLen + s.size ≤ sCap) (hfit : sLen + s.size ≤ cur.size) :
    (Builtin.append_ #[t, u] ty #[.slice (some ⟨g, 0, none⟩) sLen sCap, .string s]).run P w =
      .ok (.slice (some ⟨g, 0, none⟩) (sLen + s.size) sCap) (w.setRow g (cur.toList.take sLen ++ strCells s ++ cur.toList.drop (sLen + s.size)).toArray) := by
  have hf := run_firstCells_string (P := P) w 1 s
  have hst := storeCellsT P g sLen e fz (strCells s) 0 cur w hg hfz (by simpa [strCells_length] using hfit) (strCells_oneCell s)
  simp only [Nat.add_zero, strCells_length] at hst
  simp [Builtin.append_, run_underlying ht, run_underlying hu, sizeOf, typeInfo, hi, hs1, Builtin.lenOf, hroom, hf, Addr.add_lit, hst]

theorem run_append_T (base : Nat) (t ty e : TypeId) (i : TypeInfo) (z : Value) (ht : P.underlying t = some (.slice e)) (hi : P.info? e = some i) (hz : i.zero = some z)
    (hsize : i.size = 1) (hby : i.bytes = 1) (hzs : z.cells.size = 1)
    (v : Value) (n : Nat) (xs : List Value) (hown : OwnT w base e v n xs)
    (a : Addr) (m c : Nat) (news : List Value) (hl : news.length = m) (hnews : ∀ j u, news[j]? = some u → w.cell? (a.add j) = some u) (h1 : ∀ u ∈ news, u.oneCell' = true)
    (h63 : n + m ≤ maxLen) (hbytes : n + m ≤ 140737488355328) (hbase : base ≤ w.heap.size) :
    ∃ v' w', (Builtin.append_ #[t, t] ty #[v, .slice (some a) m c]).run P w = .ok v' w' ∧ OwnT w' base e v' (n + m) (xs ++ news) ∧ w.grownBy w' v.ownBlock ∧ (v'.ownBlock = v.ownBlock ∨ v'.ownBlock = some w.heap.size) := by
  by_cases hO : w.ownsRow base e 1 v n xs
  · obtain ⟨v', w', h2, h3, h4, -, h5⟩ := run_append_own_at (P := P) w base t ty e i z 1 1 ht hi hz hsize hby hzs (by decide) v n xs hO a m c news (by omega) hnews h1 h63 (by omega) hbase
    exact ⟨v', w', h2, .of h3, h4, h5⟩
  have hxl := hown.1
  have hlen : (xs ++ news).length = n + m := by rw [List.length_append, hxl, hl]
  rcases hown.2 with ⟨rfl, rfl⟩ | ⟨g, cap, cur, fz, rfl, hbg, hg, hfz, hnc, hcm, hcs, htake⟩
  · exact absurd ⟨by simpa using hxl, .inl ⟨rfl, rfl⟩⟩ hO
  · by_cases hroom : n + m ≤ cap
    · have hr := append_room_T (P := P) w t ty e i ht hi hsize g n cap cur fz hg hfz a m c news hl hnews h1 hroom (by omega)
      have hsz : (cur.toList.take n ++ news ++ cur.toList.drop (n + news.length)).toArray.size = cur.size := by
        simp only [List.size_toArray, List.length_append, List.length_take, List.length_drop, Array.length_toList]
        omega
      refine ⟨_, _, hr, ⟨hlen, .inr ⟨g, cap, _, fz, rfl, hbg, setRow_heap w g cur _ e _ hg, by unfold Loose at hfz ⊢; rw [hsz]; exact hfz, hroom, hcm, by rw [hsz]; exact hcs, ?_⟩⟩, ⟨rfl, rfl, rfl, by simp, fun k _ hk => setRow_other w g k _ (fun e => hk (by simp [Value.ownBlock, e]))⟩, Or.inl rfl⟩
      rw [htake, ← hlen]
      exact List.take_left
    · have holds : ∀ j u, xs[j]? = some u → w.cell? ((⟨g, 0, none⟩ : Addr).add j) = some u := hown.cells (g := g) rfl
      have hr := run_append_grow (P := P) w t ty e i z ht hi hz ⟨g, 0, none⟩ n cap xs (by rw [hsize]; omega) holds a m c news (by rw [hsize]; omega) hnews (by omega) (by simp only [maxLen] at h63; omega) (growslice_fits (by omega) (by rw [hby]; omega))
      have hge := grownCap_ge w (n + m) cap e
      have hcm2 : grownCap w (n + m) cap e ≤ maxLen := grownCap_le_maxLen w (n + m) cap e h63
      refine ⟨_, _, hr, ⟨hlen, .inr ⟨w.heap.size, _, _, (0, 0), rfl, hbase, heap_alloc_new w.drew _, .inl rfl, hge, hcm2, ?_, ?_⟩⟩, ⟨rfl, rfl, rfl, by simp, fun k hk _ => Below.heap_alloc w.drew _ k hk⟩, Or.inr rfl⟩
      · simp only [Array.size_append, List.size_toArray, size_zeroCells, hzs, hxl, hl]
        omega
      · simp only [Array.toList_append, List.append_assoc]
        rw [← List.append_assoc, ← hlen]
        exact List.take_left
theorem run_append_string_T (base : Nat) (t u ty e : TypeId) (i : TypeInfo) (ht : P.underlying t = some (.slice e)) (hu : P.underlying u = some .string) (hi : P.info? e = some i) (hz : i.zero = some (.int .u8 0))
    (hsize : i.size = 1) (hby : i.bytes = 1)
    (v : Value) (n : Nat) (xs : List Value) (hown : OwnT w base e v n xs) (s : ByteArray)
    (h63 : n + s.size ≤ maxLen) (hbytes : n + s.size ≤ 140737488355328) (hbase : base ≤ w.heap.size) :
    ∃ v' w', (Builtin.append_ #[t, u] ty #[v, .string s]).run P w = .ok v' w' ∧ OwnT w' base e v' (n + s.size) (xs ++ strCells s) ∧ w.grownBy w' v.ownBlock ∧ (v'.ownBlock = v.ownBlock ∨ v'.ownBlock = some w.heap.size) := by
  have hxl := hown.1
  have hlen : (xs ++ strCells s).length = n + s.size := by rw [List.length_append, hxl, strCells_length]
  rcases hown.2 with ⟨rfl, rfl⟩ | ⟨g, cap, cur, fz, rfl, hbg, hg, hfz, hnc, hcm, hcs, htake⟩
  · obtain ⟨v', w', h2, h3, h4, h5⟩ := run_append_own_string (P := P) w base t u ty e i ht hu hi hz hsize hby (.slice none 0 0) 0 xs ⟨by simpa using hxl, .inl ⟨rfl, rfl⟩⟩ s h63 hbytes hbase
    refine ⟨v', w', h2, .of h3, h4, ?_⟩
    have hx : xs = [] := List.eq_nil_of_length_eq_zero hxl
    by_cases hm : s.size = 0
    · left
      rw [h5.2 ⟨rfl, hm⟩]
    · right
      have hr := run_append_nil_string (P := P) w t u ty e i (.int .u8 0) ht hu hi hz s (by omega) (by simp only [maxLen] at h63; omega) (by rw [hby]; omega)
      rw [hr] at h2
      injection h2 with h2
      rw [← h2]
      rfl
  · by_cases hroom : n + s.size ≤ cap
    · have hr := append_room_string_T (P := P) w t u ty e i ht hu hi hsize g n cap cur fz hg hfz s hroom (by omega)
      have hsz : (cur.toList.take n ++ strCells s ++ cur.toList.drop (n + s.size)).toArray.size = cur.size := by
        simp only [List.size_toArray, List.length_append, List.length_take, List.length_drop, Array.length_toList, strCells_length]
        omega
      refine ⟨_, _, hr, ⟨hlen, .inr ⟨g, cap, _, fz, rfl, hbg, setRow_heap w g cur _ e _ hg, by unfold Loose at hfz ⊢; rw [hsz]; exact hfz, hroom, hcm, by rw [hsz]; exact hcs, ?_⟩⟩, ⟨rfl, rfl, rfl, by simp, fun k _ hk => setRow_other w g k _ (fun e => hk (by simp [Value.ownBlock, e]))⟩, Or.inl rfl⟩
      rw [htake, ← hlen]
      exact List.take_left
    · have holds : ∀ j u, xs[j]? = some u → w.cell? ((⟨g, 0, none⟩ : Addr).add j) = some u := hown.cells (g := g) rfl
      have hr := run_append_grow_string (P := P) w t u ty e i (.int .u8 0) ht hu hi hz ⟨g, 0, none⟩ n cap xs (by rw [hsize]; omega) holds s (by omega) (by simp only [maxLen] at h63; omega) (by rw [hby]; exact growslice_fits (by omega) (by omega))
      have hge := grownCap_ge w (n + s.size) cap e
      have hcm2 : grownCap w (n + s.size) cap e ≤ maxLen := grownCap_le_maxLen w (n + s.size) cap e h63
      refine ⟨_, _, hr, ⟨hlen, .inr ⟨w.heap.size, _, _, (0, 0), rfl, hbase, heap_alloc_new w.drew _, .inl rfl, hge, hcm2, ?_, ?_⟩⟩, ⟨rfl, rfl, rfl, by simp, fun k hk _ => Below.heap_alloc w.drew _ k hk⟩, Or.inr rfl⟩
      · have hz1 : (Value.int IntKind.u8 0).cells.size = 1 := rfl
        simp only [Array.size_append, List.size_toArray, size_zeroCells, hz1, hxl, strCells_length]
        omega
      · simp only [Array.toList_append, List.append_assoc]
        rw [← List.append_assoc, ← hlen]
        exact List.take_left
end

section
variable {P : Program} {w : World}
theorem wpList_append_T {ops : Array Oper} {rest : List Oper} {o : Oper} {a : Act} {Q : Exit → Act → World → Prop} (hgd : o.guard = none) (s x : Operand) (t : TypeId)
    (ho : o.op = .call { callee := .builtin .append, args := #[s, x], argTypes := #[t, t] })
    (base : Nat) (e : TypeId) (i : TypeInfo) (z : Value) (ht : P.underlying t = some (.slice e)) (hi : P.info? e = some i) (hz : i.zero = some z)
    (hsize : i.size = 1) (hby : i.bytes = 1) (hzs : z.cells.size = 1)
    (v : Value) (n : Nat) (xs : List Value) (hs : a.eval s = v) (hown : OwnT w base e v n xs)
    (ad : Addr) (m c : Nat) (news : List Value) (hx : a.eval x = .slice (some ad) m c) (hl : news.length = m) (hnews : ∀ j u, news[j]? = some u → w.cell? (ad.add j) = some u) (h1 : ∀ u ∈ news, u.oneCell' = true)
    (h63 : n + m ≤ maxLen) (hbytes : n + m ≤ 140737488355328) (hbase : base ≤ w.heap.size)
    (h : ∀ A' c' w', OwnT w' base e (.slice A' (n + m) c') (n + m) (xs ++ news) → w.grownBy w' v.ownBlock → ((Value.slice A' (n + m) c').ownBlock = v.ownBlock ∨ (Value.slice A' (n + m) c').ownBlock = some w.heap.size) → wpList P ops Q rest (a.put o.dst (.slice A' (n + m) c')) w') :
    wpList P ops Q (o :: rest) a w := by
  refine wpList_plain hgd fun K hK => ?_
  obtain ⟨v', w', hr, h2, h3, h4⟩ := run_append_T (P := P) w base t o.type e i z ht hi hz hsize hby hzs v n xs hown ad m c news hl hnews h1 h63 hbytes hbase
  unfold Oper.wp execOp
  simp only [ho, resolve, invoke, builtin, Sem.run_bind, Sem.run_pure, Result.andThen_ok, List.map_toArray, List.map_cons, List.map_nil, hs, hx, hr]
  obtain ⟨A', c', rfl⟩ := h2.shape
  exact hK _ _ (h A' c' w' h2 h3 h4)
theorem wpList_append_string_T {ops : Array Oper} {rest : List Oper} {o : Oper} {a : Act} {Q : Exit → Act → World → Prop} (hgd : o.guard = none) (sl x : Operand) (t u : TypeId)
    (ho : o.op = .call { callee := .builtin .append, args := #[sl, x], argTypes := #[t, u] })
    (base : Nat) (e : TypeId) (i : TypeInfo) (ht : P.underlying t = some (.slice e)) (hu : P.underlying u = some .string) (hi : P.info? e = some i) (hz : i.zero = some (.int .u8 0))
    (hsize : i.size = 1) (hby : i.bytes = 1)
    (v : Value) (n : Nat) (xs : List Value) (hs : a.eval sl = v) (hown : OwnT w base e v n xs) (s : ByteArray) (hx : a.eval x = .string s)
    (h63 : n + s.size ≤ maxLen) (hbytes : n + s.size ≤ 140737488355328) (hbase : base ≤ w.heap.size)
    (h : ∀ A' c' w', OwnT w' base e (.slice A' (n + s.size) c') (n + s.size) (xs ++ strCells s) → w.grownBy w' v.ownBlock → ((Value.slice A' (n + s.size) c').ownBlock = v.ownBlock ∨ (Value.slice A' (n + s.size) c').ownBlock = some w.heap.size) → wpList P ops Q rest (a.put o.dst (.slice A' (n + s.size) c')) w') : wpList P ops Q (o :: rest) a w := by
  refine wpList_plain hgd fun K hK => ?_
  obtain ⟨v', w', hr, h2, h3, h4⟩ := run_append_string_T (P := P) w base t u o.type e i ht hu hi hz hsize hby v n xs hown s h63 hbytes hbase
  unfold Oper.wp execOp
  simp only [ho, resolve, invoke, builtin, Sem.run_bind, Sem.run_pure, Result.andThen_ok, List.map_toArray, List.map_cons, List.map_nil, hs, hx, hr]
  obtain ⟨A', c', rfl⟩ := h2.shape
  exact hK _ _ (h A' c' w' h2 h3 h4)
end
end Go.Proofs.YtdbdokjlcdogiaaDoor
