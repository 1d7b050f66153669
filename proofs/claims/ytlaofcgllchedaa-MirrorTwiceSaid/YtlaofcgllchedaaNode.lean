/-
  The walk of printer.node on classes and rows that may be.
-/
import Derived.Test.YtlaofcgllchedaaTurned
namespace Go.Proofs.Ytlaofcgllchedaa
open Go.RowKit
set_option linter.unusedVariables false

def plainB (t : Tree) : Bool := decide (t.rs.length = 0) && decide (t.am = 0)
def countB (t : Tree) : Bool := decide (t.mn = 0) && (decide (t.mx = 0) && !t.lz)
def groupB (t : Tree) : Bool := decide (t.ix = 0) && t.nm.toList.isEmpty
def asB (x : Int) : Bool := decide (x = 1 ∨ x = 2 ∨ x = 4 ∨ x = 8 ∨ x = 16 ∨ x = 32)
/-- may a node be, groups apart? -/
def nodeB (t : Tree) : Bool :=
  if t.kind = 1 then plainB t && (decide (t.subs.length = 0) && (countB t && groupB t))
  else if t.kind = 2 then decide (t.am = 0) && (decide (t.subs.length = 0) && (countB t && (groupB t && rightB t.rs)))
  else if t.kind = 3 then decide (t.rs.length = 0) && (decide (t.subs.length = 0) && (countB t && (groupB t && asB t.am)))
  else if t.kind = 4 ∨ t.kind = 5 then plainB t && (decide (2 ≤ t.subs.length) && (countB t && groupB t))
  else if t.kind = 6 then plainB t && (decide (t.subs.length = 1) && (groupB t && (decide (0 ≤ t.mn ∧ t.mn ≤ 1000) && decide (t.mx = -1 ∨ t.mn ≤ t.mx ∧ t.mx ≤ 1000))))
  else false

set_option maxRecDepth 100000 in
set_option maxHeartbeats 8000000 in
theorem node_yes (t : Tree) (w : World) (S : Nat → Prop) (cs : Array Value) (hk : t.kind = 2 ∨ t.kind = 4) (hy : nodeB t = true) (h1 : NodeR w S cs t) :
    Calls Try.prog 29 #[.agg cs] w fun e w' => e = .returned (.bool true) ∧ Upd Nob w w' := by
  obtain ⟨RA, rc, SA, sc, rfl, hr1, ho, hs1⟩ := h1.top
  have C0 := Cells.new w 30 (nodeCells t RA rc SA sc)
  have hU := (Upd.refl Nob w).alloc (.cells (nodeCells t RA rc SA sc) 30)
  have HR := hideP (hr1.upd hU (fun _ _ => not_nob))
  have hnl := ho.n
  have hrn := hr1.n
  clear h1 hr1 hs1 ho
  unfold nodeCells at C0 hU HR
  unfold nodeCells
  have HV := hideP hy
  have HK := hideP hk
  clear hy hk
  go_enter Try.func29, Try.ntmps29
  go_upto_region 1 with fail
  generalize w.alloc (.cells #[.int .i64 t.kind, .slice RA t.rs.length rc, .int .i64 t.am, .slice SA t.subs.length sc, .int .i64 t.mn, .int .i64 t.mx, .bool t.lz, .int .i64 t.ix, .string t.nm] 30) = w2 at *
  have HU := hideP hU
  obtain ⟨e0, e1, e2, e3, e4, e5, e6, e7, e8⟩ := nine C0
  clear C0 hU
  have b1 : ∀ x : Int, ¬ x = 0 → (x == 0) = false := fun x h => by simpa using h
  have HB := hideP b1
  clear b1
  go_cut [3] (fun v3 wc => v3 = .bool (plainB t) ∧ w2 = wc)
  case first =>
    by_cases h0 : t.rs.length = 0
    · have hb : ((t.rs.length : Int) == 0) = true := by simp [h0]
      by_cases ha : t.am = 0
      · have hc : (t.am == 0) = true := by simp [ha]
        have HQ := hideP (show plainB t = true by simp [plainB, h0, ha])
        clear h0 ha
        go_wp2_with fail
        go_meet
        exact ⟨by rw [HQ.out], rfl⟩
      · have hc : (t.am == 0) = false := HB.out _ ha
        have HQ := hideP (show plainB t = false by simp [plainB, h0, ha])
        clear h0 ha
        go_wp2_with fail
        go_meet
        exact ⟨by rw [HQ.out], rfl⟩
    · have hb : ((t.rs.length : Int) == 0) = false := HB.out _ (by omega)
      have HQ := hideP (show plainB t = false by simp [plainB, h0])
      clear h0
      go_wp2_with fail
      go_meet
      exact ⟨by rw [HQ.out], rfl⟩
  case rest =>
  obtain ⟨rfl, rfl⟩ := hcut
  go_upto_region 2 with fail
  go_cut [4] (fun v4 wc => v4 = .bool (countB t) ∧ w2 = wc)
  case first =>
    by_cases h0 : t.mn = 0
    · have c_h0 : (t.mn == 0) = true := by simp [h0]
      by_cases h1 : t.mx = 0
      · have c_h1 : (t.mx == 0) = true := by simp [h1]
        have HQ := hideP (show countB t = !t.lz by simp [countB, h0, h1])
        clear h0 h1
        go_wp2_with fail
        go_meet
        exact ⟨by rw [HQ.out], rfl⟩
      · have c_h1 : (t.mx == 0) = false := HB.out _ h1
        have HQ := hideP (show countB t = false by simp [countB, h0, h1])
        clear h0 h1
        go_wp2_with fail
        go_meet
        exact ⟨by rw [HQ.out], rfl⟩
    · have c_h0 : (t.mn == 0) = false := HB.out _ h0
      have HQ := hideP (show countB t = false by simp [countB, h0])
      clear h0
      go_wp2_with fail
      go_meet
      exact ⟨by rw [HQ.out], rfl⟩
  case rest =>
  obtain ⟨rfl, rfl⟩ := hcut
  go_upto_region 3 with fail
  go_cut [5] (fun v5 wc => v5 = .bool (groupB t) ∧ w2 = wc)
  case first =>
    by_cases h0 : t.ix = 0
    · have c_h0 : (t.ix == 0) = true := by simp [h0]
      have HQ := hideP (show groupB t = t.nm.toList.isEmpty by simp [groupB, h0])
      clear h0
      go_wp2_with fail
      go_meet
      exact ⟨by rw [HQ.out], rfl⟩
    · have c_h0 : (t.ix == 0) = false := HB.out _ h0
      have HQ := hideP (show groupB t = false by simp [groupB, h0])
      clear h0
      go_wp2_with fail
      go_meet
      exact ⟨by rw [HQ.out], rfl⟩
  case rest =>
  obtain ⟨rfl, rfl⟩ := hcut
  go_upto_region 4 with fail
  generalize hP : plainB t = P at *
  generalize hC : countB t = C at *
  generalize hG : groupB t = G at *
  have HALL := hideP (And.intro hP (And.intro hC hG))
  clear hP hC hG
  rcases HK.out with hk | hk
  · have hq := HV.out
    unfold nodeB at hq
    rw [if_neg (by omega), if_pos hk, HALL.out.2.1, HALL.out.2.2] at hq
    simp only [Bool.and_eq_true, decide_eq_true_eq] at hq
    obtain ⟨ha, hs, rfl, rfl, hr⟩ := hq
    have k1 : (t.kind == 1) = false := by rw [hk]; rfl
    have k2 : (t.kind == 2) = true := by rw [hk]; rfl
    have c1 : (t.am == 0) = true := by rw [ha]; rfl
    have c2 : ((t.subs.length : Int) == 0) = true := by rw [hs]; rfl
    have HRB := hideP hr
    clear hk ha hs hr
    go_wp2_with (go_at_call 44; refine (right_any _ _ _ _ _ _ HR.out).mono ?_; rintro e w3 ⟨rfl, hU3⟩; rw [HRB.out]; have HU3 := hideP (HU.out.trans hU3 (fun _ _ h => h)); clear hU3)
    go_ret
    exact ⟨rfl, HU3.out⟩
  · have hq := HV.out
    unfold nodeB at hq
    rw [if_neg (by omega), if_neg (by omega), if_neg (by omega), if_pos (.inl hk), HALL.out.1, HALL.out.2.1, HALL.out.2.2] at hq
    simp only [Bool.and_eq_true, decide_eq_true_eq] at hq
    obtain ⟨rfl, hs, rfl, rfl⟩ := hq
    have k1 : (t.kind == 1) = false := by rw [hk]; rfl
    have k2 : (t.kind == 2) = false := by rw [hk]; rfl
    have k3 : (t.kind == 3) = false := by rw [hk]; rfl
    have k4 : (t.kind == 4) = true := by rw [hk]; rfl
    have c1 : (2 : Int) ≤ (t.subs.length : Int) := by omega
    clear hk hs
    go_wp2_with fail
    go_ret
    exact ⟨rfl, HU.out⟩
end Go.Proofs.Ytlaofcgllchedaa
