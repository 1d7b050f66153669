/-
  The walks of (*loader).byte, left, num.
-/
import Derived.Test.YtdbdokjlcdogiaaDoorNeed
import Derived.Test.YtdbdokjlcdogiaaDoorNum
namespace Go.Proofs.YtdbdokjlcdogiaaDoor
open Go.RowKit
set_option linter.unusedVariables false

/-- the loader at lb has the bytes bs left -/
structure LoadR (w : World) (S : Nat → Prop) (lb : Nat) (bs : List Int) : Prop where
  at_ : ∃ A c, Cells w lb 65 #[.slice A bs.length c] ∧ Reads w S 1 A bs.length (bytv bs) ∧ bs.length ≤ c
  bytes : ∀ x ∈ bs, 0 ≤ x ∧ x ≤ 255
  few : bs.length ≤ 8388608
  ne : ∀ b, S b → b ≠ lb

theorem LoadR.upd {F : Nat → Prop} {w w' : World} {S : Nat → Prop} {lb : Nat} {bs : List Int} (h : LoadR w S lb bs) (hU : Upd F w w') (h1 : ¬ F lb) (h2 : ∀ b, S b → ¬ F b) : LoadR w' S lb bs := by
  obtain ⟨A, c, hc, hr, hl⟩ := h.at_
  exact ⟨⟨A, c, hc.upd hU h1, hr.upd hU h2, hl⟩, h.bytes, h.few, h.ne⟩
theorem reads_tail {w : World} {S : Nat → Prop} {ad : Addr} {x : Int} {r : List Int} (h : Reads w S 1 (some ad) (x :: r).length (bytv (x :: r))) : Reads w S 1 (some (ad.add 1)) r.length (bytv r) := by
  refine ⟨by simp [bytv], fun hn => ?_⟩
  obtain ⟨ad', e, hb, hs, hc⟩ := h.2 (by simp)
  injection e with e
  subst e
  refine ⟨_, rfl, by rw [add_block]; exact hb, by rw [add_block]; exact hs, fun j u hu => ?_⟩
  rw [add_add_]
  rw [Nat.add_comm]
  exact hc (j + 1) u (by simpa [bytv] using hu)

def ByteAns (w : World) (S : Nat → Prop) (lb : Nat) : List Int → Ending → World → Prop
  | [], e, w' => e = .panicked brokenP ∧ Upd (fun b => b = lb) w w'
  | x :: r, e, w' => e = .returned (.int .i64 x) ∧ LoadR w' S lb r ∧ Upd (fun b => b = lb) w w'

set_option maxRecDepth 100000 in
set_option maxHeartbeats 1000000 in
theorem byte_any (w : World) (S : Nat → Prop) (lb : Nat) (bs : List Int) (h : LoadR w S lb bs) :
    Calls Tryd.prog 35 #[.pointer (some ⟨lb, 0, none⟩)] w (ByteAns w S lb bs) := by
  obtain ⟨A, c, hc, hr, hl⟩ := h.at_
  have HH := hideP h
  have HC := hideP hc
  have c0 : w.cell? ⟨lb, 0, none⟩ = some (.slice A bs.length c) := hc.cellv rfl
  have f0 : w.frozen? ⟨lb, 0, none⟩ = false := hc.frozen _
  cases bs with
  | nil =>
    simp only [List.length_nil] at c0
    clear h hc hr hl
    go_enter Tryd.func35, Tryd.ntmps35
    go_wp2_with (go_at_call 31; refine (need_no _).mono ?_; rintro e w2 ⟨rfl, rfl⟩)
    exact ⟨rfl, rfl, Upd.refl _ _⟩
  | cons x r =>
    obtain ⟨ad, u, rfl, hb, hS, hu, hcell⟩ := hr.at1 (k := 0) (by simp)
    obtain rfl : u = .int .u8 x := by simp [bytv] at hu; exact hu.symm
    have hx := h.bytes x (by simp)
    have g0 : (0 : Int) < ((x :: r).length : Int) := by simp only [List.length_cons]; omega
    have hcc : w.cell? ad = some (.int .u8 x) := by simpa [Addr.add] using hcell
    have hw : IntKind.i64.wrap x = x := by rw [IntKind.wrap_i64]; omega
    have g1 : (1 : Int) ≤ ((x :: r).length : Int) := by simp only [List.length_cons]; omega
    have HR := hideP (reads_tail hr)
    have hne : ad.block ≠ lb := h.ne _ hS
    have hll := hl
    generalize hn : (x :: r).length = n at *
    have HN := hideP hn
    have hrn : r.length = n - 1 := by rw [← hn]; simp
    have HRN := hideP hrn
    clear h hc hr hl hu hcell hn hrn
    have hcs : (c - 1 = 0) ∨ ¬ (c - 1 = 0) := Classical.em _
    rcases hcs with hcs | hcs
    all_goals
      go_enter Tryd.func35, Tryd.ntmps35
      go_wp2_with (go_at_call 31; refine (need_is _ _ (decide_eq_true (by omega))).mono ?_; rintro e w2 ⟨he, hw2⟩; subst he hw2)
      go_ret
    · have HU := (Upd.refl (fun b => b = lb) w2).setCell ⟨lb, 0, none⟩ (.slice (some ad) (n - 1) 0) (fun _ => rfl)
      have hr0 : r = [] := List.eq_nil_of_length_eq_zero (by have := HRN.out; omega)
      exact ⟨rfl, ⟨⟨some ad, 0, by rw [HRN.out]; exact HC.out.set_ 0 _, by rw [hr0]; exact .nil_, by rw [hr0]; exact Nat.le_refl _⟩, fun y hy => HH.out.bytes y (by simp [hy]), by have := HH.out.few; rw [HN.out] at this; have := HRN.out; omega, HH.out.ne⟩, HU⟩
    · have HU := (Upd.refl (fun b => b = lb) w2).setCell ⟨lb, 0, none⟩ (.slice (some ⟨ad.block, ad.off + 1, none⟩) (n - 1) (c - 1)) (fun _ => rfl)
      exact ⟨rfl, ⟨⟨_, c - 1, by rw [HRN.out]; exact HC.out.set_ 0 _, HR.out.upd HU (fun b hb e => HH.out.ne b hb e), by have := HRN.out; omega⟩, fun y hy => HH.out.bytes y (by simp [hy]), by have := HH.out.few; rw [HN.out] at this; have := HRN.out; omega, HH.out.ne⟩, HU⟩
theorem left_any (w : World) (S : Nat → Prop) (lb : Nat) (bs : List Int) (h : LoadR w S lb bs) :
    Calls Tryd.prog 36 #[.pointer (some ⟨lb, 0, none⟩)] w fun e w' => e = .returned (.int .i64 (bs.length : Int)) ∧ w' = w := by
  obtain ⟨A, c, hc, hr, hl⟩ := h.at_
  have c0 : w.cell? ⟨lb, 0, none⟩ = some (.slice A bs.length c) := hc.cellv rfl
  clear h hc hr hl
  go_enter Tryd.func36, Tryd.ntmps36
  go_wp2_with fail
  go_ret
  exact ⟨rfl, rfl⟩
end Go.Proofs.YtdbdokjlcdogiaaDoor
