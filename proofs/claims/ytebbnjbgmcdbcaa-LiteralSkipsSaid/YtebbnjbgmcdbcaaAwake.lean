/-
  The walks of heronlaw15.letter, awake.
-/
import Derived.Test.YtebbnjbgmcdbcaaPrefix
import Derived.Handy
namespace Go.Proofs.Ytebbnjbgmcdbcaa
open Go.RowKit
set_option linter.unusedVariables false

def letterI (r : Int) : List PInst := [⟨3, 1, 0, 0, []⟩, ⟨1, 2, 0, 0, [(r, r)]⟩, ⟨3, 3, 0, 1, []⟩, ⟨5, 0, 0, 0, []⟩]
def LetterPost (w : World) (r : Int) (e : Ending) (w' : World) : Prop :=
  ∃ g, e = .returned (.agg #[.slice (some ⟨g, 0, none⟩) 4 4, .int .i64 0, .int .i64 2]) ∧ InstsR w' (fun k => w.heap.size ≤ k) (some ⟨g, 0, none⟩) 4 (letterI r) ∧ Upd Nob w w'

theorem letter_insts {w : World} {S : Nat → Prop} {g g2 : Nat} {t : TypeId} {r : Int} (hr : In64 r)
    (h : Cells w g t #[.int .i64 3, .int .i64 1, .int .i64 0, .int .i64 0, .slice none 0 0, .int .i64 1, .int .i64 2, .int .i64 0, .int .i64 0, .slice (some ⟨g2, 0, none⟩) 1 1, .int .i64 3, .int .i64 3, .int .i64 0, .int .i64 1, .slice none 0 0, .int .i64 5, .int .i64 0, .int .i64 0, .int .i64 0, .slice none 0 0])
    {t2 : TypeId} (h2 : Cells w g2 t2 #[.int .i64 r, .int .i64 r]) (hg : S g) (hg2 : S g2) : InstsR w S (some ⟨g, 0, none⟩) 4 (letterI r) := by
  have none0 : ∀ S, RangesR w S none 0 [] := fun S => ⟨Reads.nil_, (fun x h => by cases h), by omega⟩
  have k0 : In64 0 := by unfold In64; omega
  have k1 : In64 1 := by unfold In64; omega
  have k2 : In64 2 := by unfold In64; omega
  have k3 : In64 3 := by unfold In64; omega
  have k5 : In64 5 := by unfold In64; omega
  refine ⟨rfl, fun i x hx => ?_⟩
  have hl := (List.getElem?_eq_some_iff.1 hx).1
  have hadd : ∀ i, (⟨g, 0, none⟩ : Addr).add (i * 5) = ⟨g, i * 5, none⟩ := fun i => by rw [add_lit_, Nat.zero_add]
  have lt5 : ∀ (i : Nat) (cs : Array Value), cs.size = 5 → (∀ j, j < 5 → w.cell? ⟨g, i * 5 + j, none⟩ = cs[j]?) → ∀ j v, cs[j]? = some v → w.cell? ⟨g, i * 5 + j, none⟩ = some v := by
    intro i cs hcs hj j v hv
    have := (Array.getElem?_eq_some_iff.1 hv).1
    rw [hj j (by omega), hv]
  match i, hl with
  | 0, _ =>
    obtain rfl : (⟨3, 1, 0, 0, []⟩ : PInst) = x := by injection hx
    refine ⟨_, g, 0 * 5, none, 0, 0, rfl, hadd 0, hg, h.lt, none0 _, ⟨k3, k1, k0, k0⟩, lt5 0 _ rfl fun j hj => ?_⟩
    rw [h.cell]
    match j, hj with
    | 0, _ => rfl
    | 1, _ => rfl
    | 2, _ => rfl
    | 3, _ => rfl
    | 4, _ => rfl
  | 1, _ =>
    obtain rfl : (⟨1, 2, 0, 0, [(r, r)]⟩ : PInst) = x := by injection hx
    refine ⟨_, g, 1 * 5, some ⟨g2, 0, none⟩, 1, 1, rfl, hadd 1, hg, h.lt, ⟨⟨rfl, fun _ => ⟨_, rfl, h2.lt, hg2, fun j u hu => ?_⟩⟩, ?_, by omega⟩, ⟨k1, k2, k0, k0⟩, lt5 1 _ rfl fun j hj => ?_⟩
    · rw [add_lit_, h2.cell, Nat.zero_add]
      match j, hu with
      | 0, hu => exact hu
      | 1, hu => exact hu
    · intro x hx
      simp only [List.mem_singleton] at hx
      subst hx
      exact ⟨hr, hr⟩
    rw [h.cell]
    match j, hj with
    | 0, _ => rfl
    | 1, _ => rfl
    | 2, _ => rfl
    | 3, _ => rfl
    | 4, _ => rfl
  | 2, _ =>
    obtain rfl : (⟨3, 3, 0, 1, []⟩ : PInst) = x := by injection hx
    refine ⟨_, g, 2 * 5, none, 0, 0, rfl, hadd 2, hg, h.lt, none0 _, ⟨k3, k3, k0, k1⟩, lt5 2 _ rfl fun j hj => ?_⟩
    rw [h.cell]
    match j, hj with
    | 0, _ => rfl
    | 1, _ => rfl
    | 2, _ => rfl
    | 3, _ => rfl
    | 4, _ => rfl
  | 3, _ =>
    obtain rfl : (⟨5, 0, 0, 0, []⟩ : PInst) = x := by injection hx
    refine ⟨_, g, 3 * 5, none, 0, 0, rfl, hadd 3, hg, h.lt, none0 _, ⟨k5, k0, k0, k0⟩, lt5 3 _ rfl fun j hj => ?_⟩
    rw [h.cell]
    match j, hj with
    | 0, _ => rfl
    | 1, _ => rfl
    | 2, _ => rfl
    | 3, _ => rfl
    | 4, _ => rfl

set_option maxHeartbeats 1000000 in
theorem letter_any (w : World) (r : Int) (hr : In64 r) : Calls Try.prog 26 #[.int .i64 r] w (LetterPost w r) := by
  have hcells : ∃ w2, w2 = (((w.alloc (.cells #[.slice (some ⟨w.heap.size + 1 + 1, 0, none⟩) 4 4, .int .i64 0, .int .i64 2] 27)).alloc (.cells #[.int .i64 r, .int .i64 r] 62)).alloc
      (.cells #[.int .i64 3, .int .i64 1, .int .i64 0, .int .i64 0, .slice none 0 0, .int .i64 1, .int .i64 2, .int .i64 0, .int .i64 0, .slice (some ⟨w.heap.size + 1, 0, none⟩) 1 1, .int .i64 3, .int .i64 3, .int .i64 0, .int .i64 1, .slice none 0 0, .int .i64 5, .int .i64 0, .int .i64 0, .int .i64 0, .slice none 0 0] 60)) ∧
      Cells w2 w.heap.size 27 #[.slice (some ⟨w.heap.size + 1 + 1, 0, none⟩) 4 4, .int .i64 0, .int .i64 2] ∧ Cells w2 (w.heap.size + 1) 62 #[.int .i64 r, .int .i64 r] ∧
      Cells w2 (w.heap.size + 1 + 1) 60 #[.int .i64 3, .int .i64 1, .int .i64 0, .int .i64 0, .slice none 0 0, .int .i64 1, .int .i64 2, .int .i64 0, .int .i64 0, .slice (some ⟨w.heap.size + 1, 0, none⟩) 1 1, .int .i64 3, .int .i64 3, .int .i64 0, .int .i64 1, .slice none 0 0, .int .i64 5, .int .i64 0, .int .i64 0, .int .i64 0, .slice none 0 0] ∧ Upd Nob w w2 := by
    refine ⟨_, rfl, ((Cells.new _ _ _).alloc _).alloc _, ?_, ?_, (((Upd.refl _ _).alloc _).alloc _).alloc _⟩
    · have := (Cells.new (w.alloc (.cells #[.slice (some ⟨w.heap.size + 1 + 1, 0, none⟩) 4 4, .int .i64 0, .int .i64 2] 27)) 62 #[.int .i64 r, .int .i64 r])
      rw [World.size_alloc] at this
      exact this.alloc _
    · have := (Cells.new ((w.alloc (.cells #[.slice (some ⟨w.heap.size + 1 + 1, 0, none⟩) 4 4, .int .i64 0, .int .i64 2] 27)).alloc (.cells #[.int .i64 r, .int .i64 r] 62)) 60 #[.int .i64 3, .int .i64 1, .int .i64 0, .int .i64 0, .slice none 0 0, .int .i64 1, .int .i64 2, .int .i64 0, .int .i64 0, .slice (some ⟨w.heap.size + 1, 0, none⟩) 1 1, .int .i64 3, .int .i64 3, .int .i64 0, .int .i64 1, .slice none 0 0, .int .i64 5, .int .i64 0, .int .i64 0, .int .i64 0, .slice none 0 0])
      rw [World.size_alloc, World.size_alloc] at this
      exact this
  obtain ⟨w2, hw2, C0, C1, C2, hU⟩ := hcells
  go_enter Try.func26, Try.ntmps26
  go_wp2_with fail
  rw [← hw2]
  have e0 : w2.cell? ⟨w.heap.size, 0, none⟩ = some (.slice (some ⟨w.heap.size + 1 + 1, 0, none⟩) 4 4) := C0.cellv rfl
  have e1 : w2.cell? ⟨w.heap.size, 1, none⟩ = some (.int .i64 0) := C0.cellv rfl
  have e2 : w2.cell? ⟨w.heap.size, 2, none⟩ = some (.int .i64 2) := C0.cellv rfl
  clear hw2
  refine bodyPost_ret (by simp [results, Try.results26, go_sem, e0, e1, e2]; try rfl) rfl ?_
  exact ⟨_, rfl, letter_insts hr C2 C1 (by omega) (by omega), hU⟩

theorem reads_cells {w : World} {g : Nat} {t : TypeId} {cs : Array Value} {xs : List Int} (h : Cells w g t cs) (e : cs.toList = intv xs) : Reads w (fun k => k = g) 1 (some ⟨g, 0, none⟩) xs.length (intv xs) := by
  refine ⟨by simp [intv], fun _ => ⟨_, rfl, h.lt, rfl, fun j u hj => ?_⟩⟩
  rw [add_lit_, Nat.zero_add]
  refine h.cellv ?_
  rw [← e] at hj
  simpa using hj
theorem row_one {w : World} {base : Nat} {A : Option Addr} {x : Int} (h : RowAt w base A [x]) : ∃ g, A = some ⟨g, 0, none⟩ ∧ g < w.heap.size ∧ w.cell? ⟨g, 0, none⟩ = some (.int .i64 x) := by
  rcases h with ⟨_, h2⟩ | ⟨g, cur, rfl, hb, hc, ht⟩
  · cases h2
  · refine ⟨g, rfl, hc.lt, hc.cellv ?_⟩
    have := congrArg (fun l => l[0]?) ht
    simp [intv] at this
    simpa using this
theorem letter_prefix : prefixOf (letterI 97) 0 2 = ([97], true) := by decide +kernel
theorem next_two : nextOf [97, 98] [97, 98, 97, 98] 1 = 2 := by decide +kernel

set_option maxHeartbeats 1000000 in
theorem awake_any (w : World) : Calls Try.prog 8 #[] w fun e w' => e = .returned (.bool true) ∧ Upd Nob w w' := by
  have k0 : In64 0 := by unfold In64; omega
  have k1 : In64 1 := by unfold In64; omega
  have k2 : In64 2 := by unfold In64; omega
  have k97 : In64 97 := by unfold In64; omega
  go_enter Try.func8, Try.ntmps8
  go_wp2_with (first
    | (go_at_call 26; refine (letter_any _ 97 k97).mono ?_; rintro e w1 ⟨g, rfl, hI, hU1⟩)
    | (go_at_call 11; refine (prefix_any w1 _ (some ⟨g, 0, none⟩) 4 4 (letterI 97) 0 2 hI k0 k2 (by omega)).mono ?_; rintro e w2 ⟨A, he, hA, hU2⟩; rw [letter_prefix] at he hA; subst he; obtain ⟨gl, rfl, hgl, cl⟩ := row_one hA)
    | (go_at_call 19; refine (new_any (w2.alloc (.cells #[.int .i64 97, .int .i64 98] 3)) _ (some ⟨w2.heap.size, 0, none⟩) 2 2 [97, 98] (reads_cells (xs := [97, 98]) (Cells.new w2 _ #[.int .i64 97, .int .i64 98]) rfl) (by omega)).mono ?_; rintro e w3 ⟨fb, bb, A3, c3, back, rfl, hF, hT, hU3⟩; have cl3 : w3.cell? ⟨gl, 0, none⟩ = some (.int .i64 97) := ((((Upd.refl Nob w2).alloc _).trans hU3 (fun _ _ h => h)).cell (p := ⟨gl, 0, none⟩) hgl not_nob).trans cl)
    | (go_at_call 22; refine (next_any (w3.alloc (.cells #[.int .i64 97, .int .i64 98, .int .i64 97, .int .i64 98] 3)) _ fb bb A3 c3 [97, 98] back (hF.upd ((Upd.refl Nob w3).alloc _) (fun _ _ => not_nob)) hT (by simp) _ (some ⟨w3.heap.size, 0, none⟩) 4 4 [97, 98, 97, 98] (reads_cells (xs := [97, 98, 97, 98]) (Cells.new w3 _ #[.int .i64 97, .int .i64 98, .int .i64 97, .int .i64 98]) rfl) (by omega) 1 k1).mono ?_; rintro e w4 ⟨he, q, rfl⟩; rw [next_two] at he; subst he)
    | fail)
  go_ret
  exact ⟨rfl, ((((hU1.trans hU2 (fun _ _ h => h)).alloc _).trans hU3 (fun _ _ h => h)).alloc _).drewN _⟩
end Go.Proofs.Ytebbnjbgmcdbcaa
