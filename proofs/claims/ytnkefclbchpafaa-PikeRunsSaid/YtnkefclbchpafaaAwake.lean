/-
  The walks of heronlaw11.letter, awake.
-/
import Derived.Test.YtnkefclbchpafaaPkRun
import Derived.Handy
namespace Go.Proofs.Ytnkefclbchpafaa
open Go.RowKit
set_option linter.unusedVariables false

def letterI (r : Int) : List PInst := [⟨3, 1, 0, 0, []⟩, ⟨1, 2, 0, 0, [(r, r)]⟩, ⟨3, 3, 0, 1, []⟩, ⟨5, 0, 0, 0, []⟩]
def LetterPost (w : World) (r : Int) (e : Ending) (w' : World) : Prop :=
  ∃ g, e = .returned (.agg #[.slice (some ⟨g, 0, none⟩) 4 4, .int .i64 0, .int .i64 2]) ∧ InstsR w' (fun k => w.heap.size ≤ k) (some ⟨g, 0, none⟩) 4 (letterI r) ∧ Upd Nob w w'

theorem letter_insts {w : World} {S : Nat → Prop} {g g2 : Nat} {t : TypeId} {r : Int} (hr : In64 r)
    (h : Cells w g t #[.int .i64 3, .int .i64 1, .int .i64 0, .int .i64 0, .slice none 0 0, .int .i64 1, .int .i64 2, .int .i64 0, .int .i64 0, .slice (some ⟨g2, 0, none⟩) 1 1, .int .i64 3, .int .i64 3, .int .i64 0, .int .i64 1, .slice none 0 0, .int .i64 5, .int .i64 0, .int .i64 0, .int .i64 0, .slice none 0 0])
    {t2 : TypeId} (h2 : Cells w g2 t2 #[.int .i64 r, .int .i64 r]) (hg : S g) (hg2 : S g2) : InstsR w S (some ⟨g, 0, none⟩) 4 (letterI r) := by
  have none0 : ∀ S, RangesR w S none 0 [] := fun S => ⟨Reads.nil_, (fun x h => by cases h), by omega⟩
  have k0 : In64 0 := by unfold In64; omega
  have k1 : In64 1 := by unfold In64; omega
  have k2 : In64 2 := by unfold In64; omega
  have k3 : In64 3 := by unfold In64; omega
  have k5 : In64 5 := by unfold In64; omega
  refine ⟨rfl, fun i x hx => ?_⟩
  have hl := (List.getElem?_eq_some_iff.1 hx).1
  have hadd : ∀ i, (⟨g, 0, none⟩ : Addr).add (i * 5) = ⟨g, i * 5, none⟩ := fun i => by rw [add_lit_, Nat.zero_add]
  have lt5 : ∀ (i : Nat) (cs : Array Value), cs.size = 5 → (∀ j, j < 5 → w.cell? ⟨g, i * 5 + j, none⟩ = cs[j]?) → ∀ j v, cs[j]? = some v → w.cell? ⟨g, i * 5 + j, none⟩ = some v := by
    intro i cs hcs hj j v hv
    have := (Array.getElem?_eq_some_iff.1 hv).1
    rw [hj j (by omega), hv]
  match i, hl with
  | 0, _ =>
    obtain rfl : (⟨3, 1, 0, 0, []⟩ : PInst) = x := by injection hx
    refine ⟨_, g, 0 * 5, none, 0, 0, rfl, hadd 0, hg, h.lt, none0 _, ⟨k3, k1, k0, k0⟩, lt5 0 _ rfl fun j hj => ?_⟩
    rw [h.cell]
    match j, hj with
    | 0, _ => rfl
    | 1, _ => rfl
    | 2, _ => rfl
    | 3, _ => rfl
    | 4, _ => rfl
  | 1, _ =>
    obtain rfl : (⟨1, 2, 0, 0, [(r, r)]⟩ : PInst) = x := by injection hx
    refine ⟨_, g, 1 * 5, some ⟨g2, 0, none⟩, 1, 1, rfl, hadd 1, hg, h.lt, ⟨⟨rfl, fun _ => ⟨_, rfl, h2.lt, hg2, fun j u hu => ?_⟩⟩, ?_, by omega⟩, ⟨k1, k2, k0, k0⟩, lt5 1 _ rfl fun j hj => ?_⟩
    · rw [add_lit_, h2.cell, Nat.zero_add]
      match j, hu with
      | 0, hu => exact hu
      | 1, hu => exact hu
    · intro x hx
      simp only [List.mem_singleton] at hx
      subst hx
      exact ⟨hr, hr⟩
    rw [h.cell]
    match j, hj with
    | 0, _ => rfl
    | 1, _ => rfl
    | 2, _ => rfl
    | 3, _ => rfl
    | 4, _ => rfl
  | 2, _ =>
    obtain rfl : (⟨3, 3, 0, 1, []⟩ : PInst) = x := by injection hx
    refine ⟨_, g, 2 * 5, none, 0, 0, rfl, hadd 2, hg, h.lt, none0 _, ⟨k3, k3, k0, k1⟩, lt5 2 _ rfl fun j hj => ?_⟩
    rw [h.cell]
    match j, hj with
    | 0, _ => rfl
    | 1, _ => rfl
    | 2, _ => rfl
    | 3, _ => rfl
    | 4, _ => rfl
  | 3, _ =>
    obtain rfl : (⟨5, 0, 0, 0, []⟩ : PInst) = x := by injection hx
    refine ⟨_, g, 3 * 5, none, 0, 0, rfl, hadd 3, hg, h.lt, none0 _, ⟨k5, k0, k0, k0⟩, lt5 3 _ rfl fun j hj => ?_⟩
    rw [h.cell]
    match j, hj with
    | 0, _ => rfl
    | 1, _ => rfl
    | 2, _ => rfl
    | 3, _ => rfl
    | 4, _ => rfl

set_option maxHeartbeats 1000000 in
theorem letter_any (w : World) (r : Int) (hr : In64 r) : Calls Try.prog 28 #[.int .i64 r] w (LetterPost w r) := by
  have hcells : ∃ w2, w2 = (((w.alloc (.cells #[.slice (some ⟨w.heap.size + 1 + 1, 0, none⟩) 4 4, .int .i64 0, .int .i64 2] 27)).alloc (.cells #[.int .i64 r, .int .i64 r] 66)).alloc
      (.cells #[.int .i64 3, .int .i64 1, .int .i64 0, .int .i64 0, .slice none 0 0, .int .i64 1, .int .i64 2, .int .i64 0, .int .i64 0, .slice (some ⟨w.heap.size + 1, 0, none⟩) 1 1, .int .i64 3, .int .i64 3, .int .i64 0, .int .i64 1, .slice none 0 0, .int .i64 5, .int .i64 0, .int .i64 0, .int .i64 0, .slice none 0 0] 64)) ∧
      Cells w2 w.heap.size 27 #[.slice (some ⟨w.heap.size + 1 + 1, 0, none⟩) 4 4, .int .i64 0, .int .i64 2] ∧ Cells w2 (w.heap.size + 1) 66 #[.int .i64 r, .int .i64 r] ∧
      Cells w2 (w.heap.size + 1 + 1) 64 #[.int .i64 3, .int .i64 1, .int .i64 0, .int .i64 0, .slice none 0 0, .int .i64 1, .int .i64 2, .int .i64 0, .int .i64 0, .slice (some ⟨w.heap.size + 1, 0, none⟩) 1 1, .int .i64 3, .int .i64 3, .int .i64 0, .int .i64 1, .slice none 0 0, .int .i64 5, .int .i64 0, .int .i64 0, .int .i64 0, .slice none 0 0] ∧ Upd Nob w w2 := by
    refine ⟨_, rfl, ((Cells.new _ _ _).alloc _).alloc _, ?_, ?_, (((Upd.refl _ _).alloc _).alloc _).alloc _⟩
    · have := (Cells.new (w.alloc (.cells #[.slice (some ⟨w.heap.size + 1 + 1, 0, none⟩) 4 4, .int .i64 0, .int .i64 2] 27)) 66 #[.int .i64 r, .int .i64 r])
      rw [World.size_alloc] at this
      exact this.alloc _
    · have := (Cells.new ((w.alloc (.cells #[.slice (some ⟨w.heap.size + 1 + 1, 0, none⟩) 4 4, .int .i64 0, .int .i64 2] 27)).alloc (.cells #[.int .i64 r, .int .i64 r] 66)) 64 #[.int .i64 3, .int .i64 1, .int .i64 0, .int .i64 0, .slice none 0 0, .int .i64 1, .int .i64 2, .int .i64 0, .int .i64 0, .slice (some ⟨w.heap.size + 1, 0, none⟩) 1 1, .int .i64 3, .int .i64 3, .int .i64 0, .int .i64 1, .slice none 0 0, .int .i64 5, .int .i64 0, .int .i64 0, .int .i64 0, .slice none 0 0])
      rw [World.size_alloc, World.size_alloc] at this
      exact this
  obtain ⟨w2, hw2, C0, C1, C2, hU⟩ := hcells
  go_enter Try.func28, Try.ntmps28
  go_wp2_with fail
  rw [← hw2]
  have e0 : w2.cell? ⟨w.heap.size, 0, none⟩ = some (.slice (some ⟨w.heap.size + 1 + 1, 0, none⟩) 4 4) := C0.cellv rfl
  have e1 : w2.cell? ⟨w.heap.size, 1, none⟩ = some (.int .i64 0) := C0.cellv rfl
  have e2 : w2.cell? ⟨w.heap.size, 2, none⟩ = some (.int .i64 2) := C0.cellv rfl
  clear hw2
  refine bodyPost_ret (by simp [results, Try.results28, go_sem, e0, e1, e2]; try rfl) rfl ?_
  exact ⟨_, rfl, letter_insts hr C2 C1 (by omega) (by omega), hU⟩

theorem reads_cells {w : World} {g : Nat} {t : TypeId} {cs : Array Value} {xs : List Int} (h : Cells w g t cs) (e : cs.toList = intv xs) : Reads w (fun k => k = g) 1 (some ⟨g, 0, none⟩) xs.length (intv xs) := by
  refine ⟨by simp [intv], fun _ => ⟨_, rfl, h.lt, rfl, fun j u hj => ?_⟩⟩
  rw [add_lit_, Nat.zero_add]
  refine h.cellv ?_
  rw [← e] at hj
  simpa using hj
theorem letter_ans : ansF (letterI 97) 0 2 [98, 97] 0 false = ((some ([1, 2], 0), 6), 0) := by decide +kernel

set_option maxHeartbeats 1000000 in
theorem awake_any (w : World) : Calls Try.prog 8 #[] w fun e w' => e = .returned (.bool true) ∧ Upd Nob w w' := by
  have k0 : In64 0 := by unfold In64; omega
  have k2 : In64 2 := by unfold In64; omega
  have k97 : In64 97 := by unfold In64; omega
  have ht : ∀ w2 : World, TextR (w2.alloc (.cells #[.int .i64 98, .int .i64 97] 3)) (fun k => w2.heap.size ≤ k) (some ⟨w2.heap.size, 0, none⟩) 2 [98, 97] := fun w2 =>
    ⟨(reads_cells (xs := [98, 97]) (Cells.new w2 _ #[.int .i64 98, .int .i64 97]) rfl).weaken (fun k hk => by omega), by intro x hx; simp at hx; rcases hx with rfl | rfl <;> (unfold In64; omega), by omega⟩
  have HT := hideP ht
  clear ht
  go_enter Try.func8, Try.ntmps8
  go_wp2_with (first
    | (go_at_call 28; refine (letter_any _ 97 k97).mono ?_; rintro e w1 ⟨g, rfl, hI, hU1⟩)
    | fail)
  refine (pk_run (w1.alloc (.cells #[.int .i64 98, .int .i64 97] 3)) (fun k => w.heap.size ≤ k) (some ⟨g, 0, none⟩) 4 4 (letterI 97) 0 2 (some ⟨w1.heap.size, 0, none⟩) 2 2 [98, 97] 0 false (hI.upd ((Upd.refl Nob w1).alloc _) (fun _ _ => not_nob)) k0 k2 (by omega)
    ⟨(HT.out w1).r.weaken (fun k hk => Nat.le_trans hU1.size hk), (HT.out w1).i, (HT.out w1).n⟩ k0).mono ?_
  rw [letter_ans]
  rintro e w3 ⟨FA, fn, fc, rfl, rfl, -, ho, hU3⟩
  have hlen : (capsOf (some (([1, 2] : List Int), (0 : Int)))).length = 2 := rfl
  obtain ⟨gf, cf, hv, -, -⟩ := ho.form (by rw [hlen]; omega)
  injection hv with h1 h2 h3
  subst h1
  subst h3
  have hwh : whOf (some (([1, 2] : List Int), (0 : Int))) = 0 := rfl
  have c0 : w3.cell? ⟨gf, 0, none⟩ = some (.int .i64 1) := by rw [ho.cellAt 0 (by rw [hlen]; omega)]; rfl
  have c1 : w3.cell? ⟨gf, 1, none⟩ = some (.int .i64 2) := by rw [ho.cellAt 1 (by rw [hlen]; omega)]; rfl
  have hgf := (ho.lt gf rfl).2
  have hUo := (Upd.refl Nob w3).alloc (.cells #[.bool true, .slice (some ⟨gf, 0, none⟩) 2 fc, .int .i64 0, .int .i64 6] 33)
  have CO := Cells.new w3 33 #[.bool true, .slice (some ⟨gf, 0, none⟩) 2 fc, .int .i64 0, .int .i64 6]
  have c0' := (hUo.cell (p := ⟨gf, 0, none⟩) hgf not_nob).trans c0
  have c1' := (hUo.cell (p := ⟨gf, 1, none⟩) hgf not_nob).trans c1
  have o0 := CO.cellv (i := 0) (v := .bool true) rfl
  have o1 := CO.cellv (i := 0 + 1) (v := .slice (some ⟨gf, 0, none⟩) 2 fc) rfl
  have o3 := CO.cellv (i := 0 + 3) (v := .int .i64 6) rfl
  simp only [hlen, hwh]
  clear ho hlen hwh CO c0 c1
  have HU := hideP (((hU1.alloc (.cells #[.int .i64 98, .int .i64 97] 3)).trans hU3 (fun _ _ h => h)).trans hUo (fun _ _ h => h))
  clear hU1 hU3 hUo hI
  go_wp2_with fail
  go_ret
  exact ⟨rfl, HU.out⟩
end Go.Proofs.Ytnkefclbchpafaa
