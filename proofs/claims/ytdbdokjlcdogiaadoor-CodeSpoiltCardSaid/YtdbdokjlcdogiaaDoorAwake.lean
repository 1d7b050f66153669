/-
  The walks of heronlaw10.one, awake.
-/
import Derived.Test.YtdbdokjlcdogiaaDoorSays
import Derived.Handy
namespace Go.Proofs.YtdbdokjlcdogiaaDoor
open Go.RowKit
set_option linter.unusedVariables false

def oneI : List PInst := [⟨5, 0, 0, 0, []⟩]
theorem one_check : checkB oneI 0 2 = true := by decide
theorem one_bytes : bytesOf oneI 0 2 = ([72, 82, 80, 71, 2, 0, 1, 5, 0] ++ tail4 (sumV [72, 82, 80, 71, 2, 0, 1, 5, 0]), 0) := by
  have hp : ∀ n, n < 128 → putN n = [(n : Int)] := fun n hn => by unfold putN; simp [hn]
  have hh : headB oneI.length 0 2 = [72, 82, 80, 71, 2, 0, 1] := by
    unfold headB
    rw [hp _ (by decide), hp _ (by decide), hp _ (by decide)]
    rfl
  have hi : instB ⟨5, 0, 0, 0, []⟩ = [5, 0] := by
    unfold instB
    have : numsOf ⟨5, 0, 0, 0, []⟩ = [0] := by unfold numsOf; simp
    rw [this]
    simp only [List.flatMap_cons, List.flatMap_nil]
    rw [hp _ (by decide)]
    rfl
  unfold bytesOf
  rw [one_check, hh]
  have : instsB oneI [72, 82, 80, 71, 2, 0, 1] = some [72, 82, 80, 71, 2, 0, 1, 5, 0] := by
    unfold oneI instsB
    rw [hi]
    rfl
  rw [this]
  rfl
theorem one_text : textOf oneI 0 2 = ([99, 97, 112, 115, 32, 50, 32, 115, 116, 97, 114, 116, 32, 48, 10, 32, 32, 109, 97, 116, 99, 104, 32, 48, 10], 0) := by
  have hh : headT 0 2 = [99, 97, 112, 115, 32, 50, 32, 115, 116, 97, 114, 116, 32, 48, 10] := by
    unfold headT
    rw [decDigits_small (by decide), decDigits_small (by decide)]
    rfl
  have hi : lineT ⟨5, 0, 0, 0, []⟩ = [32, 32, 109, 97, 116, 99, 104, 32, 48, 10] := by
    unfold lineT
    have : numsOf ⟨5, 0, 0, 0, []⟩ = [0] := by unfold numsOf; simp
    rw [this]
    simp only [List.flatMap_cons, List.flatMap_nil]
    unfold numT
    rw [decDigits_small (by decide)]
    rfl
  unfold textOf
  rw [one_check, hh]
  have : linesT oneI [99, 97, 112, 115, 32, 50, 32, 115, 116, 97, 114, 116, 32, 48, 10] = some [99, 97, 112, 115, 32, 50, 32, 115, 116, 97, 114, 116, 32, 48, 10, 32, 32, 109, 97, 116, 99, 104, 32, 48, 10] := by
    unfold oneI linesT
    rw [hi]
    rfl
  rw [this]
  rfl
def OnePost (w : World) (e : Ending) (w' : World) : Prop :=
  ∃ g, e = .returned (.agg #[.slice (some ⟨g, 0, none⟩) 1 1, .int .i64 0, .int .i64 2]) ∧ InstsR w' (fun k => w.heap.size ≤ k) (some ⟨g, 0, none⟩) 1 oneI ∧ Upd Nob w w'
theorem one_insts {w : World} {S : Nat → Prop} {g : Nat} {t : TypeId} (h : Cells w g t #[.int .i64 5, .int .i64 0, .int .i64 0, .int .i64 0, .slice none 0 0]) (hg : S g) : InstsR w S (some ⟨g, 0, none⟩) 1 oneI := by
  have k0 : In64 0 := by unfold In64; omega
  have k5 : In64 5 := by unfold In64; omega
  refine ⟨rfl, fun i x hx => ?_⟩
  have hl := (List.getElem?_eq_some_iff.1 hx).1
  match i, hl with
  | 0, _ =>
    obtain rfl : (⟨5, 0, 0, 0, []⟩ : PInst) = x := by injection hx
    refine ⟨_, g, 0, none, 0, 0, rfl, by rw [add_lit_], hg, h.lt, ⟨Reads.nil_, (fun x h => by cases h), by omega⟩, ⟨k5, k0, k0, k0⟩, fun j v hv => ?_⟩
    rw [h.cell, Nat.zero_add]
    exact hv
set_option maxHeartbeats 1000000 in
theorem one_any (w : World) : Calls Tryd.prog 21 #[] w (OnePost w) := by
  have hw : ∃ w2 : World, w2 = (w.alloc (.cells #[.slice (some ⟨w.heap.size + 1, 0, none⟩) 1 1, .int .i64 0, .int .i64 2] 24)).alloc (.cells #[.int .i64 5, .int .i64 0, .int .i64 0, .int .i64 0, .slice none 0 0] 48) := ⟨_, rfl⟩
  obtain ⟨w2, hw⟩ := hw
  have C1 : Cells w2 (w.heap.size + 1) 48 #[.int .i64 5, .int .i64 0, .int .i64 0, .int .i64 0, .slice none 0 0] := by
    have := Cells.new (w.alloc (.cells #[.slice (some ⟨w.heap.size + 1, 0, none⟩) 1 1, .int .i64 0, .int .i64 2] 24)) 48 #[.int .i64 5, .int .i64 0, .int .i64 0, .int .i64 0, .slice none 0 0]
    rw [World.size_alloc] at this
    rw [hw]
    exact this
  have C0 : Cells w2 w.heap.size 24 #[.slice (some ⟨w.heap.size + 1, 0, none⟩) 1 1, .int .i64 0, .int .i64 2] := by rw [hw]; exact (Cells.new _ _ _).alloc _
  have hU : Upd Nob w w2 := by rw [hw]; exact ((Upd.refl Nob w).alloc _).alloc _
  have HW := hideP hw
  clear hw
  go_enter Tryd.func21, Tryd.ntmps21
  go_wp2_with fail
  rw [← HW.out]
  have e0 : w2.cell? ⟨w.heap.size, 0, none⟩ = some (.slice (some ⟨w.heap.size + 1, 0, none⟩) 1 1) := C0.cellv rfl
  have e1 : w2.cell? ⟨w.heap.size, 1, none⟩ = some (.int .i64 0) := C0.cellv rfl
  have e2 : w2.cell? ⟨w.heap.size, 2, none⟩ = some (.int .i64 2) := C0.cellv rfl
  refine bodyPost_ret (by simp [results, Tryd.results21, go_sem, e0, e1, e2]; try rfl) rfl ?_
  exact ⟨_, rfl, one_insts C1 (by omega), hU⟩

set_option maxRecDepth 100000 in
set_option maxHeartbeats 2000000 in
theorem awake_any (w : World) (hpt : PowTab w) (hwt : WordTab w) : Calls Tryd.prog 7 #[] w fun e w' => e = .returned (.bool true) ∧ Upd Nob w w' := by
  have k0 : In64 0 := by unfold In64; omega
  have k2 : In64 2 := by unfold In64; omega
  have HPT := hideP hpt
  have HWT := hideP hwt
  have HB := hideP one_bytes
  have HT := hideP one_text
  clear hpt hwt
  go_enter Tryd.func7, Tryd.ntmps7
  go_upto_region 2 with (first
    | (go_at_call 21; refine (one_any w).mono ?_; rintro e w2 ⟨g, rfl, hI, hU⟩)
    | (go_at_call 18; refine (bytes_any _ _ _ 1 1 oneI 0 2 hI k0 k2 (by omega)).mono ?_; rintro e w3 ⟨A, c, he, ho, hU3⟩; rw [HB.out] at he ho; subst he))
  have hU3' := hU.trans hU3 (fun _ _ h => h)
  have HU3 := hideP hU3'
  obtain ⟨gb, rfl, hcb⟩ := ho.form (by decide)
  have hb0 : w3.cell? ⟨gb, 0, none⟩ = some (.int .u8 72) := by have := ho.cells rfl 0 (.int .u8 72) rfl; rw [add_lit_] at this; exact this
  have hb7 : w3.cell? ⟨gb, 7, none⟩ = some (.int .u8 5) := by have := ho.cells rfl 7 (.int .u8 5) rfl; rw [add_lit_] at this; exact this
  have HO := hideP ho
  clear ho hcb hU3 hU3' hU hI
  go_upto_region 3 with (first
    | (go_at_call 21; refine (one_any w3).mono ?_; rintro e w4 ⟨g4, rfl, hI, hU⟩)
    | (go_at_call 22; refine (print_any _ _ _ 1 1 oneI 0 2 hI k0 k2 (by omega) (HPT.out.upd (HU3.out.trans hU (fun _ _ h => h))) (HWT.out.upd (HU3.out.trans hU (fun _ _ h => h)))).mono ?_; rintro e w5 ⟨he, hU5⟩; rw [HT.out] at he; subst he))
  have hU35 := hU.trans hU5 (fun _ _ h => h)
  have hb0' : w5.cell? ⟨gb, 0, none⟩ = some (.int .u8 72) := (hU35.cell (World.block_lt_of_cell? _ _ hb0) not_nob).trans hb0
  have hb7' : w5.cell? ⟨gb, 7, none⟩ = some (.int .u8 5) := (hU35.cell (World.block_lt_of_cell? _ _ hb7) not_nob).trans hb7
  have HU5 := hideP (HU3.out.trans hU35 (fun _ _ h => h))
  clear hb0 hb7 hU hU5 hU35 hI
  go_wp2_with fail
  go_ret
  exact ⟨rfl, HU5.out⟩
end Go.Proofs.YtdbdokjlcdogiaaDoor
