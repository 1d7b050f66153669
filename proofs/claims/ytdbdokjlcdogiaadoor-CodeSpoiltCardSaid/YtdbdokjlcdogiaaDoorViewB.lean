/-
  From the row's reading of an argument to the words of XMem: a slice of bytes, a byte.
-/
import Derived.Test.YtdbdokjlcdogiaaDoorView
import Derived.Test.YtdbdokjlcdogiaaDoorNum
namespace Go.Proofs.YtdbdokjlcdogiaaDoor
open Go.ChangeShapes Go.WideShapes Go.ChangeAt Go.RowKit
set_option linter.unusedVariables false

theorem u8_of_wf {x : Int} (h : (Lit.int .u8 x).wf = true) : 0 ≤ x ∧ x ≤ 255 := by
  simp [Lit.wf, IntKind.min, IntKind.max, IntKind.signed, IntKind.bits] at h
  omega
section
variable {H : Type} {enc : TypeId × Value → H} {P : Program} {W : World} {t e : TypeId} {A : Option Addr} {n c : Nat} {d : DataW H} {p : List MemPlace}
theorem view_bytes (ht : P.underlying t = some (.slice e)) (he : P.underlying e = some (.int .u8)) (hc : P.cellsOf e = 1)
    (h : DataW.Trod enc P W 0 (fun _ => true) true t (.slice A n c) d p) :
    ∃ xs : List Int, Reads W (· < W.heap.size) 1 A n (bytv xs) ∧ (∀ x ∈ xs, 0 ≤ x ∧ x ≤ 255) ∧ n ≤ c ∧ c = places d ∧ (d = .nil ∨ ∃ es sp, d = .slice es sp) := by
  obtain ⟨fuel, hf⟩ := h
  rcases open_ints ht he hc hf with ⟨hcs, hx⟩ | ⟨a, len, cap, zs, hcs, _, hl, hm, hz, hx, hcell, hwz⟩
  · simp only [Value.cells, List.cons.injEq, and_true, Value.slice.injEq] at hcs
    obtain ⟨rfl, rfl, rfl⟩ := hcs
    injection hx with hx _
    subst hx
    exact ⟨[], Reads.nil_, by simp, Nat.le_refl _, rfl, .inl rfl⟩
  · simp only [Value.cells, List.cons.injEq, and_true, Value.slice.injEq] at hcs
    obtain ⟨rfl, rfl, rfl⟩ := hcs
    injection hx with hx _
    subst hx
    simp only [if_true] at hz
    refine ⟨zs.take n, ⟨by simp [bytv]; omega, fun hn => ?_⟩, fun x hx => u8_of_wf (hwz x (List.mem_of_mem_take hx)), hl, ?_, .inr ⟨_, _, rfl⟩⟩
    · have h0 := hcell 0 (by omega)
      have hb := World.block_lt_of_cell? W _ h0
      rw [add_block] at hb
      refine ⟨a, rfl, hb, hb, fun j u hu => ?_⟩
      simp only [bytv, List.getElem?_map, Option.map_eq_some_iff] at hu
      obtain ⟨x, hx, rfl⟩ := hu
      rw [List.getElem?_take] at hx
      split at hx
      · rw [hcell j (by omega)]
        simp [List.getD, hx]
      · cases hx
    · simp [places, lits]; omega
end
end Go.Proofs.YtdbdokjlcdogiaaDoor
