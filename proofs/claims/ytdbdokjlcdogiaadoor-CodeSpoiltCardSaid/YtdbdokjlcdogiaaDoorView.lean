/-
  From the row's reading of an argument to the words of XMem: a slice of integers.
-/
import Derived.Test.YtdbdokjlcdogiaaDoorMem
import Derived.ProofKit
import Derived.OpenShut
import Derived.ShutString
import Derived.ChangeOld
import Derived.SizedLaws
namespace Go.Proofs.YtdbdokjlcdogiaaDoor
open Go.ChangeShapes Go.WideShapes Go.ChangeAt Go.RowKit
set_option linter.unusedVariables false

def intv (xs : List Int) : List Value := xs.map (Value.int .i64)
theorem intv_at {xs : List Int} {k : Nat} {x : Int} (h : xs[k]? = some x) : (intv xs)[k]? = some (.int .i64 x) := by simp [intv, h]
theorem intv_length (xs : List Int) : (intv xs).length = xs.length := by simp [intv]
theorem intv_append (xs ys : List Int) : intv (xs ++ ys) = intv xs ++ intv ys := by simp [intv]
theorem intv_one (xs : List Int) : ∀ u ∈ intv xs, u.oneCell' = true := by
  intro u hu
  simp only [intv, List.mem_map] at hu
  obtain ⟨_, _, rfl⟩ := hu
  rfl
theorem Reads.int1 {w : World} {S : Nat → Prop} {A : Option Addr} {n k : Nat} {xs : List Int} (h : Reads w S 1 A n (intv xs)) (hk : k < n) :
    ∃ ad x, A = some ad ∧ xs[k]? = some x ∧ w.cell? (ad.add k) = some (.int .i64 x) := by
  obtain ⟨ad, u, e, _, _, hu, hc⟩ := h.at1 hk
  simp only [intv, List.getElem?_map, Option.map_eq_some_iff] at hu
  obtain ⟨x, hx, rfl⟩ := hu
  exact ⟨ad, x, e, hx, hc⟩

/-- an int64 -/
def In64 (x : Int) : Prop := -9223372036854775808 ≤ x ∧ x ≤ 9223372036854775807
theorem in64_of_wf {x : Int} (h : (Lit.int .i64 x).wf = true) : In64 x := by
  unfold In64
  simp [Lit.wf, IntKind.min, IntKind.max, IntKind.signed, IntKind.bits] at h
  omega

section
variable {H : Type} {enc : TypeId × Value → H} {P : Program} {W : World} {t e : TypeId} {A : Option Addr} {n c : Nat} {d : DataW H} {p : List MemPlace}

/-- how many places a slice's datum has, spare ones too -/
def places (d : DataW H) : Nat := match d with | .slice es sp => es.length + sp.length | _ => 0

theorem view_ints (ht : P.underlying t = some (.slice e)) (he : P.underlying e = some (.int .i64)) (hc : P.cellsOf e = 1)
    (h : DataW.Trod enc P W 0 (fun _ => true) true t (.slice A n c) d p) :
    ∃ xs : List Int, Reads W (· < W.heap.size) 1 A n (intv xs) ∧ (∀ x ∈ xs, In64 x) ∧ n ≤ c ∧ c = places d ∧ (d = .nil ∨ ∃ es sp, d = .slice es sp) := by
  obtain ⟨fuel, hf⟩ := h
  rcases open_ints ht he hc hf with ⟨hcs, hx⟩ | ⟨a, len, cap, zs, hcs, _, hl, hm, hz, hx, hcell, hwz⟩
  · simp only [Value.cells, List.cons.injEq, and_true, Value.slice.injEq] at hcs
    obtain ⟨rfl, rfl, rfl⟩ := hcs
    injection hx with hx _
    subst hx
    exact ⟨[], Reads.nil_, by simp, Nat.le_refl _, rfl, .inl rfl⟩
  · simp only [Value.cells, List.cons.injEq, and_true, Value.slice.injEq] at hcs
    obtain ⟨rfl, rfl, rfl⟩ := hcs
    injection hx with hx _
    subst hx
    simp only [if_true] at hz
    refine ⟨zs.take n, ⟨by simp [intv]; omega, fun hn => ?_⟩, fun x hx => in64_of_wf (hwz x (List.mem_of_mem_take hx)), hl, ?_, .inr ⟨_, _, rfl⟩⟩
    · have h0 := hcell 0 (by omega)
      have hb := World.block_lt_of_cell? W _ h0
      rw [add_block] at hb
      refine ⟨a, rfl, hb, hb, fun j u hu => ?_⟩
      simp only [intv, List.getElem?_map, Option.map_eq_some_iff] at hu
      obtain ⟨x, hx, rfl⟩ := hu
      rw [List.getElem?_take] at hx
      split at hx
      · rw [hcell j (by omega)]
        simp [List.getD, hx]
      · cases hx
    · simp [places, lits]; omega
end
end Go.Proofs.YtdbdokjlcdogiaaDoor
