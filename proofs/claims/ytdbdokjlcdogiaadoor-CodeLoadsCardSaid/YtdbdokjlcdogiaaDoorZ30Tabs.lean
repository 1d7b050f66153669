/-
  ViewB, Tabs, put together.
-/
import Derived.Test.YtdbdokjlcdogiaaDoorZ00Need
import Derived.Test.YtdbdokjlcdogiaaDoorZ03LoadN
import Derived.Test.YtdbdokjlcdogiaaDoorRows
import Derived.Test.YtdbdokjlcdogiaaDoorZ23RefPrint
import Derived.LaidMore
import Derived.Stop.Joined
import Derived.Lib.LaidTab
import Derived.Stop.LaidErr

/-
  From the row's reading of an argument to the words of XMem: a slice of bytes, a byte.
-/
namespace Go.Proofs.YtdbdokjlcdogiaaDoor
open Go.ChangeShapes Go.WideShapes Go.ChangeAt Go.RowKit
set_option linter.unusedVariables false

theorem u8_of_wf {x : Int} (h : (Lit.int .u8 x).wf = true) : 0 ≤ x ∧ x ≤ 255 := by
  simp [Lit.wf, IntKind.min, IntKind.max, IntKind.signed, IntKind.bits] at h
  omega
section
variable {H : Type} {enc : TypeId × Value → H} {P : Program} {W : World} {t e : TypeId} {A : Option Addr} {n c : Nat} {d : DataW H} {p : List MemPlace}
theorem view_bytes (ht : P.underlying t = some (.slice e)) (he : P.underlying e = some (.int .u8)) (hc : P.cellsOf e = 1)
    (h : DataW.Trod enc P W 0 (fun _ => true) true t (.slice A n c) d p) :
    ∃ xs : List Int, Reads W (· < W.heap.size) 1 A n (bytv xs) ∧ (∀ x ∈ xs, 0 ≤ x ∧ x ≤ 255) ∧ n ≤ c ∧ c = places d ∧ (d = .nil ∨ ∃ es sp, d = .slice es sp) := by
  obtain ⟨fuel, hf⟩ := h
  rcases open_ints ht he hc hf with ⟨hcs, hx⟩ | ⟨a, len, cap, zs, hcs, _, hl, hm, hz, hx, hcell, hwz⟩
  · simp only [Value.cells, List.cons.injEq, and_true, Value.slice.injEq] at hcs
    obtain ⟨rfl, rfl, rfl⟩ := hcs
    injection hx with hx _
    subst hx
    exact ⟨[], Reads.nil_, by simp, Nat.le_refl _, rfl, .inl rfl⟩
  · simp only [Value.cells, List.cons.injEq, and_true, Value.slice.injEq] at hcs
    obtain ⟨rfl, rfl, rfl⟩ := hcs
    injection hx with hx _
    subst hx
    simp only [if_true] at hz
    refine ⟨zs.take n, ⟨by simp [bytv]; omega, fun hn => ?_⟩, fun x hx => u8_of_wf (hwz x (List.mem_of_mem_take hx)), hl, ?_, .inr ⟨_, _, rfl⟩⟩
    · have h0 := hcell 0 (by omega)
      have hb := World.block_lt_of_cell? W _ h0
      rw [add_block] at hb
      refine ⟨a, rfl, hb, hb, fun j u hu => ?_⟩
      simp only [bytv, List.getElem?_map, Option.map_eq_some_iff] at hu
      obtain ⟨x, hx, rfl⟩ := hu
      rw [List.getElem?_take] at hx
      split at hx
      · rw [hcell j (by omega)]
        simp [List.getD, hx]
      · cases hx
    · simp [places, lits]; omega
end
end Go.Proofs.YtdbdokjlcdogiaaDoor

/-
  What the rows list: the table of powers and the operations' words read as they are laid.
-/
namespace Go.Proofs.YtdbdokjlcdogiaaDoor
open Go.RowKit
set_option linter.unusedVariables false

/-- an array of strings that reads as listed holds them, cell for cell -/
theorem cells_of_words {H : Type} {enc : TypeId × Value → H} {P : Program} {w : World} {base : Nat} {sp : Nat → Bool} {held : Bool} {fuel : Nat} {t e : TypeId} {n : Nat} {cs : List Value} {zs : List (List UInt8)} {p : List MemPlace}
    (ht : P.underlying t = some (.array n e)) (he : P.underlying e = some .string) (hce : P.cellsOf e = 1) (hct : P.cellsOf t = n)
    (h : DataW.trod enc P w base sp held fuel t cs = some (DataW.agg (zs.map fun z => (DataW.lit (Lit.string z) : DataW H)), p)) : ∀ (i : Nat) (z : List UInt8), zs[i]? = some z → cs[i]? = some (Value.string ⟨z.toArray⟩) := by
  cases fuel with
  | zero => simp [DataW.trod] at h
  | succ fuel =>
    simp only [DataW.trod, ht, hce, hct, Nat.mul_one] at h
    split at h
    · rename_i hl
      obtain ⟨xs, hm, hx⟩ := Option.map_eq_some_iff.1 h
      have hxs : xs.map (·.1) = zs.map fun z => (DataW.lit (.string z) : DataW H) := by
        have := congrArg Prod.fst hx
        simpa using this
      have hxl : xs.length = n := by simpa using Lib.mapM_length hm
      have hzl : zs.length = n := by
        have := congrArg List.length hxs
        simp at this
        omega
      intro i z hz
      have hi : i < n := by have := (List.getElem?_eq_some_iff.1 hz).1; omega
      obtain ⟨b, hb, hf⟩ := Lib.mapM_at hm i i (by simp [hi])
      obtain ⟨s, hc, rfl, _⟩ := DataW.trod_string he hf
      have h1 : cs[i]? = some (Value.string s) := by
        have := congrArg (·[0]?) hc
        simpa [List.getElem?_take, List.getElem?_drop] using this
      have h2 : (xs.map (·.1))[i]? = some (DataW.lit (.string s.data.toList) : DataW H) := by simp [hb]
      rw [hxs] at h2
      simp only [List.getElem?_map, hz, Option.map_some, Option.some.injEq, DataW.lit.injEq, Lit.string.injEq] at h2
      rw [h1, h2]
    · cases h
theorem words_list : ∀ i : Nat, i < 8 → ([[], [114, 117, 110, 101], [97, 108, 116], [99, 97, 112], [97, 115, 115, 101, 114, 116], [109, 97, 116, 99, 104], [102, 97, 105, 108], [110, 111, 112]] : List (List UInt8))[i]? = some (wordT i) := by
  intro i hi
  match i, hi with
  | 0, _ => rfl
  | 1, _ => rfl
  | 2, _ => rfl
  | 3, _ => rfl
  | 4, _ => rfl
  | 5, _ => rfl
  | 6, _ => rfl
  | 7, _ => rfl
theorem gWords : Tryd.prog.globalNamed "heron/code.words" = some 0 := by kernel_rfl
theorem gPow : Tryd.prog.globalNamed "internal/strconv.uint64pow10" = some 1 := by kernel_rfl
theorem tWords : (Tryd.prog.globals[0]?).map (·.type) = some 80 := by kernel_rfl
theorem tPow : (Tryd.prog.globals[1]?).map (·.type) = some 101 := by kernel_rfl
theorem tabs_of {W : World} (h : laidMetH Tryd.prog [("math/bits.deBruijn32tab", Rows.laid_math_bits_deBruijn32tab), ("math/bits.deBruijn64tab", Rows.laid_math_bits_deBruijn64tab), ("internal/strconv.uint64pow10", Rows.laid_internal_strconv_uint64pow10), ("heron/code.words", Rows.laid_heron_code_words)] W) : PowTab W ∧ WordTab W := by
  rw [MakeChecks.laidMetH_plain _ _ _ (by kernel_rfl)] at h
  have h2 := h.tail.tail
  refine ⟨Lib.tabIs_of_head gPow tPow Tryd.underlying101 Tryd.underlying94 (by kernel_rfl) (by kernel_rfl) h2, ?_⟩
  obtain ⟨ps, ⟨g', t', cs, fuel, p, q, hg', ht', hvar, hd, _, _⟩, _⟩ := h2.tail
  obtain rfl := Option.some.inj (gWords.symm.trans hg')
  obtain rfl := Option.some.inj (tWords.symm.trans ht')
  intro i hi
  have hw := cells_of_words (cs := cs.toList) (zs := [[], [114, 117, 110, 101], [97, 108, 116], [99, 97, 112], [97, 115, 115, 101, 114, 116], [109, 97, 116, 99, 104], [102, 97, 105, 108], [110, 111, 112]]) Tryd.underlying80 Tryd.underlying9 (by kernel_rfl) (by kernel_rfl) hd i _ (words_list i hi)
  have hc := World.var?_cell gWords hvar i
  rw [hc]
  rw [Array.getElem?_toList] at hw
  exact hw
end Go.Proofs.YtdbdokjlcdogiaaDoor
