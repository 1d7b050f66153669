/-
  How many instructions a search looks at: at least one, at most each once a place. Plain lists, no memory.
-/
import Derived.Test.YtnkefclbchpafaaLeast
import Derived.Test.YtnkefclbchpafaaRefRun
namespace Go.Proofs.Ytnkefclbchpafaa
set_option linter.unusedVariables false

section
variable {is : List PInst} {text : List Int}
theorem visit_steps {j : Nat} : ∀ (f pc : Nat) (caps : List Int) (s : VSt), s.steps ≤ (visitF is text j f pc caps s).steps
  | 0, pc, caps, s => Nat.le_refl _
  | f + 1, pc, caps, s => by
    rcases ho : s.over with _ | _
    rotate_left
    · rw [visit_over ho]; exact Nat.le_refl _
    rcases hm : s.met[pc]? with _ | b
    · rw [visit_out hm]; exact Nat.le_refl _
    rcases b with _ | _
    rotate_left
    · rw [visit_met hm]; exact Nat.le_refl _
    rcases hx : is[pc]? with _ | x
    · rw [visit_none hx]; exact Nat.le_refl _
    have hk : s.steps ≤ (markS s pc).steps := Nat.le_succ _
    rw [visit_go ho hm hx]
    by_cases o2 : x.op = 2
    · rw [if_pos o2]; exact Nat.le_trans hk (Nat.le_trans (visit_steps f _ _ _) (visit_steps f _ _ _))
    rw [if_neg o2]
    by_cases o7 : x.op = 7
    · rw [if_pos o7]; exact Nat.le_trans hk (visit_steps f _ _ _)
    rw [if_neg o7]
    by_cases o3 : x.op = 3
    · rw [if_pos o3]; exact Nat.le_trans hk (visit_steps f _ _ _)
    rw [if_neg o3]
    by_cases o4 : x.op = 4
    · rw [if_pos o4]
      split
      · exact Nat.le_trans hk (visit_steps f _ _ _)
      · exact hk
    rw [if_neg o4]
    by_cases o1 : x.op = 1
    · rw [if_pos o1]
      split
      · exact hk
      · exact hk
    rw [if_neg o1]
    by_cases o5 : x.op = 5
    · rw [if_pos o5]; exact hk
    rw [if_neg o5]; exact hk
theorem all_steps {j : Nat} : ∀ (l : List (Nat × List Int)) (s : VSt), s.steps ≤ (visitAll is text j l s).steps
  | [], s => Nat.le_refl _
  | x :: r, s => Nat.le_trans (visit_steps (is.length + 1) x.1 x.2 s) (all_steps r _)
theorem visit_first {j pc f : Nat} {caps : List Int} {s : VSt} (ho : s.over = false) (hm : s.met[pc]? = some false) (hpc : pc < is.length) : s.steps + 1 ≤ (visitF is text j (f + 1) pc caps s).steps := by
  have hx := List.getElem?_eq_getElem hpc
  have hk : s.steps + 1 = (markS s pc).steps := rfl
  rw [visit_go ho hm hx, hk]
  split
  · exact Nat.le_trans (visit_steps f _ _ _) (visit_steps f _ _ _)
  · split
    · exact visit_steps f _ _ _
    · split
      · exact visit_steps f _ _ _
      · split
        · split
          · exact visit_steps f _ _ _
          · exact Nat.le_refl _
        · split
          · split
            · exact Nat.le_refl _
            · exact Nat.le_refl _
          · split
            · exact Nat.le_refl _
            · exact Nat.le_refl _
section
variable {st : Nat} {nn : List Int} {a0 : Nat} {b : Bool}
theorem search_lo : ∀ (f j : Nat) (ths : List (Nat × List Int)) (fo : Option (List Int × Int)) (steps : Nat), steps ≤ (searchF is st nn text a0 b f j ths fo steps).2
  | 0, j, ths, fo, steps => Nat.le_refl _
  | f + 1, j, ths, fo, steps => by
    rw [search_step rfl]
    have h1 : steps ≤ (placeF is st nn text j (decide (j = a0) || !b && fo.isNone) ths fo steps).steps := by
      rw [placeF_eq]
      exact all_steps _ (fresh is.length fo steps)
    split
    · exact h1
    · exact Nat.le_trans h1 (search_lo f (j + 1) _ _ _)
theorem search_hi : ∀ (f j : Nat) (ths : List (Nat × List Int)) (fo : Option (List Int × Int)) (steps : Nat), (searchF is st nn text a0 b f j ths fo steps).2 ≤ steps + f * is.length
  | 0, j, ths, fo, steps => by show steps ≤ _; omega
  | f + 1, j, ths, fo, steps => by
    rw [search_step rfl]
    have h1 := (placeF_work (is := is) (text := text) (j := j) st nn (decide (j = a0) || !b && fo.isNone) ths fo steps).1
    have h2 : (f + 1) * is.length = f * is.length + is.length := Nat.succ_mul _ _
    split
    · show (placeF is st nn text j (decide (j = a0) || !b && fo.isNone) ths fo steps).steps ≤ _
      omega
    · have h3 := search_hi f (j + 1) (placeF is st nn text j (decide (j = a0) || !b && fo.isNone) ths fo steps).next (placeF is st nn text j (decide (j = a0) || !b && fo.isNone) ths fo steps).found (placeF is st nn text j (decide (j = a0) || !b && fo.isNone) ths fo steps).steps
      omega
end
theorem run_steps {st m i : Nat} (b : Bool) (hst : st < is.length) (hi : i ≤ text.length) : 1 ≤ (runF is st m text i b).2 ∧ (runF is st m text i b).2 ≤ is.length * (text.length - i + 1) := by
  unfold runF
  obtain ⟨f, hf⟩ : ∃ f, text.length + 1 - i = f + 1 := ⟨text.length - i, by omega⟩
  refine ⟨?_, ?_⟩
  · rw [hf, search_step rfl]
    have hours : (decide (i = i) || !b && (none : Option (List Int × Int)).isNone) = true := by simp
    rw [hours, placeF_eq]
    simp only [if_true]
    have h1 : 1 ≤ (visitAll is text i ([] ++ [(st, List.replicate m (-1))]) (fresh is.length none 0)).steps := by
      have h2 := visit_first (is := is) (text := text) (j := i) (f := is.length) (pc := st) (caps := List.replicate m (-1)) (s := fresh is.length none 0) rfl (by show (List.replicate is.length false)[st]? = _; rw [List.getElem?_replicate, if_pos hst]) hst
      exact h2
    split
    · exact h1
    · exact Nat.le_trans h1 (search_lo _ _ _ _ _)
  · have h := search_hi (is := is) (text := text) (st := st) (nn := List.replicate m (-1)) (a0 := i) (b := b) (text.length + 1 - i) i [] none 0
    rw [Nat.zero_add, Nat.mul_comm, show text.length + 1 - i = text.length - i + 1 by omega] at h
    rw [show text.length + 1 - i = text.length - i + 1 by omega]
    exact h
end
end Go.Proofs.Ytnkefclbchpafaa
