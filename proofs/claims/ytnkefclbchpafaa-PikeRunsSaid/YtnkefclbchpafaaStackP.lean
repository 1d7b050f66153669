/-
  A visit with a stack in place of the recursion: what is popped, what is pushed. Plain lists, no memory.
-/
import Derived.Test.YtnkefclbchpafaaHits
namespace Go.Proofs.Ytnkefclbchpafaa
set_option linter.unusedVariables false

section
variable {is : List PInst} {text : List Int} {j : Nat}
/-- enough fuel is as good as more -/
theorem visit_fuel : ∀ (f g pc : Nat) (caps : List Int) (s : VSt), s.met.count false < f → s.met.count false < g → visitF is text j f pc caps s = visitF is text j g pc caps s
  | 0, g, pc, caps, s, h, _ => absurd h (by omega)
  | f + 1, 0, pc, caps, s, _, h => absurd h (by omega)
  | f + 1, g + 1, pc, caps, s, hf, hg => by
    rcases ho : s.over with _ | _
    rotate_left
    · rw [visit_over ho, visit_over ho]
    rcases hm : s.met[pc]? with _ | m
    · rw [visit_out hm, visit_out hm]
    rcases m with _ | _
    rotate_left
    · rw [visit_met hm, visit_met hm]
    rcases hx : is[pc]? with _ | x
    · rw [visit_none hx, visit_none hx]
    have hc := count_met hm
    have hc' : (markS s pc).met.count false + 1 = s.met.count false := hc
    have one : ∀ (pc2 : Nat) (caps2 : List Int), visitF is text j f pc2 caps2 (markS s pc) = visitF is text j g pc2 caps2 (markS s pc) := fun pc2 caps2 => visit_fuel f g pc2 caps2 (markS s pc) (by omega) (by omega)
    have two : ∀ (pc2 pc3 : Nat) (caps2 : List Int), visitF is text j f pc3 caps2 (visitF is text j f pc2 caps2 (markS s pc)) = visitF is text j g pc3 caps2 (visitF is text j g pc2 caps2 (markS s pc)) := fun pc2 pc3 caps2 => by
      rw [one]
      have hu := visitF_unmet is text j g pc2 caps2 (markS s pc)
      exact visit_fuel f g pc3 caps2 _ (by omega) (by omega)
    rw [visit_go ho hm hx, visit_go ho hm hx, two, one, one]
/-! ### what a stack of threads comes to; the top first -/
theorem stack_over (l : List (Nat × List Int)) {s : VSt} (h : s.over = true) : visitAll is text j l s = s := (all_found l s).end_ h
section
variable {l : List (Nat × List Int)} {s : VSt} {pc : Nat} {caps : List Int} {x : PInst}
theorem stack_met (h : s.met[pc]? = some true) : visitAll is text j ((pc, caps) :: l) s = visitAll is text j l s := by
  show visitAll is text j l (visitF is text j (is.length + 1) pc caps s) = _
  rw [visit_met h]
theorem stack_fuel (hl : s.met.length = is.length) (hm : s.met[pc]? = some false) (pc2 : Nat) (caps2 : List Int) : visitF is text j is.length pc2 caps2 (markS s pc) = visitF is text j (is.length + 1) pc2 caps2 (markS s pc) := by
  have hc : (markS s pc).met.count false + 1 = s.met.count false := count_met hm
  have := List.count_le_length (a := false) (l := s.met)
  exact visit_fuel _ _ _ _ _ (by omega) (by omega)
theorem stack_go (ho : s.over = false) (hl : s.met.length = is.length) (hm : s.met[pc]? = some false) (hx : is[pc]? = some x) : visitAll is text j ((pc, caps) :: l) s =
    if x.op = 2 then visitAll is text j ((x.x.toNat, caps) :: (x.y.toNat, caps) :: l) (markS s pc)
    else if x.op = 7 then visitAll is text j ((x.x.toNat, caps) :: l) (markS s pc)
    else if x.op = 3 then visitAll is text j ((x.x.toNat, caps.set x.arg.toNat (j : Int)) :: l) (markS s pc)
    else if x.op = 4 then if holdsB x.arg (part text j 6) then visitAll is text j ((x.x.toNat, caps) :: l) (markS s pc) else visitAll is text j l (markS s pc)
    else if x.op = 1 then if fitsB x.rs text j then visitAll is text j l { markS s pc with next := s.next ++ [(x.x.toNat, caps)] } else visitAll is text j l (markS s pc)
    else if x.op = 5 then { markS s pc with found := some (caps, x.arg), over := true }
    else visitAll is text j l (markS s pc) := by
  show visitAll is text j l (visitF is text j (is.length + 1) pc caps s) = _
  rw [visit_go ho hm hx]
  by_cases o2 : x.op = 2
  · rw [if_pos o2, if_pos o2, stack_fuel hl hm]
    show _ = visitAll is text j l (visitF is text j (is.length + 1) x.y.toNat caps (visitF is text j (is.length + 1) x.x.toNat caps (markS s pc)))
    have hc : (markS s pc).met.count false + 1 = s.met.count false := count_met hm
    have := List.count_le_length (a := false) (l := s.met)
    have hu := visitF_unmet is text j (is.length + 1) x.x.toNat caps (markS s pc)
    rw [visit_fuel is.length (is.length + 1) x.y.toNat caps _ (by omega) (by omega)]
  rw [if_neg o2, if_neg o2]
  by_cases o7 : x.op = 7
  · rw [if_pos o7, if_pos o7, stack_fuel hl hm]; rfl
  rw [if_neg o7, if_neg o7]
  by_cases o3 : x.op = 3
  · rw [if_pos o3, if_pos o3, stack_fuel hl hm]; rfl
  rw [if_neg o3, if_neg o3]
  by_cases o4 : x.op = 4
  · rw [if_pos o4, if_pos o4]
    split
    · rw [stack_fuel hl hm]; rfl
    · rfl
  rw [if_neg o4, if_neg o4]
  by_cases o1 : x.op = 1
  · rw [if_pos o1, if_pos o1]
    split <;> rfl
  rw [if_neg o1, if_neg o1]
  by_cases o5 : x.op = 5
  · rw [if_pos o5, if_pos o5]
    exact stack_over l rfl
  rw [if_neg o5, if_neg o5]
end
end
end Go.Proofs.Ytnkefclbchpafaa
