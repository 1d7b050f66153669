/-
  The document's run of a program, in plain words: a visit, a place, a search. No memory.
-/
import Derived.Test.YtnkefclbchpafaaRefLook
namespace Go.Proofs.Ytnkefclbchpafaa
set_option linter.unusedVariables false

/-- is a rune in ranges? -/
def inB (rs : List (Int × Int)) (c : Int) : Bool := rs.any fun x => decide (x.1 ≤ c ∧ c ≤ x.2)
def hasB (rs : List (Int × Int)) (c : Int) : Bool := rightB rs && inB rs c
/-- does the rune at place j stand in ranges? -/
def fitsB (rs : List (Int × Int)) (text : List Int) (j : Nat) : Bool := match text[j]? with | none => false | some c => hasB rs c
/-- what a visit turns: which have been met, the threads of the next place, what is found, how many have been looked at, is the place over? -/
structure VSt where
  met : List Bool
  next : List (Nat × List Int)
  found : Option (List Int × Int)
  steps : Nat
  over : Bool
/-- a visit of an instruction at place j -/
def visitF (is : List PInst) (text : List Int) (j : Nat) : Nat → Nat → List Int → VSt → VSt
  | 0, _, _, s => s
  | f + 1, pc, caps, s =>
    if s.over || s.met.getD pc true then s else
    match is[pc]? with
    | none => s
    | some x =>
      let t : VSt := { s with met := s.met.set pc true, steps := s.steps + 1 }
      if x.op = 2 then visitF is text j f x.y.toNat caps (visitF is text j f x.x.toNat caps t)
      else if x.op = 7 then visitF is text j f x.x.toNat caps t
      else if x.op = 3 then visitF is text j f x.x.toNat (caps.set x.arg.toNat (j : Int)) t
      else if x.op = 4 then if holdsB x.arg (part text j 6) then visitF is text j f x.x.toNat caps t else t
      else if x.op = 1 then if fitsB x.rs text j then { t with next := t.next ++ [(x.x.toNat, caps)] } else t
      else if x.op = 5 then { t with found := some (caps, x.arg), over := true }
      else t
/-- all threads of a place -/
def visitAll (is : List PInst) (text : List Int) (j : Nat) : List (Nat × List Int) → VSt → VSt
  | [], s => s
  | x :: r, s => visitAll is text j r (visitF is text j (is.length + 1) x.1 x.2 s)
/-- one place: the threads, and perhaps a new one behind them -/
def placeF (is : List PInst) (start : Nat) (none : List Int) (text : List Int) (j : Nat) (ours : Bool) (threads : List (Nat × List Int)) (found : Option (List Int × Int)) (steps : Nat) : VSt :=
  let s := visitAll is text j threads { met := List.replicate is.length false, next := [], found := found, steps := steps, over := false }
  if ours then visitF is text j (is.length + 1) start none s else s
/-- the search, place by place -/
def searchF (is : List PInst) (start : Nat) (none : List Int) (text : List Int) (at_ : Nat) (anchored : Bool) : Nat → Nat → List (Nat × List Int) → Option (List Int × Int) → Nat → Option (List Int × Int) × Nat
  | 0, _, _, found, steps => (found, steps)
  | f + 1, j, threads, found, steps =>
    let s := placeF is start none text j (decide (j = at_) || !anchored && found.isNone) threads found steps
    if s.next.isEmpty && (s.found.isSome || anchored) then (s.found, s.steps)
    else searchF is start none text at_ anchored f (j + 1) s.next s.found s.steps
/-- what is found, and Steps -/
def runF (is : List PInst) (start : Nat) (ncaps : Nat) (text : List Int) (at_ : Nat) (anchored : Bool) : Option (List Int × Int) × Nat :=
  searchF is start (List.replicate ncaps (-1)) text at_ anchored (text.length + 1 - at_) at_ [] none 0

theorem visitF_met_len (is : List PInst) (text : List Int) (j : Nat) : ∀ (f pc : Nat) (caps : List Int) (s : VSt), (visitF is text j f pc caps s).met.length = s.met.length
  | 0, pc, caps, s => rfl
  | f + 1, pc, caps, s => by
    rw [visitF]
    split
    · rfl
    · split
      · rfl
      · simp only
        split
        · rw [visitF_met_len, visitF_met_len]; simp
        · split
          · rw [visitF_met_len]; simp
          · split
            · rw [visitF_met_len]; simp
            · split
              · split
                · rw [visitF_met_len]; simp
                · simp
              · split
                · split <;> simp
                · split <;> simp
/-- the unmet grow no more -/
theorem set_count_le (bs : List Bool) (pc : Nat) : (bs.set pc true).count false ≤ bs.count false := by
  by_cases h : pc < bs.length
  · rw [List.count_set h]
    simp
  · rw [List.set_eq_of_length_le (by omega)]
    exact Nat.le_refl _
theorem visitF_unmet (is : List PInst) (text : List Int) (j : Nat) : ∀ (f pc : Nat) (caps : List Int) (s : VSt), (visitF is text j f pc caps s).met.count false ≤ s.met.count false
  | 0, pc, caps, s => Nat.le_refl _
  | f + 1, pc, caps, s => by
    have hs := set_count_le s.met pc
    rw [visitF]
    split
    · exact Nat.le_refl _
    · split
      · exact Nat.le_refl _
      · simp only
        split
        · exact Nat.le_trans (visitF_unmet is text j f _ _ _) (Nat.le_trans (visitF_unmet is text j f _ _ _) hs)
        · split
          · exact Nat.le_trans (visitF_unmet is text j f _ _ _) hs
          · split
            · exact Nat.le_trans (visitF_unmet is text j f _ _ _) hs
            · split
              · split
                · exact Nat.le_trans (visitF_unmet is text j f _ _ _) hs
                · exact hs
              · split
                · split <;> exact hs
                · split <;> exact hs
end Go.Proofs.Ytnkefclbchpafaa
