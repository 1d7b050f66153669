/-
  Can a Match be come to from an instruction at a place? What the document's search finds, said by that. Plain lists, no memory.
-/
import Derived.Test.YtnkefclbchpafaaVisR
namespace Go.Proofs.Ytnkefclbchpafaa
set_option linter.unusedVariables false

/-- a Match can be come to from instruction pc at place j -/
inductive Hits (is : List PInst) (text : List Int) : Nat → Nat → Prop
  | match_ {j pc : Nat} {x : PInst} : is[pc]? = some x → x.op = 5 → Hits is text j pc
  | altX {j pc : Nat} {x : PInst} : is[pc]? = some x → x.op = 2 → Hits is text j x.x.toNat → Hits is text j pc
  | altY {j pc : Nat} {x : PInst} : is[pc]? = some x → x.op = 2 → Hits is text j x.y.toNat → Hits is text j pc
  | goes {j pc : Nat} {x : PInst} : is[pc]? = some x → (x.op = 7 ∨ x.op = 3) → Hits is text j x.x.toNat → Hits is text j pc
  | holds {j pc : Nat} {x : PInst} : is[pc]? = some x → x.op = 4 → holdsB x.arg (part text j 6) = true → Hits is text j x.x.toNat → Hits is text j pc
  | rune {j pc : Nat} {x : PInst} : is[pc]? = some x → x.op = 1 → fitsB x.rs text j = true → Hits is text (j + 1) x.x.toNat → Hits is text j pc

theorem fitsB_lt {rs : List (Int × Int)} {text : List Int} {j : Nat} (h : fitsB rs text j = true) : j < text.length := by
  refine Classical.byContradiction fun hn => ?_
  unfold fitsB at h
  rw [List.getElem?_eq_none (by omega)] at h
  cases h

/-- two lists of threads with the same that lead to a Match -/
def FEq (is : List PInst) (text : List Int) (j : Nat) (l m : List (Nat × List Int)) : Prop :=
  l.filter (fun p => @decide (Hits is text j p.1) (Classical.propDecidable _)) = m.filter (fun p => @decide (Hits is text j p.1) (Classical.propDecidable _))

section
variable {is : List PInst} {text : List Int} {j : Nat}
theorem FEq.append {l m l2 m2 : List (Nat × List Int)} (h : FEq is text j l m) (g : FEq is text j l2 m2) : FEq is text j (l ++ l2) (m ++ m2) := by
  unfold FEq at *
  rw [List.filter_append, List.filter_append, h, g]
theorem FEq.dead {l : List (Nat × List Int)} (h : ∀ p ∈ l, ¬ Hits is text j p.1) : FEq is text j l [] := by
  unfold FEq
  rw [List.filter_nil, List.filter_eq_nil_iff]
  intro p hp
  simpa using h p hp
theorem FEq.all_dead {l : List (Nat × List Int)} (h : FEq is text j l []) : ∀ p ∈ l, ¬ Hits is text j p.1 := by
  unfold FEq at h
  rw [List.filter_nil, List.filter_eq_nil_iff] at h
  intro p hp
  simpa using h p hp
theorem FEq.self (l : List (Nat × List Int)) : FEq is text j l l := Eq.refl _

/-! ### a visit of an instruction from which no Match can be come to -/
/-- what a dead visit leaves: all but dead instructions' marks, dead threads, steps -/
structure Same (is : List PInst) (text : List Int) (j : Nat) (s t : VSt) : Prop where
  met : ∀ pc, Hits is text j pc → t.met[pc]? = s.met[pc]?
  over : t.over = s.over
  next : FEq is text (j + 1) t.next s.next
  found : s.over = true → t.found = s.found
theorem Same.refl (s : VSt) : Same is text j s s := ⟨fun _ _ => rfl, rfl, FEq.self _, fun _ => rfl⟩
theorem Same.symm {s t : VSt} (h : Same is text j s t) : Same is text j t s := ⟨fun pc hp => (h.met pc hp).symm, h.over.symm, h.next.symm, fun ho => (h.found (h.over ▸ ho)).symm⟩
theorem Same.trans {s t u : VSt} (h : Same is text j s t) (g : Same is text j t u) : Same is text j s u :=
  ⟨fun pc hp => (g.met pc hp).trans (h.met pc hp), g.over.trans h.over, g.next.trans h.next, fun ho => (g.found (h.over.trans ho)).trans (h.found ho)⟩

theorem mark_same (s : VSt) {pc : Nat} (h : ¬ Hits is text j pc) : Same is text j s (markS s pc) := by
  refine ⟨fun q hq => ?_, rfl, FEq.self _, fun _ => rfl⟩
  show (s.met.set pc true)[q]? = _
  rw [List.getElem?_set_ne (fun e => by subst e; exact h hq)]

theorem visit_none {f pc : Nat} {caps : List Int} {s : VSt} (h : is[pc]? = none) : visitF is text j (f + 1) pc caps s = s := by
  rw [visitF, h]
  split <;> rfl
theorem visit_out {f pc : Nat} {caps : List Int} {s : VSt} (h : s.met[pc]? = none) : visitF is text j (f + 1) pc caps s = s := by
  rw [visitF, List.getD_eq_getElem?_getD, h]
  simp

theorem dead_visit : ∀ (f pc : Nat) (caps : List Int) (s : VSt), ¬ Hits is text j pc → Same is text j s (visitF is text j f pc caps s)
  | 0, pc, caps, s, _ => Same.refl s
  | f + 1, pc, caps, s, hd => by
    rcases ho : s.over with _ | _
    rotate_left
    · rw [visit_over ho]; exact Same.refl s
    rcases hm : s.met[pc]? with _ | m
    · rw [visit_out hm]; exact Same.refl s
    rcases m with _ | _
    rotate_left
    · rw [visit_met hm]; exact Same.refl s
    rcases hx : is[pc]? with _ | x
    · rw [visit_none hx]; exact Same.refl s
    have hk := mark_same s hd
    rw [visit_go ho hm hx]
    by_cases o2 : x.op = 2
    · rw [if_pos o2]
      exact (hk.trans (dead_visit f _ _ _ (fun h => hd (.altX hx o2 h)))).trans (dead_visit f _ _ _ (fun h => hd (.altY hx o2 h)))
    rw [if_neg o2]
    by_cases o7 : x.op = 7
    · rw [if_pos o7]
      exact hk.trans (dead_visit f _ _ _ (fun h => hd (.goes hx (.inl o7) h)))
    rw [if_neg o7]
    by_cases o3 : x.op = 3
    · rw [if_pos o3]
      exact hk.trans (dead_visit f _ _ _ (fun h => hd (.goes hx (.inr o3) h)))
    rw [if_neg o3]
    by_cases o4 : x.op = 4
    · rw [if_pos o4]
      by_cases hh : holdsB x.arg (part text j 6) = true
      · rw [if_pos hh]
        exact hk.trans (dead_visit f _ _ _ (fun h => hd (.holds hx o4 hh h)))
      · rw [if_neg hh]; exact hk
    rw [if_neg o4]
    by_cases o1 : x.op = 1
    · rw [if_pos o1]
      by_cases hf : fitsB x.rs text j = true
      · rw [if_pos hf]
        have hn : ¬ Hits is text (j + 1) x.x.toNat := fun h => hd (.rune hx o1 hf h)
        refine ⟨hk.met, hk.over, ?_, hk.found⟩
        show FEq is text (j + 1) (s.next ++ [(x.x.toNat, caps)]) s.next
        have h2 := (FEq.self (is := is) (text := text) (j := j + 1) s.next).append (FEq.dead (l := [(x.x.toNat, caps)]) (by intro p hp; simp at hp; rw [hp]; exact hn))
        rwa [List.append_nil] at h2
      · rw [if_neg hf]; exact hk
    rw [if_neg o1]
    by_cases o5 : x.op = 5
    · exact absurd (.match_ hx o5) hd
    rw [if_neg o5]
    exact hk

/-! ### two states that are alike where it counts -/
theorem both_visit : ∀ (f pc : Nat) (caps : List Int) (s t : VSt), s.met.length = is.length → t.met.length = is.length → Same is text j s t → Same is text j (visitF is text j f pc caps s) (visitF is text j f pc caps t)
  | 0, pc, caps, s, t, _, _, h => h
  | f + 1, pc, caps, s, t, ls, lt, h => by
    by_cases hl : Hits is text j pc
    rotate_left
    · exact ((dead_visit (f + 1) pc caps s hl).symm.trans h).trans (dead_visit (f + 1) pc caps t hl)
    rcases ho : s.over with _ | _
    rotate_left
    · rw [visit_over ho, visit_over (h.over.trans ho)]; exact h
    have ho' := h.over.trans ho
    rcases hm : s.met[pc]? with _ | m
    · rw [visit_out hm, visit_out ((h.met pc hl).trans hm)]; exact h
    have hm' := (h.met pc hl).trans hm
    rcases m with _ | _
    rotate_left
    · rw [visit_met hm, visit_met hm']; exact h
    rcases hx : is[pc]? with _ | x
    · rw [visit_none hx, visit_none hx]; exact h
    have hk : Same is text j (markS s pc) (markS t pc) := by
      refine ⟨fun q hq => ?_, h.over, h.next, h.found⟩
      show (t.met.set pc true)[q]? = (s.met.set pc true)[q]?
      by_cases e : pc = q
      · subst e
        rw [List.getElem?_set_self (List.getElem?_eq_some_iff.1 hm').1, List.getElem?_set_self (List.getElem?_eq_some_iff.1 hm).1]
      · rw [List.getElem?_set_ne e, List.getElem?_set_ne e]
        exact h.met q hq
    have ls' : (markS s pc).met.length = is.length := by show (s.met.set pc true).length = _; rw [List.length_set, ls]
    have lt' : (markS t pc).met.length = is.length := by show (t.met.set pc true).length = _; rw [List.length_set, lt]
    rw [visit_go ho hm hx, visit_go ho' hm' hx]
    by_cases o2 : x.op = 2
    · rw [if_pos o2, if_pos o2]
      exact both_visit f _ _ _ _ (by rw [visitF_met_len]; exact ls') (by rw [visitF_met_len]; exact lt') (both_visit f _ _ _ _ ls' lt' hk)
    rw [if_neg o2, if_neg o2]
    by_cases o7 : x.op = 7
    · rw [if_pos o7, if_pos o7]
      exact both_visit f _ _ _ _ ls' lt' hk
    rw [if_neg o7, if_neg o7]
    by_cases o3 : x.op = 3
    · rw [if_pos o3, if_pos o3]
      exact both_visit f _ _ _ _ ls' lt' hk
    rw [if_neg o3, if_neg o3]
    by_cases o4 : x.op = 4
    · rw [if_pos o4, if_pos o4]
      split
      · exact both_visit f _ _ _ _ ls' lt' hk
      · exact hk
    rw [if_neg o4, if_neg o4]
    by_cases o1 : x.op = 1
    · rw [if_pos o1, if_pos o1]
      split
      · refine ⟨hk.met, hk.over, ?_, hk.found⟩
        exact FEq.append h.next (FEq.self _)
      · exact hk
    rw [if_neg o1, if_neg o1]
    by_cases o5 : x.op = 5
    · rw [if_pos o5, if_pos o5]
      exact ⟨hk.met, rfl, hk.next, fun _ => rfl⟩
    rw [if_neg o5, if_neg o5]
    exact hk

/-! ### what is found stays but for a Match -/
structure Fnd (s t : VSt) : Prop where
  hit : t.over = true → s.over = true ∨ t.found.isSome = true
  no : t.over = false → s.over = false ∧ t.found = s.found
  next : ∃ e, t.next = s.next ++ e
  end_ : s.over = true → t = s
theorem Fnd.refl (s : VSt) : Fnd s s := ⟨.inl, fun h => ⟨h, rfl⟩, ⟨[], (List.append_nil _).symm⟩, fun _ => rfl⟩
theorem Fnd.trans {s t u : VSt} (h : Fnd s t) (g : Fnd t u) : Fnd s u := by
  refine ⟨fun ho => ?_, fun ho => ⟨(h.no (g.no ho).1).1, (g.no ho).2.trans (h.no (g.no ho).1).2⟩, ?_, fun ho => ?_⟩
  · rcases g.hit ho with h3 | h3
    · rw [g.end_ h3]; exact h.hit h3
    · exact .inr h3
  · obtain ⟨e1, he1⟩ := h.next
    obtain ⟨e2, he2⟩ := g.next
    exact ⟨e1 ++ e2, by rw [he2, he1, List.append_assoc]⟩
  · have h1 := h.end_ ho
    rw [g.end_ (by rw [h1]; exact ho), h1]
theorem Fnd.mark {s : VSt} (ho : s.over = false) (pc : Nat) : Fnd s (markS s pc) :=
  ⟨.inl, fun h => ⟨h, rfl⟩, ⟨[], (List.append_nil _).symm⟩, fun h => by rw [ho] at h; cases h⟩
theorem visit_found : ∀ (f pc : Nat) (caps : List Int) (s : VSt), Fnd s (visitF is text j f pc caps s)
  | 0, pc, caps, s => Fnd.refl s
  | f + 1, pc, caps, s => by
    rcases ho : s.over with _ | _
    rotate_left
    · rw [visit_over ho]; exact Fnd.refl s
    rcases hm : s.met[pc]? with _ | m
    · rw [visit_out hm]; exact Fnd.refl s
    rcases m with _ | _
    rotate_left
    · rw [visit_met hm]; exact Fnd.refl s
    rcases hx : is[pc]? with _ | x
    · rw [visit_none hx]; exact Fnd.refl s
    have mk := Fnd.mark ho pc
    rw [visit_go ho hm hx]
    by_cases o2 : x.op = 2
    · rw [if_pos o2]; exact (mk.trans (visit_found f _ _ _)).trans (visit_found f _ _ _)
    rw [if_neg o2]
    by_cases o7 : x.op = 7
    · rw [if_pos o7]; exact mk.trans (visit_found f _ _ _)
    rw [if_neg o7]
    by_cases o3 : x.op = 3
    · rw [if_pos o3]; exact mk.trans (visit_found f _ _ _)
    rw [if_neg o3]
    by_cases o4 : x.op = 4
    · rw [if_pos o4]
      split
      · exact mk.trans (visit_found f _ _ _)
      · exact mk
    rw [if_neg o4]
    by_cases o1 : x.op = 1
    · rw [if_pos o1]
      split
      · exact ⟨.inl, fun h => ⟨h, rfl⟩, ⟨_, rfl⟩, fun h => by rw [ho] at h; cases h⟩
      · exact mk
    rw [if_neg o1]
    by_cases o5 : x.op = 5
    · rw [if_pos o5]
      exact ⟨fun _ => .inr rfl, fun h => (by cases h), ⟨[], (List.append_nil _).symm⟩, fun h => by rw [ho] at h; cases h⟩
    rw [if_neg o5]
    exact mk

/-! ### all threads of a place -/
theorem all_len : ∀ (l : List (Nat × List Int)) (s : VSt), (visitAll is text j l s).met.length = s.met.length
  | [], s => rfl
  | x :: r, s => by
    show (visitAll is text j r (visitF is text j (is.length + 1) x.1 x.2 s)).met.length = _
    rw [all_len r, visitF_met_len]
theorem all_append : ∀ (l m : List (Nat × List Int)) (s : VSt), visitAll is text j (l ++ m) s = visitAll is text j m (visitAll is text j l s)
  | [], m, s => rfl
  | x :: r, m, s => all_append r m _
theorem all_found : ∀ (l : List (Nat × List Int)) (s : VSt), Fnd s (visitAll is text j l s)
  | [], s => Fnd.refl s
  | x :: r, s => (visit_found (is.length + 1) x.1 x.2 s).trans (all_found r _)
theorem all_dead : ∀ (l : List (Nat × List Int)) (s : VSt), (∀ p ∈ l, ¬ Hits is text j p.1) → Same is text j s (visitAll is text j l s)
  | [], s, _ => Same.refl s
  | x :: r, s, h => (dead_visit (is.length + 1) x.1 x.2 s (h x (by simp))).trans (all_dead r _ (fun p hp => h p (by simp [hp])))
theorem all_both : ∀ (l : List (Nat × List Int)) (s t : VSt), s.met.length = is.length → t.met.length = is.length → Same is text j s t → Same is text j (visitAll is text j l s) (visitAll is text j l t)
  | [], s, t, _, _, h => h
  | x :: r, s, t, ls, lt, h => all_both r _ _ (by rw [visitF_met_len]; exact ls) (by rw [visitF_met_len]; exact lt) (both_visit (is.length + 1) x.1 x.2 s t ls lt h)
theorem all_filter : ∀ (l : List (Nat × List Int)) (s : VSt), s.met.length = is.length → Same is text j (visitAll is text j l s) (visitAll is text j (l.filter (fun p => @decide (Hits is text j p.1) (Classical.propDecidable _))) s)
  | [], s, _ => Same.refl _
  | x :: r, s, ls => by
    by_cases hx : Hits is text j x.1
    · rw [List.filter_cons_of_pos (by simpa using hx)]
      exact all_filter r _ (by rw [visitF_met_len]; exact ls)
    · rw [List.filter_cons_of_neg (by simpa using hx)]
      refine (all_filter r _ (by rw [visitF_met_len]; exact ls)).trans ?_
      exact (all_both _ _ _ ls (by rw [visitF_met_len]; exact ls) (dead_visit (is.length + 1) x.1 x.2 s hx)).symm
theorem all_same {l m : List (Nat × List Int)} {s t : VSt} (h : FEq is text j l m) (ls : s.met.length = is.length) (lt : t.met.length = is.length) (hs : Same is text j s t) :
    Same is text j (visitAll is text j l s) (visitAll is text j m t) := by
  have h1 := all_filter (is := is) (text := text) (j := j) l s ls
  have h2 := all_filter (is := is) (text := text) (j := j) m t lt
  unfold FEq at h
  rw [h] at h1
  exact (h1.trans (all_both _ _ _ ls lt hs)).trans h2.symm
end
end Go.Proofs.Ytnkefclbchpafaa
