/-
  What the document's search finds: an anchored one finds something just where a Match can be come to; one that is not anchored finds what the least anchored one finds. Plain lists, no memory.
-/
import Derived.Test.YtnkefclbchpafaaHits
namespace Go.Proofs.Ytnkefclbchpafaa
set_option linter.unusedVariables false

/-- where the instructions that go on go to -/
def Inside (is : List PInst) : Prop := ∀ (i : Nat) (x : PInst), is[i]? = some x → ((x.op = 1 ∨ x.op = 2 ∨ x.op = 3 ∨ x.op = 4 ∨ x.op = 7) → x.x.toNat < is.length) ∧ (x.op = 2 → x.y.toNat < is.length)
theorem inside_of {is : List PInst} {caps : Int} (h : ∀ (i : Nat) (x : PInst), is[i]? = some x → mayB x is.length caps = true) : Inside is := fun i x hx =>
  ⟨fun ho => by have := vmay_x (h i x hx) ho; omega, fun ho => by have := vmay_y (h i x hx) ho; omega⟩

section
variable {is : List PInst} {text : List Int} {j : Nat}

/-! ### all that can be come to at a place is met -/
def Good (is : List PInst) (text : List Int) (j : Nat) (t : VSt) (q : Nat) : Prop := ∀ x, is[q]? = some x →
  x.op ≠ 5 ∧ (x.op = 2 → t.met[x.x.toNat]? = some true ∧ t.met[x.y.toNat]? = some true) ∧ ((x.op = 7 ∨ x.op = 3) → t.met[x.x.toNat]? = some true) ∧
  (x.op = 4 → holdsB x.arg (part text j 6) = true → t.met[x.x.toNat]? = some true) ∧ (x.op = 1 → fitsB x.rs text j = true → ∃ c, (x.x.toNat, c) ∈ t.next)
structure Clo (is : List PInst) (text : List Int) (j : Nat) (s t : VSt) : Prop where
  met : ∀ q : Nat, s.met[q]? = some true → t.met[q]? = some true
  next : ∀ p ∈ s.next, p ∈ t.next
  inside : ∀ p ∈ t.next, p ∈ s.next ∨ p.1 < is.length
  new : ∀ q : Nat, t.met[q]? = some true → s.met[q]? = some true ∨ Good is text j t q
theorem Clo.refl (s : VSt) : Clo is text j s s := ⟨fun _ h => h, fun _ h => h, fun _ h => .inl h, fun _ h => .inl h⟩
theorem Good.mono {s t : VSt} {q : Nat} (h : Good is text j s q) (hm : ∀ q : Nat, s.met[q]? = some true → t.met[q]? = some true) (hn : ∀ p ∈ s.next, p ∈ t.next) : Good is text j t q := fun x hx => by
  obtain ⟨h1, h2, h3, h4, h5⟩ := h x hx
  refine ⟨h1, fun ho => ⟨hm _ (h2 ho).1, hm _ (h2 ho).2⟩, fun ho => hm _ (h3 ho), fun ho hh => hm _ (h4 ho hh), fun ho hf => ?_⟩
  obtain ⟨c, hc⟩ := h5 ho hf
  exact ⟨c, hn _ hc⟩
theorem Clo.trans {s t u : VSt} (h : Clo is text j s t) (g : Clo is text j t u) : Clo is text j s u :=
  ⟨fun q hq => g.met q (h.met q hq), fun p hp => g.next p (h.next p hp), fun p hp => (g.inside p hp).elim (h.inside p) .inr, fun q hq => (g.new q hq).elim (fun hq => (h.new q hq).elim .inl (fun hg => .inr (hg.mono g.met g.next))) .inr⟩
/-- the marked instruction is good -/
theorem Clo.of_mark {s t : VSt} {pc : Nat} (hm : s.met[pc]? = some false) (h : Clo is text j (markS s pc) t) (hg : Good is text j t pc) : Clo is text j s t ∧ t.met[pc]? = some true := by
  have hl := (List.getElem?_eq_some_iff.1 hm).1
  have hpc : (markS s pc).met[pc]? = some true := by
    show (s.met.set pc true)[pc]? = _
    rw [List.getElem?_set_self hl]
  refine ⟨⟨fun q hq => h.met q ?_, h.next, h.inside, fun q hq => ?_⟩, h.met pc hpc⟩
  · show (s.met.set pc true)[q]? = _
    rw [List.getElem?_set_ne (fun e => by subst e; rw [hm] at hq; cases hq)]
    exact hq
  · rcases h.new q hq with h1 | h1
    · by_cases e : pc = q
      · subst e; exact .inr hg
      · change (s.met.set pc true)[q]? = _ at h1
        rw [List.getElem?_set_ne e] at h1
        exact .inl h1
    · exact .inr h1
theorem visit_clo (hR : Inside is) : ∀ (f pc : Nat) (caps : List Int) (s : VSt), s.met.length = is.length → pc < is.length → s.met.count false < f → (visitF is text j f pc caps s).over = false →
    Clo is text j s (visitF is text j f pc caps s) ∧ (visitF is text j f pc caps s).met[pc]? = some true
  | 0, pc, caps, s, _, _, h, _ => absurd h (by omega)
  | f + 1, pc, caps, s, hl, hpc, hc, hov => by
    rcases ho : s.over with _ | _
    rotate_left
    · rw [visit_over ho, ho] at hov; cases hov
    obtain ⟨m, hm⟩ : ∃ m, s.met[pc]? = some m := ⟨_, List.getElem?_eq_getElem (by omega)⟩
    rcases m with _ | _
    rotate_left
    · rw [visit_met hm]; exact ⟨Clo.refl s, hm⟩
    obtain ⟨x, hx⟩ : ∃ x, is[pc]? = some x := ⟨_, List.getElem?_eq_getElem hpc⟩
    obtain ⟨rx, ry⟩ := hR pc x hx
    have hcm := count_met hm
    have hl' : (markS s pc).met.length = is.length := by show (s.met.set pc true).length = _; rw [List.length_set, hl]
    have hc' : (markS s pc).met.count false < f := by show (s.met.set pc true).count false < f; omega
    have goodof : ∀ t : VSt, x.op ≠ 5 → (x.op = 2 → t.met[x.x.toNat]? = some true ∧ t.met[x.y.toNat]? = some true) → ((x.op = 7 ∨ x.op = 3) → t.met[x.x.toNat]? = some true) →
        (x.op = 4 → holdsB x.arg (part text j 6) = true → t.met[x.x.toNat]? = some true) → (x.op = 1 → fitsB x.rs text j = true → ∃ c, (x.x.toNat, c) ∈ t.next) → Good is text j t pc := fun t h1 h2 h3 h4 h5 y hy => by
      rw [hx] at hy
      injection hy with hy
      subst hy
      exact ⟨h1, h2, h3, h4, h5⟩
    rw [visit_go ho hm hx] at hov ⊢
    by_cases o2 : x.op = 2
    · rw [if_pos o2] at hov ⊢
      have hov1 := ((visit_found (is := is) (text := text) (j := j) f x.y.toNat caps (visitF is text j f x.x.toNat caps (markS s pc))).no hov).1
      obtain ⟨c1, m1⟩ := visit_clo hR f x.x.toNat caps (markS s pc) hl' (rx (.inr (.inl o2))) hc' hov1
      obtain ⟨c2, m2⟩ := visit_clo hR f x.y.toNat caps _ (by rw [visitF_met_len]; exact hl') (ry o2) (Nat.lt_of_le_of_lt (visitF_unmet _ _ _ _ _ _ _) hc') hov
      exact Clo.of_mark hm (c1.trans c2) (goodof _ (by omega) (fun _ => ⟨c2.met _ m1, m2⟩) (fun h => by omega) (fun h => by omega) (fun h => by omega))
    rw [if_neg o2] at hov ⊢
    by_cases o7 : x.op = 7
    · rw [if_pos o7] at hov ⊢
      obtain ⟨c1, m1⟩ := visit_clo hR f x.x.toNat caps (markS s pc) hl' (rx (by omega)) hc' hov
      exact Clo.of_mark hm c1 (goodof _ (by omega) (fun h => by omega) (fun h => m1) (fun h => by omega) (fun h => by omega))
    rw [if_neg o7] at hov ⊢
    by_cases o3 : x.op = 3
    · rw [if_pos o3] at hov ⊢
      obtain ⟨c1, m1⟩ := visit_clo hR f x.x.toNat _ (markS s pc) hl' (rx (by omega)) hc' hov
      exact Clo.of_mark hm c1 (goodof _ (by omega) (fun h => by omega) (fun h => m1) (fun h => by omega) (fun h => by omega))
    rw [if_neg o3] at hov ⊢
    by_cases o4 : x.op = 4
    · rw [if_pos o4] at hov ⊢
      by_cases hh : holdsB x.arg (part text j 6) = true
      · rw [if_pos hh] at hov ⊢
        obtain ⟨c1, m1⟩ := visit_clo hR f x.x.toNat _ (markS s pc) hl' (rx (by omega)) hc' hov
        exact Clo.of_mark hm c1 (goodof _ (by omega) (fun h => by omega) (fun h => by omega) (fun _ _ => m1) (fun h => by omega))
      · rw [if_neg hh] at hov ⊢
        exact Clo.of_mark hm (Clo.refl _) (goodof _ (by omega) (fun h => by omega) (fun h => by omega) (fun _ h => absurd h hh) (fun h => by omega))
    rw [if_neg o4] at hov ⊢
    by_cases o1 : x.op = 1
    · rw [if_pos o1] at hov ⊢
      by_cases hf : fitsB x.rs text j = true
      · rw [if_pos hf] at hov ⊢
        refine Clo.of_mark hm ⟨fun q hq => hq, fun p hp => List.mem_append.2 (.inl hp), fun p hp => ?_, fun q hq => .inl hq⟩ (goodof _ (by omega) (fun h => by omega) (fun h => by omega) (fun h => by omega) (fun _ _ => ⟨caps, List.mem_append.2 (.inr (by simp))⟩))
        rcases List.mem_append.1 hp with h1 | h1
        · exact .inl h1
        · simp at h1
          rw [h1]
          exact .inr (rx (.inl o1))
      · rw [if_neg hf] at hov ⊢
        exact Clo.of_mark hm (Clo.refl _) (goodof _ (by omega) (fun h => by omega) (fun h => by omega) (fun h => by omega) (fun _ h => absurd h hf))
    rw [if_neg o1] at hov ⊢
    by_cases o5 : x.op = 5
    · rw [if_pos o5] at hov; cases hov
    rw [if_neg o5] at hov ⊢
    exact Clo.of_mark hm (Clo.refl _) (goodof _ o5 (fun h => by omega) (fun h => by omega) (fun h => by omega) (fun h => by omega))
theorem all_clo (hR : Inside is) : ∀ (l : List (Nat × List Int)) (s : VSt), s.met.length = is.length → (∀ p ∈ l, p.1 < is.length) → (visitAll is text j l s).over = false →
    Clo is text j s (visitAll is text j l s) ∧ ∀ p ∈ l, (visitAll is text j l s).met[p.1]? = some true
  | [], s, _, _, _ => ⟨Clo.refl s, fun p hp => by simp at hp⟩
  | x :: r, s, hl, hp, ho => by
    have hl1 : (visitF is text j (is.length + 1) x.1 x.2 s).met.length = is.length := by rw [visitF_met_len]; exact hl
    have ho1 := ((all_found (is := is) (text := text) (j := j) r (visitF is text j (is.length + 1) x.1 x.2 s)).no ho).1
    have hcl : s.met.count false < is.length + 1 := by have := List.count_le_length (a := false) (l := s.met); omega
    obtain ⟨c1, m1⟩ := visit_clo hR (is.length + 1) x.1 x.2 s hl (hp x (by simp)) hcl ho1
    obtain ⟨c2, m2⟩ := all_clo hR r _ hl1 (fun p h => hp p (by simp [h])) ho
    refine ⟨c1.trans c2, fun p h => ?_⟩
    rcases List.mem_cons.1 h with rfl | h
    · exact c2.met _ m1
    · exact m2 p h
/-- none of what is met leads to a Match if none of the threads of the next place does -/
theorem no_hits {t : VSt} (hg : ∀ q : Nat, t.met[q]? = some true → Good is text j t q) (hn : j < text.length → ∀ p ∈ t.next, ¬ Hits is text (j + 1) p.1) {k pc : Nat} (h : Hits is text k pc) : k = j → t.met[pc]? = some true → False := by
  induction h with
  | match_ hx h5 => rintro rfl hq; exact (hg _ hq _ hx).1 h5
  | altX hx h2 _ ih => rintro rfl hq; exact ih rfl ((hg _ hq _ hx).2.1 h2).1
  | altY hx h2 _ ih => rintro rfl hq; exact ih rfl ((hg _ hq _ hx).2.1 h2).2
  | goes hx ho _ ih => rintro rfl hq; exact ih rfl ((hg _ hq _ hx).2.2.1 ho)
  | holds hx ho hh _ ih => rintro rfl hq; exact ih rfl ((hg _ hq _ hx).2.2.2.1 ho hh)
  | rune hx ho hf h _ =>
    rintro rfl hq
    obtain ⟨c, hc⟩ := (hg _ hq _ hx).2.2.2.2 ho hf
    exact hn (fitsB_lt hf) _ hc h

/-! ### places -/
/-- nothing of a place is met yet -/
def fresh (n : Nat) (fo : Option (List Int × Int)) (steps : Nat) : VSt := { met := List.replicate n false, next := [], found := fo, steps := steps, over := false }
theorem fresh_len (n : Nat) (fo : Option (List Int × Int)) (steps : Nat) : (fresh n fo steps).met.length = n := by simp [fresh]
theorem fresh_same (fo fo' : Option (List Int × Int)) (steps steps' : Nat) : Same is text j (fresh is.length fo steps) (fresh is.length fo' steps') := ⟨fun _ _ => rfl, rfl, FEq.self _, fun h => by cases h⟩
theorem placeF_eq (st : Nat) (nn : List Int) (ours : Bool) (ths : List (Nat × List Int)) (fo : Option (List Int × Int)) (steps : Nat) :
    placeF is st nn text j ours ths fo steps = visitAll is text j (ths ++ if ours then [(st, nn)] else []) (fresh is.length fo steps) := by
  rw [all_append]
  unfold placeF fresh
  cases ours <;> rfl
section
variable {st : Nat} {nn : List Int} {a0 : Nat}
theorem search_step {anchored : Bool} {f : Nat} {ths : List (Nat × List Int)} {fo : Option (List Int × Int)} {steps : Nat} {s9 : VSt} (h : placeF is st nn text j (decide (j = a0) || !anchored && fo.isNone) ths fo steps = s9) :
    searchF is st nn text a0 anchored (f + 1) j ths fo steps = if s9.next.isEmpty && (s9.found.isSome || anchored) then (s9.found, s9.steps) else searchF is st nn text a0 anchored f (j + 1) s9.next s9.found s9.steps := by
  rw [searchF]
  simp only [h]
/-- threads that lead to no Match find nothing more -/
theorem search_dead {anchored : Bool} : ∀ (f j : Nat) (ths : List (Nat × List Int)) (fo : Option (List Int × Int)) (steps : Nat), a0 < j → (fo.isSome || anchored) = true → (∀ p ∈ ths, ¬ Hits is text j p.1) →
    (searchF is st nn text a0 anchored f j ths fo steps).1 = fo
  | 0, j, ths, fo, steps, _, _, _ => rfl
  | f + 1, j, ths, fo, steps, ha, hf, hd => by
    have hours : (decide (j = a0) || !anchored && fo.isNone) = false := by
      rw [decide_eq_false (by omega), Bool.false_or]
      revert hf
      cases anchored <;> cases fo <;> simp
    rw [search_step rfl, hours, placeF_eq]
    simp only [Bool.false_eq_true, if_false, List.append_nil]
    have hs := all_dead (is := is) (text := text) (j := j) ths (fresh is.length fo steps) hd
    have hfo := ((all_found (is := is) (text := text) (j := j) ths (fresh is.length fo steps)).no hs.over).2
    have hfo' : (visitAll is text j ths (fresh is.length fo steps)).found = fo := hfo
    have hnx := FEq.all_dead (show FEq is text (j + 1) (visitAll is text j ths (fresh is.length fo steps)).next [] from hs.next)
    split
    · exact hfo'
    · rw [search_dead f (j + 1) _ _ _ (by omega) (by rw [hfo']; exact hf) hnx, hfo']
/-- what has been found does not go -/
theorem search_keeps {anchored : Bool} : ∀ (f j : Nat) (ths : List (Nat × List Int)) (fo : Option (List Int × Int)) (steps : Nat), fo.isSome = true → (searchF is st nn text a0 anchored f j ths fo steps).1.isSome = true
  | 0, j, ths, fo, steps, h => h
  | f + 1, j, ths, fo, steps, h => by
    rw [search_step rfl, placeF_eq]
    generalize hL : (ths ++ if (decide (j = a0) || !anchored && fo.isNone) = true then [(st, nn)] else []) = L
    have hs := all_found (is := is) (text := text) (j := j) L (fresh is.length fo steps)
    have hk : (visitAll is text j L (fresh is.length fo steps)).found.isSome = true := by
      rcases ho : (visitAll is text j L (fresh is.length fo steps)).over with _ | _
      · rw [(hs.no ho).2]; exact h
      · rcases hs.hit ho with h1 | h1
        · cases h1
        · exact h1
    split
    · exact hk
    · exact search_keeps f (j + 1) _ _ _ hk
/-- an anchored search that finds nothing: none of its threads leads to a Match -/
theorem search_full (hR : Inside is) (hst : st < is.length) : ∀ (f j : Nat) (ths : List (Nat × List Int)) (steps : Nat), f + 1 + j = text.length + 1 → (∀ p ∈ ths, p.1 < is.length) →
    (searchF is st nn text a0 true (f + 1) j ths none steps).1 = none → (∀ p ∈ ths, ¬ Hits is text j p.1) ∧ (j = a0 → ¬ Hits is text j st)
  | f, j, ths, steps, hfj, hp, hn => by
    rw [search_step rfl, placeF_eq] at hn
    have hours : (decide (j = a0) || !true && (none : Option (List Int × Int)).isNone) = decide (j = a0) := by simp
    rw [hours] at hn
    generalize hL : (ths ++ if decide (j = a0) = true then [(st, nn)] else []) = L at hn
    have hLp : ∀ p ∈ L, p.1 < is.length := by
      intro p h
      rw [← hL] at h
      rcases List.mem_append.1 h with h | h
      · exact hp p h
      · split at h
        · simp at h; rw [h]; exact hst
        · simp at h
    have hs := all_found (is := is) (text := text) (j := j) L (fresh is.length none steps)
    have hfn : (visitAll is text j L (fresh is.length none steps)).found = none := by
      rcases hq : (visitAll is text j L (fresh is.length none steps)).found with _ | v
      · rfl
      · rw [hq] at hn
        split at hn
        · cases hn
        · have := search_keeps (is := is) (text := text) (st := st) (nn := nn) (a0 := a0) (anchored := true) f (j + 1) (visitAll is text j L (fresh is.length none steps)).next (some v) (visitAll is text j L (fresh is.length none steps)).steps rfl
          rw [hn] at this
          cases this
    have hov : (visitAll is text j L (fresh is.length none steps)).over = false := by
      rcases ho : (visitAll is text j L (fresh is.length none steps)).over with _ | _
      · rfl
      · rcases hs.hit ho with h1 | h1
        · cases h1
        · rw [hfn] at h1; cases h1
    obtain ⟨hc, hm⟩ := all_clo hR L (fresh is.length none steps) (fresh_len _ _ _) hLp hov
    have hg : ∀ q : Nat, (visitAll is text j L (fresh is.length none steps)).met[q]? = some true → Good is text j (visitAll is text j L (fresh is.length none steps)) q := fun q hq => (hc.new q hq).elim (fun h => by
      have h2 : (List.replicate is.length false)[q]? = some true := h
      rw [List.getElem?_replicate] at h2
      split at h2 <;> simp at h2) id
    have hnx : j < text.length → ∀ p ∈ (visitAll is text j L (fresh is.length none steps)).next, ¬ Hits is text (j + 1) p.1 := by
      intro hj
      rw [hfn] at hn
      split at hn
      · rename_i he
        have he2 : (visitAll is text j L (fresh is.length none steps)).next = [] := by
          rw [Bool.and_eq_true] at he
          exact List.isEmpty_iff.1 he.1
        rw [he2]
        intro p h
        simp at h
      · obtain ⟨f', rfl⟩ : ∃ f', f = f' + 1 := ⟨f - 1, by omega⟩
        exact (search_full hR hst f' (j + 1) _ _ (by omega) (fun p h => (hc.inside p h).elim (fun h => by simp [fresh] at h) id) hn).1
    refine ⟨fun p h hh => no_hits hg hnx hh rfl (hm p (by rw [← hL]; exact List.mem_append.2 (.inl h))), fun e hh => no_hits hg hnx hh rfl (hm (st, nn) (by rw [← hL, if_pos (by simpa using e)]; exact List.mem_append.2 (.inr (by simp))))⟩

/-! ### an anchored search -/
theorem search_from_dead (f : Nat) (steps : Nat) (h : ¬ Hits is text a0 st) : (searchF is st nn text a0 true f a0 [] none steps).1 = none := by
  rcases f with _ | f
  · rfl
  have hours : (decide (a0 = a0) || !true && (none : Option (List Int × Int)).isNone) = true := by simp
  rw [search_step rfl, placeF_eq, hours]
  simp only [if_true, List.nil_append]
  have hd : ∀ p ∈ [(st, nn)], ¬ Hits is text a0 p.1 := by intro p hp; simp at hp; rw [hp]; exact h
  have hs := all_dead (is := is) (text := text) (j := a0) [(st, nn)] (fresh is.length none steps) hd
  have hfo : (visitAll is text a0 [(st, nn)] (fresh is.length none steps)).found = none := ((all_found (is := is) (text := text) (j := a0) [(st, nn)] (fresh is.length none steps)).no hs.over).2
  have hnx := FEq.all_dead (show FEq is text (a0 + 1) (visitAll is text a0 [(st, nn)] (fresh is.length none steps)).next [] from hs.next)
  split
  · exact hfo
  · rw [search_dead f (a0 + 1) _ _ _ (by omega) (by rw [hfo]; rfl) hnx, hfo]
theorem search_iff (hR : Inside is) (hst : st < is.length) (ha : a0 ≤ text.length) (steps : Nat) : (searchF is st nn text a0 true (text.length + 1 - a0) a0 [] none steps).1.isSome = true ↔ Hits is text a0 st := by
  obtain ⟨f, hf⟩ : ∃ f, text.length + 1 - a0 = f + 1 := ⟨text.length - a0, by omega⟩
  constructor
  · intro h
    refine Classical.byContradiction fun hn => ?_
    rw [search_from_dead _ _ hn] at h
    cases h
  · intro h
    rcases hq : (searchF is st nn text a0 true (text.length + 1 - a0) a0 [] none steps).1 with _ | v
    · rw [hf] at hq
      exact absurd h ((search_full hR hst f a0 [] steps (by omega) (by simp) hq).2 rfl)
    · rfl

/-! ### a search that is not anchored goes with the least anchored one that finds -/
/-- one place of both: L and M lead to the same; what stands behind L counts only where nothing is found -/
theorem step_sync (L R M : List (Nat × List Int)) (foU foA : Option (List Int × Int)) (su sa : Nat) (hF : FEq is text j L M) (hI : foA.isSome = true → foU = foA ∧ R = []) :
    ∃ L' e, (visitAll is text j (L ++ R) (fresh is.length foU su)).next = L' ++ e ∧ FEq is text (j + 1) L' (visitAll is text j M (fresh is.length foA sa)).next ∧
      ((visitAll is text j M (fresh is.length foA sa)).found.isSome = true → (visitAll is text j (L ++ R) (fresh is.length foU su)).found = (visitAll is text j M (fresh is.length foA sa)).found ∧ e = []) := by
  have hS := all_same hF (fresh_len is.length foU su) (fresh_len is.length foA sa) (fresh_same (is := is) (text := text) (j := j) foU foA su sa)
  have fA := all_found (is := is) (text := text) (j := j) M (fresh is.length foA sa)
  have fL := all_found (is := is) (text := text) (j := j) L (fresh is.length foU su)
  have fR := all_found (is := is) (text := text) (j := j) R (visitAll is text j L (fresh is.length foU su))
  rw [all_append]
  generalize visitAll is text j L (fresh is.length foU su) = sL at *
  generalize visitAll is text j M (fresh is.length foA sa) = sA at *
  rcases ho : sL.over with _ | _
  · have hoA : sA.over = false := hS.over.trans ho
    have hfA : sA.found = foA := (fA.no hoA).2
    have hfL : sL.found = foU := (fL.no ho).2
    obtain ⟨e, he⟩ := fR.next
    refine ⟨sL.next, e, he, hS.next.symm, fun h => ?_⟩
    rw [hfA] at h
    obtain ⟨h1, rfl⟩ := hI h
    have he2 : sL.next = sL.next ++ e := he
    refine ⟨?_, ?_⟩
    · show sL.found = _
      rw [hfL, hfA, h1]
    · have := congrArg List.length he2
      rw [List.length_append] at this
      exact List.eq_nil_of_length_eq_zero (by omega)
  · rw [fR.end_ ho]
    exact ⟨sL.next, [], (List.append_nil _).symm, hS.next.symm, fun _ => ⟨(hS.found ho).symm, rfl⟩⟩
variable {i0 : Nat}
theorem after_sync {f : Nat} (ha : a0 ≤ j) (hi : i0 ≤ j)
    (IH : ∀ (L R M : List (Nat × List Int)) (foU foA : Option (List Int × Int)) (su sa : Nat), FEq is text (j + 1) L M → (foA.isSome = true → foU = foA ∧ R = []) →
      (searchF is st nn text i0 true f (j + 1) M foA sa).1.isSome = true → (searchF is st nn text a0 false f (j + 1) (L ++ R) foU su).1 = (searchF is st nn text i0 true f (j + 1) M foA sa).1)
    {sU sA : VSt} {L' e : List (Nat × List Int)} (hn : sU.next = L' ++ e) (hF : FEq is text (j + 1) L' sA.next) (hI : sA.found.isSome = true → sU.found = sA.found ∧ e = [])
    (hs : (if sA.next.isEmpty && (sA.found.isSome || true) then (sA.found, sA.steps) else searchF is st nn text i0 true f (j + 1) sA.next sA.found sA.steps).1.isSome = true) :
    (if sU.next.isEmpty && (sU.found.isSome || false) then (sU.found, sU.steps) else searchF is st nn text a0 false f (j + 1) sU.next sU.found sU.steps).1 =
    (if sA.next.isEmpty && (sA.found.isSome || true) then (sA.found, sA.steps) else searchF is st nn text i0 true f (j + 1) sA.next sA.found sA.steps).1 := by
  by_cases hA : sA.next = []
  · rw [hA] at hs hF ⊢
    simp only [List.isEmpty_nil, Bool.or_true, Bool.and_self, if_true] at hs ⊢
    obtain ⟨h1, rfl⟩ := hI hs
    rw [List.append_nil] at hn
    split
    · exact h1
    · rw [search_dead f (j + 1) _ _ _ (by omega) (by rw [h1, hs]; rfl) (by rw [hn]; exact FEq.all_dead hF), h1]
  · have hA2 : sA.next.isEmpty = false := by rw [Bool.eq_false_iff]; intro h; exact hA (List.isEmpty_iff.1 h)
    rw [hA2] at hs ⊢
    simp only [Bool.false_and, Bool.false_eq_true, if_false] at hs ⊢
    split
    · rename_i hU
      rw [Bool.and_eq_true] at hU
      have hU1 := List.isEmpty_iff.1 hU.1
      rw [hU1] at hn
      obtain ⟨rfl, rfl⟩ := List.append_eq_nil_iff.1 hn.symm
      have hd := FEq.all_dead (show FEq is text (j + 1) sA.next [] from hF.symm)
      rw [search_dead f (j + 1) _ _ _ (by omega) (by simp) hd] at hs ⊢
      exact (hI hs).1
    · rw [hn]
      exact IH L' e sA.next sU.found sA.found sU.steps sA.steps hF hI hs
theorem sync (hai : a0 ≤ i0) : ∀ (f j : Nat) (L R M : List (Nat × List Int)) (foU foA : Option (List Int × Int)) (su sa : Nat), i0 < j → FEq is text j L M → (foA.isSome = true → foU = foA ∧ R = []) →
    (searchF is st nn text i0 true f j M foA sa).1.isSome = true → (searchF is st nn text a0 false f j (L ++ R) foU su).1 = (searchF is st nn text i0 true f j M foA sa).1
  | 0, j, L, R, M, foU, foA, su, sa, _, _, hI, hs => (hI hs).1
  | f + 1, j, L, R, M, foU, foA, su, sa, hj, hF, hI, hs => by
    have hA : (decide (j = i0) || !true && foA.isNone) = false := by simp; omega
    have hU : (decide (j = a0) || !false && foU.isNone) = foU.isNone := by rw [decide_eq_false (by omega)]; simp
    rw [search_step rfl, hA, placeF_eq] at hs
    rw [search_step rfl, hU, placeF_eq, search_step rfl, hA, placeF_eq]
    simp only [Bool.false_eq_true, if_false, List.append_nil] at hs ⊢
    rw [List.append_assoc]
    obtain ⟨L', e, h1, h2, h3⟩ := step_sync (is := is) (text := text) (j := j) L (R ++ if foU.isNone = true then [(st, nn)] else []) M foU foA su sa hF (fun h => by
      obtain ⟨h1, h2⟩ := hI h
      subst h1
      refine ⟨rfl, ?_⟩
      rw [h2]
      cases foU
      · cases h
      · rfl)
    exact after_sync (by omega) (by omega) (fun L R M foU foA su sa => sync hai f (j + 1) L R M foU foA su sa (by omega)) h1 h2 h3 hs
/-- places ahead of the first from which a Match can be come to -/
theorem ahead : ∀ (d f j : Nat) (ths : List (Nat × List Int)) (steps : Nat), a0 ≤ j → (∀ k, j ≤ k → k < j + d → ¬ Hits is text k st) → (∀ p ∈ ths, ¬ Hits is text j p.1) →
    ∃ ths' steps', (∀ p ∈ ths', ¬ Hits is text (j + d) p.1) ∧ (searchF is st nn text a0 false (f + d) j ths none steps).1 = (searchF is st nn text a0 false f (j + d) ths' none steps').1
  | 0, f, j, ths, steps, _, _, hd => ⟨ths, steps, hd, rfl⟩
  | d + 1, f, j, ths, steps, ha, hk, hd => by
    have hU : (decide (j = a0) || !false && (none : Option (List Int × Int)).isNone) = true := by simp
    have hdd : ∀ p ∈ ths ++ [(st, nn)], ¬ Hits is text j p.1 := by
      intro p hp
      rcases List.mem_append.1 hp with h | h
      · exact hd p h
      · simp at h; rw [h]; exact hk j (by omega) (by omega)
    have hs := all_dead (is := is) (text := text) (j := j) (ths ++ [(st, nn)]) (fresh is.length none steps) hdd
    have hfo : (visitAll is text j (ths ++ [(st, nn)]) (fresh is.length none steps)).found = none := ((all_found (is := is) (text := text) (j := j) (ths ++ [(st, nn)]) (fresh is.length none steps)).no hs.over).2
    have hnx := FEq.all_dead (show FEq is text (j + 1) (visitAll is text j (ths ++ [(st, nn)]) (fresh is.length none steps)).next [] from hs.next)
    obtain ⟨t', s', h1, h2⟩ := ahead d f (j + 1) (visitAll is text j (ths ++ [(st, nn)]) (fresh is.length none steps)).next (visitAll is text j (ths ++ [(st, nn)]) (fresh is.length none steps)).steps (by omega) (fun k h1 h2 => hk k (by omega) (by omega)) hnx
    have e1 : j + 1 + d = j + (d + 1) := by omega
    rw [e1] at h1 h2
    refine ⟨t', s', h1, ?_⟩
    rw [show f + (d + 1) = (f + d) + 1 by omega, search_step rfl, hU, placeF_eq]
    simp only [if_true]
    rw [hfo]
    simp only [Option.isSome_none, Bool.or_false, Bool.and_false, Bool.false_eq_true, if_false]
    exact h2
/-- THE LEAST: what is found is what the least anchored search finds, that finds something -/
theorem run_least (hR : Inside is) (hst : st < is.length) {m a i : Nat} (ha : a ≤ i) (hi : i ≤ text.length) (hh : Hits is text i st) (hk : ∀ k, a ≤ k → k < i → ¬ Hits is text k st) :
    (runF is st m text a false).1 = (runF is st m text i true).1 := by
  unfold runF
  obtain ⟨f, hf⟩ : ∃ f, text.length + 1 - i = f + 1 := ⟨text.length - i, by omega⟩
  have hs := (search_iff (nn := List.replicate m (-1)) hR hst hi 0).2 hh
  obtain ⟨t', s', h1, h2⟩ := ahead (is := is) (text := text) (st := st) (nn := List.replicate m (-1)) (a0 := a) (i - a) (f + 1) a [] 0 (Nat.le_refl _) (fun k h1 h2 => hk k h1 (by omega)) (by simp)
  have e1 : a + (i - a) = i := by omega
  rw [e1] at h1 h2
  rw [show text.length + 1 - a = f + 1 + (i - a) by omega, h2, hf]
  rw [hf] at hs
  have hA : (decide (i = i) || !true && (none : Option (List Int × Int)).isNone) = true := by simp
  have hU : (decide (i = a) || !false && (none : Option (List Int × Int)).isNone) = true := by simp
  rw [search_step rfl, hA, placeF_eq] at hs
  rw [search_step rfl, hU, placeF_eq, search_step rfl, hA, placeF_eq]
  simp only [if_true, List.nil_append] at hs ⊢
  have hF : FEq is text i (t' ++ [(st, List.replicate m (-1))]) [(st, List.replicate m (-1))] := by
    have := (FEq.dead h1).append (FEq.self (is := is) (text := text) (j := i) [(st, List.replicate m (-1))])
    rwa [List.nil_append] at this
  obtain ⟨L', e, g1, g2, g3⟩ := step_sync (is := is) (text := text) (j := i) (t' ++ [(st, List.replicate m (-1))]) [] [(st, List.replicate m (-1))] none none s' 0 hF (fun h => by cases h)
  rw [List.append_nil] at g1 g3
  exact after_sync (by omega) (Nat.le_refl _) (fun L R M foU foA su sa => sync ha f (i + 1) L R M foU foA su sa (by omega)) g1 g2 g3 hs
theorem run_none (hR : Inside is) (hst : st < is.length) {m a : Nat} (ha : a ≤ text.length) (hk : ∀ k, a ≤ k → k ≤ text.length → ¬ Hits is text k st) : (runF is st m text a false).1 = none := by
  unfold runF
  obtain ⟨t', s', h1, h2⟩ := ahead (is := is) (text := text) (st := st) (nn := List.replicate m (-1)) (a0 := a) (text.length + 1 - a) 0 a [] 0 (Nat.le_refl _) (fun k h1 h2 => hk k h1 (by omega)) (by simp)
  rw [Nat.zero_add] at h2
  rw [h2]
  rfl
theorem run_iff (hR : Inside is) (hst : st < is.length) {m i : Nat} (hi : i ≤ text.length) : (runF is st m text i true).1.isSome = true ↔ Hits is text i st := search_iff hR hst hi 0
end
end
end Go.Proofs.Ytnkefclbchpafaa
