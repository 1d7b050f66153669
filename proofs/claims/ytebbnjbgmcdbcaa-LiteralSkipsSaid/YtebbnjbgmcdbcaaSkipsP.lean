/-
  What a program finds begins with its row; a search from a place on may begin where the row stands. Plain lists, no memory.
-/
import Derived.Test.YtebbnjbgmcdbcaaLeast
import Derived.Test.YtebbnjbgmcdbcaaPlainQ
import Derived.Test.YtebbnjbgmcdbcaaPlain
namespace Go.Proofs.Ytebbnjbgmcdbcaa
set_option linter.unusedVariables false

/-- the row stands at j -/
def Told_ (row text : List Int) (j : Nat) : Prop := ∀ k c, row[k]? = some c → text[j + k]? = some c
theorem told_nil (text : List Int) (j : Nat) : Told_ [] text j := fun k c h => by simp at h
theorem told_cons {c : Int} {row text : List Int} {j : Nat} (h0 : text[j]? = some c) (h : Told_ row text (j + 1)) : Told_ (c :: row) text j := fun k d hk => by
  rcases k with _ | k
  · simp at hk; subst hk; exact h0
  · simp at hk
    have := h k d hk
    rwa [show j + (k + 1) = j + 1 + k by omega]

section
variable {is : List PInst} {text : List Int}
theorem prefix_tells {caps : Int} (hmay : ∀ (i : Nat) (x : PInst), is[i]? = some x → mayB x is.length caps = true) : ∀ (f : Nat) (bs : List Bool) (pc : Nat) (row : List Int), ∃ rest, (prefixFrom is f bs pc row).1 = row ++ rest ∧
    (∀ j, Hits is text j pc → Told_ rest text j) ∧ ((prefixFrom is f bs pc row).2 = true → ∀ j, Told_ rest text j → Hits is text j pc)
  | 0, bs, pc, row => ⟨[], by simp [prefixFrom], fun j _ => told_nil _ _, fun h => by simp [prefixFrom] at h⟩
  | f + 1, bs, pc, row => by
    have stop : prefixFrom is (f + 1) bs pc row = (row, false) → ∃ rest, (prefixFrom is (f + 1) bs pc row).1 = row ++ rest ∧ (∀ j, Hits is text j pc → Told_ rest text j) ∧ ((prefixFrom is (f + 1) bs pc row).2 = true → ∀ j, Told_ rest text j → Hits is text j pc) := fun h =>
      ⟨[], by rw [h]; simp, fun j _ => told_nil _ _, fun h2 => by rw [h] at h2; cases h2⟩
    rcases hm : bs[pc]? with _ | m
    · exact stop (by rw [prefixFrom, List.getD_eq_getElem?_getD, hm]; simp)
    rcases m with _ | _
    rotate_left
    · exact stop (prefix_met hm)
    rcases hx : is[pc]? with _ | x
    · exact stop (by rw [prefixFrom, getD_some hm, hx]; simp)
    by_cases h5 : x.op = 5
    · rw [prefix_match hm hx h5]
      exact ⟨[], by simp, fun j _ => told_nil _ _, fun _ j _ => .match_ hx h5⟩
    by_cases h1 : x.op = 1
    · by_cases hr : x.rs.length ≠ 1
      · exact stop (prefix_wide hm hx h1 hr)
      obtain ⟨lo, hi, hrs⟩ : ∃ lo hi, x.rs = [(lo, hi)] := by
        rcases hrs : x.rs with _ | ⟨⟨a, b⟩, _ | ⟨r2, r3⟩⟩
        · rw [hrs] at hr; simp at hr
        · exact ⟨a, b, rfl⟩
        · rw [hrs] at hr; simp at hr
      by_cases he : lo = hi
      rotate_left
      · exact stop (prefix_two hm hx h1 hrs he)
      rw [prefix_rune hm hx h1 hrs he]
      subst he
      obtain ⟨rest, e, g1, g2⟩ := prefix_tells hmay f (bs.set pc true) x.x.toNat (row ++ [lo])
      have hrb : rightB x.rs = true := by
        have := hmay pc x hx
        simp only [mayB, if_pos h1, Bool.and_eq_true] at this
        exact this.2
      have hrb' : rightB [(lo, lo)] = true := hrs ▸ hrb
      have hfit : ∀ j, fitsB x.rs text j = true ↔ text[j]? = some lo := by
        intro j
        unfold fitsB
        rcases ht : text[j]? with _ | c
        · simp
        · simp only [hasB, inB, hrs, hrb', List.any_cons, List.any_nil, Bool.or_false, Bool.true_and, decide_eq_true_eq]
          constructor
          · intro h; congr 1; omega
          · intro h; injection h with h; omega
      refine ⟨lo :: rest, by rw [e]; simp, fun j hh => ?_, fun hw j ht => ?_⟩
      · cases hh with
        | match_ hx2 h2 => rw [hx] at hx2; injection hx2 with hx2; subst hx2; exact absurd h2 h5
        | altX hx2 h2 _ => rw [hx] at hx2; injection hx2 with hx2; subst hx2; omega
        | altY hx2 h2 _ => rw [hx] at hx2; injection hx2 with hx2; subst hx2; omega
        | goes hx2 h2 _ => rw [hx] at hx2; injection hx2 with hx2; subst hx2; omega
        | holds hx2 h2 _ _ => rw [hx] at hx2; injection hx2 with hx2; subst hx2; omega
        | rune hx2 h2 hf hh =>
          rw [hx] at hx2
          injection hx2 with hx2
          subst hx2
          exact told_cons ((hfit j).1 hf) (g1 (j + 1) hh)
      · have h0 := ht 0 lo (by simp)
        rw [Nat.add_zero] at h0
        refine .rune hx h1 ((hfit j).2 h0) (g2 hw (j + 1) (fun k c hk => ?_))
        have := ht (k + 1) c (by simpa using hk)
        rwa [show j + 1 + k = j + (k + 1) by omega]
    by_cases h7 : x.op = 7 ∨ x.op = 3
    · rw [prefix_goes hm hx h7]
      obtain ⟨rest, e, g1, g2⟩ := prefix_tells hmay f (bs.set pc true) x.x.toNat row
      refine ⟨rest, e, fun j hh => ?_, fun hw j ht => .goes hx h7 (g2 hw j ht)⟩
      cases hh with
      | match_ hx2 h2 => rw [hx] at hx2; injection hx2 with hx2; subst hx2; omega
      | altX hx2 h2 _ => rw [hx] at hx2; injection hx2 with hx2; subst hx2; omega
      | altY hx2 h2 _ => rw [hx] at hx2; injection hx2 with hx2; subst hx2; omega
      | goes hx2 h2 hh => rw [hx] at hx2; injection hx2 with hx2; subst hx2; exact g1 j hh
      | holds hx2 h2 _ _ => rw [hx] at hx2; injection hx2 with hx2; subst hx2; omega
      | rune hx2 h2 hf hh => rw [hx] at hx2; injection hx2 with hx2; subst hx2; omega
    · exact stop (prefix_other hm hx h5 h1 (fun h => h7 (.inl h)) (fun h => h7 (.inr h)))
/-- the row is no longer than the program -/
theorem prefix_count : ∀ (f : Nat) (bs : List Bool) (pc : Nat) (row : List Int), (prefixFrom is f bs pc row).1.length ≤ row.length + bs.count false
  | 0, bs, pc, row => by simp [prefixFrom]
  | f + 1, bs, pc, row => by
    have stop : prefixFrom is (f + 1) bs pc row = (row, false) → (prefixFrom is (f + 1) bs pc row).1.length ≤ row.length + bs.count false := fun h => by rw [h]; simp
    rcases hm : bs[pc]? with _ | m
    · exact stop (by rw [prefixFrom, List.getD_eq_getElem?_getD, hm]; simp)
    rcases m with _ | _
    rotate_left
    · exact stop (prefix_met hm)
    rcases hx : is[pc]? with _ | x
    · exact stop (by rw [prefixFrom, getD_some hm, hx]; simp)
    have hc := count_met hm
    by_cases h5 : x.op = 5
    · rw [prefix_match hm hx h5]; simp
    by_cases h1 : x.op = 1
    · by_cases hr : x.rs.length ≠ 1
      · exact stop (prefix_wide hm hx h1 hr)
      obtain ⟨lo, hi, hrs⟩ : ∃ lo hi, x.rs = [(lo, hi)] := by
        rcases hrs : x.rs with _ | ⟨⟨a, b⟩, _ | ⟨r2, r3⟩⟩
        · rw [hrs] at hr; simp at hr
        · exact ⟨a, b, rfl⟩
        · rw [hrs] at hr; simp at hr
      by_cases he : lo = hi
      · rw [prefix_rune hm hx h1 hrs he]
        have := prefix_count f (bs.set pc true) x.x.toNat (row ++ [lo])
        rw [List.length_append, List.length_singleton] at this
        omega
      · exact stop (prefix_two hm hx h1 hrs he)
    by_cases h7 : x.op = 7 ∨ x.op = 3
    · rw [prefix_goes hm hx h7]
      have := prefix_count f (bs.set pc true) x.x.toNat row
      omega
    · exact stop (prefix_other hm hx h5 h1 (fun h => h7 (.inl h)) (fun h => h7 (.inr h)))
end
theorem told_stands {row text : List Int} {j : Nat} (hj : j ≤ text.length) : Told_ row text j ↔ standsB row text j = true := by
  rw [standsB_iff]
  constructor
  · intro h
    refine ⟨hj, ?_⟩
    rw [List.prefix_iff_getElem?]
    intro i hi
    rw [List.getElem?_drop]
    exact h i _ (List.getElem?_eq_getElem hi)
  · rintro ⟨-, h⟩ k c hk
    rw [List.prefix_iff_getElem?] at h
    obtain ⟨hl, he⟩ := List.getElem?_eq_some_iff.1 hk
    have := h k hl
    rw [List.getElem?_drop] at this
    rw [this, he]
theorem next_iff {P text : List Int} {a : Nat} (ha : a ≤ text.length) : nextOf P text (a : Int) = a ↔ standsB P text a = true := by
  constructor
  · intro h
    refine Classical.byContradiction fun hn => ?_
    by_cases hex : ∃ s, a ≤ s ∧ standsB P text s = true
    · obtain ⟨s, hs⟩ := hex
      have hmin : ∃ s, a ≤ s ∧ standsB P text s = true ∧ ∀ r, a ≤ r → r < s → standsB P text r = false := by
        induction s using Nat.strongRecOn with
        | ind s ih =>
          by_cases hr : ∃ r, a ≤ r ∧ r < s ∧ standsB P text r = true
          · obtain ⟨r, r1, r2, r3⟩ := hr
            exact ih r r2 ⟨r1, r3⟩
          · exact ⟨s, hs.1, hs.2, fun r r1 r2 => by rw [Bool.eq_false_iff]; exact fun h => hr ⟨r, r1, r2, h⟩⟩
      obtain ⟨s, s1, s2, s3⟩ := hmin
      rw [nextOf_some s1 s2 s3] at h
      have : s = a := by omega
      subst this
      exact hn s2
    · rw [nextOf_none ha (fun s hs => by rw [Bool.eq_false_iff]; exact fun h => hex ⟨s, hs, h⟩)] at h
      omega
  · intro h
    exact nextOf_some (Nat.le_refl _) h (fun s h1 h2 => by omega)

/-- LiteralSkips, in plain words -/
theorem skips_plain {is : List PInst} {start caps : Int} {text : List Int} {a : Nat} (hc : checkB is start caps = true) (ha : a ≤ text.length) :
    (prefixOf is start caps).1.length ≤ is.length ∧
    ((runF is start.toNat caps.toNat text a true).1.isSome = true → nextOf (prefixOf is start caps).1 text (a : Int) = a) ∧
    ((prefixOf is start caps).2 = true → ((runF is start.toNat caps.toNat text a true).1.isSome = true ↔ nextOf (prefixOf is start caps).1 text (a : Int) = a)) ∧
    ((nextOf (prefixOf is start caps).1 text (a : Int) = -1 ∧ (runF is start.toNat caps.toNat text a false).1 = none) ∨
      ∃ i : Nat, nextOf (prefixOf is start caps).1 text (a : Int) = i ∧ i ≤ text.length ∧ (runF is start.toNat caps.toNat text a false).1 = (runF is start.toNat caps.toNat text i false).1) := by
  obtain ⟨⟨n1, n2, s0, s1, k0, k1⟩, hmay⟩ := vcheck hc
  have hR := inside_of hmay
  have hst : start.toNat < is.length := by omega
  have hp : prefixOf is start caps = prefixFrom is (is.length + 1) (List.replicate is.length false) start.toNat [] := if_pos hc
  obtain ⟨rest, e, g1, g2⟩ := prefix_tells (text := text) hmay (is.length + 1) (List.replicate is.length false) start.toNat []
  rw [← hp, List.nil_append] at e
  rw [← hp] at g2
  rw [e]
  have hstand : ∀ k, k ≤ text.length → Hits is text k start.toNat → standsB rest text k = true := fun k hk hh => (told_stands hk).1 (g1 k hh)
  refine ⟨?_, fun h => ?_, fun hw => ⟨fun h => ?_, fun h => ?_⟩, ?_⟩
  · have := prefix_count (is := is) (is.length + 1) (List.replicate is.length false) start.toNat []
    rw [← hp, e] at this
    simpa using this
  · exact (next_iff ha).2 (hstand a ha ((run_iff hR hst ha).1 h))
  · exact (next_iff ha).2 (hstand a ha ((run_iff hR hst ha).1 h))
  · exact (run_iff hR hst ha).2 (g2 hw a ((told_stands ha).2 ((next_iff ha).1 h)))
  · by_cases hex : ∃ s, a ≤ s ∧ standsB rest text s = true
    · obtain ⟨s, hs⟩ := hex
      have hmin : ∃ s, a ≤ s ∧ standsB rest text s = true ∧ ∀ r, a ≤ r → r < s → standsB rest text r = false := by
        induction s using Nat.strongRecOn with
        | ind s ih =>
          by_cases hr : ∃ r, a ≤ r ∧ r < s ∧ standsB rest text r = true
          · obtain ⟨r, r1, r2, r3⟩ := hr
            exact ih r r2 ⟨r1, r3⟩
          · exact ⟨s, hs.1, hs.2, fun r r1 r2 => by rw [Bool.eq_false_iff]; exact fun h => hr ⟨r, r1, r2, h⟩⟩
      obtain ⟨s, s1, s2, s3⟩ := hmin
      have hsl := (standsB_iff.1 s2).1
      refine .inr ⟨s, nextOf_some s1 s2 s3, hsl, ?_⟩
      have hno : ∀ k, a ≤ k → k < s → ¬ Hits is text k start.toNat := fun k h1 h2 hh => by
        have := hstand k (by omega) hh
        rw [s3 k h1 h2] at this
        cases this
      by_cases hh : ∃ k, s ≤ k ∧ k ≤ text.length ∧ Hits is text k start.toNat
      · obtain ⟨k, k1, k2, k3⟩ := hh
        have hmn : ∃ k, s ≤ k ∧ k ≤ text.length ∧ Hits is text k start.toNat ∧ ∀ r, s ≤ r → r < k → ¬ Hits is text r start.toNat := by
          induction k using Nat.strongRecOn with
          | ind k ih =>
            by_cases hr : ∃ r, s ≤ r ∧ r < k ∧ Hits is text r start.toNat
            · obtain ⟨r, r1, r2, r3⟩ := hr
              exact ih r r2 r1 (by omega) r3
            · exact ⟨k, k1, k2, k3, fun r r1 r2 h => hr ⟨r, r1, r2, h⟩⟩
        obtain ⟨k, k1, k2, k3, k4⟩ := hmn
        rw [run_least hR hst k1 k2 k3 k4, run_least hR hst (by omega) k2 k3 (fun r r1 r2 => if h : r < s then hno r r1 h else k4 r (by omega) r2)]
      · have h2 : ∀ k, s ≤ k → k ≤ text.length → ¬ Hits is text k start.toNat := fun k h1 h2 h => hh ⟨k, h1, h2, h⟩
        rw [run_none hR hst hsl h2, run_none hR hst ha (fun k h1 h3 => if h : k < s then hno k h1 h else h2 k (by omega) h3)]
    · refine .inl ⟨nextOf_none ha (fun s hs => by rw [Bool.eq_false_iff]; exact fun h => hex ⟨s, hs, h⟩), run_none hR hst ha (fun k h1 h2 h => hex ⟨k, h1, hstand k h2 h⟩)⟩
end Go.Proofs.Ytebbnjbgmcdbcaa
