/-
  Plain laws of the mirror: it is sound, without groups, no greater; twice it is the tree.
-/
import Derived.Test.YtlaofcgllchedaaSoundG
namespace Go.Proofs.Ytlaofcgllchedaa
open Go.RowKit
set_option linter.unusedVariables false

theorem OkA.mono : ∀ (n : Nat) (t : Tree) (d e : Int), SizeOf.sizeOf t ≤ n → OkA t d → e ≤ d → OkA t e
  | 0, t, _, _, h, _, _ => absurd h (size_pos t)
  | n + 1, t, d, e, hn, ho, he => by
    obtain ⟨h1, h2, h3⟩ := ho.top
    exact OkA.of h1 (by omega) (fun i x hx => OkA.mono n x (d + 1) (e + 1) (by
      have := Tree.sub_lt (List.mem_of_getElem? hx)
      omega) (h3 i x hx) (by omega))
theorem flip_as {x : Int} (h : asB x = true) : asB (flipP x 6) = true ∧ flipP (flipP x 6) 6 = x := by
  unfold asB at h
  have h := of_decide_eq_true h
  rcases h with rfl | rfl | rfl | rfl | rfl | rfl <;> exact ⟨by decide +kernel, by decide +kernel⟩
/-- what a node of a sound tree that is no group holds -/
theorem nodeB_facts {t : Tree} (h : nodeB t = true) : t.ix = 0 ∧ t.nm.toList.isEmpty = true ∧ (t.kind = 3 → asB t.am = true) := by
  by_cases k1 : t.kind = 1
  · rw [nb1 k1] at h
    simp [plainB, countB, groupB] at h
    exact ⟨h.2.2.2.1, by simpa using h.2.2.2.2, fun k => by omega⟩
  by_cases k2 : t.kind = 2
  · rw [nb2 k2] at h
    simp [countB, groupB] at h
    exact ⟨h.2.2.2.1.1, by simpa using h.2.2.2.1.2, fun k => by omega⟩
  by_cases k3 : t.kind = 3
  · rw [nb3 k3] at h
    simp [countB, groupB] at h
    exact ⟨h.2.2.2.1.1, by simpa using h.2.2.2.1.2, fun _ => h.2.2.2.2⟩
  by_cases k4 : t.kind = 4 ∨ t.kind = 5
  · rw [nb4 k4] at h
    simp [plainB, countB, groupB] at h
    exact ⟨h.2.2.2.1, by simpa using h.2.2.2.2, fun k => by omega⟩
  by_cases k6 : t.kind = 6
  · rw [nb6 k6] at h
    simp [plainB, groupB] at h
    exact ⟨h.2.2.1.1, by simpa using h.2.2.1.2, fun k => by omega⟩
  · rw [nb0 (by omega)] at h
    cases h
theorem nm_empty {b : ByteArray} (h : b.toList.isEmpty = true) : b = ByteArray.empty := by
  rw [ByteArray.toList_eq] at h
  obtain ⟨⟨l⟩⟩ := b
  cases l with
  | nil => rfl
  | cons x l => simp at h

theorem mir_fields {t : Tree} (h7 : t.kind ≠ 7) : (mirT t).kind = t.kind ∧ (mirT t).rs = t.rs ∧ (mirT t).am = (if t.kind = 3 then flipP t.am 6 else t.am) ∧ (mirT t).subs = mirS t ∧ (mirT t).mn = t.mn ∧ (mirT t).mx = t.mx ∧ (mirT t).lz = t.lz ∧ (mirT t).ix = 0 ∧ (mirT t).nm = ByteArray.empty := by
  rw [mirT_node h7]
  exact ⟨rfl, rfl, rfl, rfl, rfl, rfl, rfl, rfl, rfl⟩
theorem empty_is : (ByteArray.empty).toList.isEmpty = true := by decide +kernel
theorem mir_node {t : Tree} (h7 : t.kind ≠ 7) (h : nodeB t = true) : nodeB (mirT t) = true := by
  obtain ⟨f1, f2, f3, f4, f5, f6, f7, f8, f9⟩ := mir_fields h7
  have hl : (mirT t).subs.length = t.subs.length := by rw [f4, mirS_len]
  have hc : countB (mirT t) = countB t := by unfold countB; rw [f5, f6, f7]
  have hg : groupB (mirT t) = true := by unfold groupB; rw [f8, f9, empty_is]; rfl
  have hp : t.kind ≠ 3 → plainB (mirT t) = plainB t := fun h3 => by unfold plainB; rw [f2, f3, if_neg h3]
  by_cases k1 : t.kind = 1
  · rw [nb1 k1] at h
    rw [nb1 (by omega), hl, hc, hg, hp (by omega)]
    simp at h ⊢
    exact ⟨h.1, h.2.1, h.2.2.1⟩
  by_cases k2 : t.kind = 2
  · rw [nb2 k2] at h
    rw [nb2 (by omega), hl, hc, hg, f2, f3, if_neg (by omega)]
    simp at h ⊢
    exact ⟨h.1, h.2.1, h.2.2.1, h.2.2.2.2⟩
  by_cases k3 : t.kind = 3
  · have ha := (flip_as ((nodeB_facts h).2.2 k3)).1
    rw [nb3 k3] at h
    rw [nb3 (by omega), hl, hc, hg, f2, f3, if_pos k3, ha]
    simp at h ⊢
    exact ⟨h.1, h.2.1, h.2.2.1⟩
  by_cases k4 : t.kind = 4 ∨ t.kind = 5
  · rw [nb4 k4] at h
    rw [nb4 (by omega), hl, hc, hg, hp (by omega)]
    simp at h ⊢
    exact ⟨h.1, h.2.1, h.2.2.1⟩
  by_cases k6 : t.kind = 6
  · rw [nb6 k6] at h
    rw [nb6 (by omega), hl, hg, hp (by omega), f5, f6]
    simp at h ⊢
    exact ⟨h.1, h.2.1, h.2.2.2⟩
  · rw [nb0 (by omega)] at h
    cases h
theorem cntL_mir : ∀ (l : List Tree), (∀ x ∈ l, cntT (mirT x) ≤ cntT x) → cntL (mirL l) ≤ cntL l
  | [], _ => by simp [mirL, cntL]
  | t :: l, h => by
    have h1 := h t List.mem_cons_self
    have h2 := cntL_mir l (fun x hx => h x (List.mem_cons_of_mem _ hx))
    rw [mirL]
    simp only [cntL]
    omega
theorem cntL_rev : ∀ l : List Tree, cntL l.reverse = cntL l
  | [] => rfl
  | t :: l => by rw [List.reverse_cons, cntL_append, cntL_rev l]; simp only [cntL]; omega
theorem mir_ok : ∀ (n : Nat) (t : Tree) (d : Int), SizeOf.sizeOf t ≤ n → OkA t d → OkA (mirT t) d ∧ NoG (mirT t) ∧ cntT (mirT t) ≤ cntT t
  | 0, t, _, h, _ => absurd h (size_pos t)
  | n + 1, t, d, hn, ho => by
    obtain ⟨h1, h2, h3⟩ := ho.top
    have hsub : ∀ (i : Nat) x, t.subs[i]? = some x → OkA (mirT x) (d + 1) ∧ NoG (mirT x) ∧ cntT (mirT x) ≤ cntT x := fun i x hx => mir_ok n x (d + 1) (by
      have := Tree.sub_lt (List.mem_of_getElem? hx)
      omega) (h3 i x hx)
    have hct := cntT_eq t
    rcases h1 with ⟨h7, hb⟩ | ⟨h7, hs, hr⟩
    · obtain ⟨f1, f2, f3, f4, f5, f6, f7, f8, f9⟩ := mir_fields h7
      refine ⟨OkA.of (.inl ⟨by rw [f1]; exact h7, mir_node h7 hb⟩) h2 (fun i y hy => ?_), NoG.of (by rw [f1]; exact h7) (fun i y hy => ?_), ?_⟩
      · rw [f4] at hy
        obtain ⟨j, x, hx, _, rfl⟩ := mirS_from hy
        exact (hsub j x hx).1
      · rw [f4] at hy
        obtain ⟨j, x, hx, _, rfl⟩ := mirS_from hy
        exact (hsub j x hx).2.1
      · have h4 : cntL (mirL t.subs) ≤ cntL t.subs := cntL_mir _ (fun x hx => by
          obtain ⟨i, hi⟩ := List.mem_iff_getElem?.1 hx
          exact (hsub i x hi).2.2)
        rw [cntT_eq, f4]
        unfold mirS
        split
        · rw [cntL_rev]
          omega
        · omega
    · have hx := List.getElem?_eq_getElem (show 0 < t.subs.length by omega)
      obtain ⟨a, b, c⟩ := hsub 0 _ hx
      rw [mirT_group h7 hx]
      have := cntL_mem hx
      exact ⟨OkA.mono _ _ _ _ (Nat.le_refl _) a (by omega), b, by omega⟩
theorem mir_sound {t : Tree} (h : SoundOk t) : SoundOk (mirT t) ∧ NoG (mirT t) := by
  obtain ⟨a, b, c⟩ := mir_ok _ t 1 (Nat.le_refl _) h.1
  exact ⟨⟨a, by have := h.2; omega⟩, b⟩
theorem mir_twice : ∀ (n : Nat) (t : Tree) (d : Int), SizeOf.sizeOf t ≤ n → OkA t d → NoG t → mirT (mirT t) = t
  | 0, t, _, h, _, _ => absurd h (size_pos t)
  | n + 1, t, d, hn, ho, hg => by
    obtain ⟨h1, h2, h3⟩ := ho.top
    obtain ⟨h7, hgs⟩ := hg.top
    have hb : nodeB t = true := by
      rcases h1 with ⟨_, h⟩ | ⟨h, _⟩
      · exact h
      · exact absurd h h7
    obtain ⟨b1, b2, b3⟩ := nodeB_facts hb
    have hsub : ∀ x ∈ t.subs, mirT (mirT x) = x := fun x hx => by
      obtain ⟨i, hi⟩ := List.mem_iff_getElem?.1 hx
      exact mir_twice n x (d + 1) (by have := Tree.sub_lt hx; omega) (h3 i x hi) (hgs i x hi)
    obtain ⟨f1, f2, f3, f4, f5, f6, f7, f8, f9⟩ := mir_fields h7
    have hmap : (t.subs.map mirT).map mirT = t.subs := by
      rw [List.map_map]
      exact (List.map_congr_left (fun x hx => hsub x hx)).trans (List.map_id _)
    have hS : mirS (mirT t) = t.subs := by
      unfold mirS
      rw [f1, f4]
      unfold mirS
      by_cases k4 : t.kind = 4
      · rw [if_pos k4, if_pos k4, mirL_map, mirL_map, List.map_reverse, List.reverse_reverse]
        exact hmap
      · rw [if_neg k4, if_neg k4, mirL_map, mirL_map]
        exact hmap
    have hA : (if (mirT t).kind = 3 then flipP (mirT t).am 6 else (mirT t).am) = t.am := by
      rw [f1, f3]
      by_cases k3 : t.kind = 3
      · rw [if_pos k3, if_pos k3]
        exact (flip_as (b3 k3)).2
      · rw [if_neg k3, if_neg k3]
    rw [mirT_node (by rw [f1]; exact h7), f1, f2, f5, f6, f7, hS]
    rw [f1] at hA
    rw [hA]
    have he := nm_empty b2
    obtain ⟨k, r, a, l, m, mx, z, i, nn⟩ := t
    simp only [Tree.ix, Tree.nm] at b1 he
    subst b1 he
    rfl
end Go.Proofs.Ytlaofcgllchedaa
