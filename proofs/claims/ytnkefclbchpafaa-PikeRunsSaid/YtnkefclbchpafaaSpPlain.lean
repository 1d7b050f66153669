/-
  The plain law of a set of small numbers: what stands in 'at' and in the list (no program in sight).
-/
namespace Go.Proofs.Ytnkefclbchpafaa
set_option linter.unusedVariables false

/-- what the two lists of a set of numbers below N say: the list's numbers are below N, and 'at' says where each stands. -/
structure SetOK (N : Nat) (ats L : List Nat) : Prop where
  len : ats.length = N
  pos : ∀ k i, L[k]? = some i → i < N ∧ ats[i]? = some k

theorem SetOK.empty (N : Nat) : SetOK N (List.replicate N 0) [] := ⟨by simp, fun k i h => by simp at h⟩
theorem SetOK.cleared {N : Nat} {ats L : List Nat} (h : SetOK N ats L) : SetOK N ats [] := ⟨h.len, fun k i h => by simp at h⟩
/-- the number stands where 'at' says, just if it is in the list -/
theorem SetOK.mem {N : Nat} {ats L : List Nat} (h : SetOK N ats L) {i k : Nat} (hk : ats[i]? = some k) : i ∈ L ↔ L[k]? = some i := by
  constructor
  · intro hm
    obtain ⟨j, hj, e⟩ := List.getElem_of_mem hm
    have hj' : L[j]? = some i := by rw [List.getElem?_eq_getElem hj, e]
    have := (h.pos j i hj').2
    rw [hk] at this
    injection this with this
    rw [this]; exact hj'
  · intro hk'
    exact List.mem_of_getElem? hk'
theorem SetOK.lt {N : Nat} {ats L : List Nat} (h : SetOK N ats L) {i : Nat} (hi : i ∈ L) : i < N := by
  obtain ⟨j, hj, e⟩ := List.getElem_of_mem hi
  exact (h.pos j i (by rw [List.getElem?_eq_getElem hj, e])).1
theorem SetOK.add {N : Nat} {ats L : List Nat} (h : SetOK N ats L) {i : Nat} (hi : i < N) (hn : i ∉ L) : SetOK N (ats.set i L.length) (L ++ [i]) := by
  refine ⟨by simpa using h.len, fun k j hk => ?_⟩
  rcases Nat.lt_trichotomy k L.length with hlt | rfl | hgt
  · rw [List.getElem?_append_left hlt] at hk
    obtain ⟨hj, ha⟩ := h.pos k j hk
    have hne : i ≠ j := by rintro rfl; exact hn (List.mem_of_getElem? hk)
    exact ⟨hj, by rw [List.getElem?_set_ne hne]; exact ha⟩
  · rw [List.getElem?_append_right (Nat.le_refl _)] at hk
    simp at hk
    subst hk
    exact ⟨hi, by rw [List.getElem?_set_self (by rw [h.len]; exact hi)]⟩
  · rw [List.getElem?_eq_none (by simp; omega)] at hk
    cases hk
theorem nodup_le : ∀ (N : Nat) (L : List Nat), L.Nodup → (∀ i ∈ L, i < N) → L.length ≤ N
  | 0, L, _, h => by
    cases L with
    | nil => simp
    | cons x r => exact absurd (h x (by simp)) (by omega)
  | N + 1, L, hd, h => by
    by_cases hm : N ∈ L
    · have := nodup_le N (L.erase N) (hd.erase N) (fun i hi => by
        have h1 := (List.Nodup.mem_erase_iff hd).1 hi
        have := h i h1.2
        have := h1.1
        omega)
      rw [List.length_erase_of_mem hm] at this
      omega
    · have := nodup_le N L hd (fun i hi => by
        have := h i hi
        have : i ≠ N := by rintro rfl; exact hm hi
        omega)
      omega
theorem SetOK.nodup {N : Nat} {ats L : List Nat} (h : SetOK N ats L) : L.Nodup := by
  refine List.pairwise_iff_getElem.2 fun i j hi hj hij e => ?_
  have a := (h.pos i _ (List.getElem?_eq_getElem hi)).2
  have b := (h.pos j _ (List.getElem?_eq_getElem hj)).2
  rw [e, b] at a
  injection a with a
  omega
/-- a set never holds more than it is for -/
theorem SetOK.length_le {N : Nat} {ats L : List Nat} (h : SetOK N ats L) : L.length ≤ N := nodup_le N L h.nodup (fun i hi => h.lt hi)
end Go.Proofs.Ytnkefclbchpafaa
