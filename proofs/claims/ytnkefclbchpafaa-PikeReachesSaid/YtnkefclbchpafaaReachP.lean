/-
  The search for a Match by whatever way, with a stack of pairs of an instruction and a place (one number each): when it ends, it has told whether a Match can be come to. Plain lists, no memory.
-/
import Derived.Test.YtnkefclbchpafaaLeast
namespace Go.Proofs.Ytnkefclbchpafaa
set_option linter.unusedVariables false

/-- where the search goes on from pair k -/
def succsOf (is : List PInst) (text : List Int) (N k : Nat) : List Nat :=
  match is[k / N]? with
  | none => []
  | some x =>
    if x.op = 2 then [x.x.toNat * N + k % N, x.y.toNat * N + k % N]
    else if x.op = 7 ∨ x.op = 3 then [x.x.toNat * N + k % N]
    else if x.op = 4 then if holdsB x.arg (part text (k % N) 6) then [x.x.toNat * N + k % N] else []
    else if x.op = 1 then if fitsB x.rs text (k % N) then [x.x.toNat * N + k % N + 1] else []
    else []

/-- what holds between two rounds: what is met, what is still to be done -/
structure RcI (is : List PInst) (text : List Int) (N a st : Nat) (met : List Bool) (todo : List Nat) : Prop where
  len : met.length = is.length * N
  sound : ∀ k ∈ todo, k < is.length * N ∧ (Hits is text (k % N) (k / N) → Hits is text a st)
  closed : ∀ k, met[k]? = some true → (∃ x, is[k / N]? = some x ∧ x.op ≠ 5) ∧ ∀ q ∈ succsOf is text N k, met[q]? = some true ∨ q ∈ todo
  start : met[st * N + a]? = some true ∨ st * N + a ∈ todo

section
variable {is : List PInst} {text : List Int} {a st : Nat} {met : List Bool} {todo : List Nat}
theorem pair_div {N j pc : Nat} (h : j < N) : (pc * N + j) / N = pc ∧ (pc * N + j) % N = j := by
  have hN : 0 < N := by omega
  refine ⟨?_, ?_⟩
  · rw [Nat.mul_comm, Nat.mul_add_div hN, Nat.div_eq_of_lt h, Nat.add_zero]
  · rw [Nat.mul_comm, Nat.mul_add_mod, Nat.mod_eq_of_lt h]
theorem pair_lt {N j pc n : Nat} (h : j < N) (hp : pc < n) : pc * N + j < n * N := by
  have h1 : (pc + 1) * N ≤ n * N := Nat.mul_le_mul_right N hp
  rw [Nat.succ_mul] at h1
  omega
/-- nothing is left to be done: no Match can be come to -/
theorem RcI.none (h : RcI is text (text.length + 1) a st met []) (ha : a ≤ text.length) : ¬ Hits is text a st := by
  have key : ∀ {j pc : Nat}, Hits is text j pc → j ≤ text.length → met[pc * (text.length + 1) + j]? = some true → False := by
    intro j pc hh
    induction hh with
    | @match_ j pc x hx h5 =>
      intro hj hm
      obtain ⟨⟨y, hy, hy5⟩, -⟩ := h.closed _ hm
      rw [(pair_div (by omega)).1, hx] at hy
      injection hy with hy
      subst hy
      exact hy5 h5
    | @altX j pc x hx h2 _ ih =>
      intro hj hm
      obtain ⟨e1, e2⟩ := pair_div (N := text.length + 1) (j := j) (pc := pc) (by omega)
      have hs := (h.closed _ hm).2 (x.x.toNat * (text.length + 1) + j) (by unfold succsOf; rw [e1, e2, hx]; simp [h2])
      exact ih hj (hs.elim id (fun h => by simp at h))
    | @altY j pc x hx h2 _ ih =>
      intro hj hm
      obtain ⟨e1, e2⟩ := pair_div (N := text.length + 1) (j := j) (pc := pc) (by omega)
      have hs := (h.closed _ hm).2 (x.y.toNat * (text.length + 1) + j) (by unfold succsOf; rw [e1, e2, hx]; simp [h2])
      exact ih hj (hs.elim id (fun h => by simp at h))
    | @goes j pc x hx ho _ ih =>
      intro hj hm
      obtain ⟨e1, e2⟩ := pair_div (N := text.length + 1) (j := j) (pc := pc) (by omega)
      have hs := (h.closed _ hm).2 (x.x.toNat * (text.length + 1) + j) (by unfold succsOf; rw [e1, e2, hx]; rcases ho with ho | ho <;> simp [ho])
      exact ih hj (hs.elim id (fun h => by simp at h))
    | @holds j pc x hx ho hh _ ih =>
      intro hj hm
      obtain ⟨e1, e2⟩ := pair_div (N := text.length + 1) (j := j) (pc := pc) (by omega)
      have hs := (h.closed _ hm).2 (x.x.toNat * (text.length + 1) + j) (by unfold succsOf; rw [e1, e2, hx]; simp [ho, hh])
      exact ih hj (hs.elim id (fun h => by simp at h))
    | @rune j pc x hx ho hf _ ih =>
      intro hj hm
      have hlt := fitsB_lt hf
      obtain ⟨e1, e2⟩ := pair_div (N := text.length + 1) (j := j) (pc := pc) (by omega)
      have hs := (h.closed _ hm).2 (x.x.toNat * (text.length + 1) + j + 1) (by unfold succsOf; rw [e1, e2, hx]; simp [ho, hf])
      exact ih (by omega) (hs.elim (fun h => by rw [← Nat.add_assoc]; exact h) (fun h => by simp at h))
  intro hh
  exact key hh ha (h.start.elim id (fun h => by simp at h))
/-- what is met already is passed by -/
theorem RcI.pass {N k : Nat} {l : List Nat} (h : RcI is text N a st met (l ++ [k])) (hm : met[k]? = some true) : RcI is text N a st met l := by
  have hin : ∀ q, q ∈ l ++ [k] → met[q]? = some true ∨ q ∈ l := fun q hq => by
    rcases List.mem_append.1 hq with h1 | h1
    · exact .inr h1
    · simp at h1; subst h1; exact .inl hm
  exact ⟨h.len, fun q hq => h.sound q (List.mem_append.2 (.inl hq)), fun q hq => ⟨(h.closed q hq).1, fun p hp => ((h.closed q hq).2 p hp).elim .inl (hin p)⟩, h.start.elim .inl (hin _)⟩
/-- what has been come to leads there -/
theorem succs_hits (hR : Inside is) {k q : Nat} (hk : k < is.length * (text.length + 1)) (hq : q ∈ succsOf is text (text.length + 1) k) :
    q < is.length * (text.length + 1) ∧ (Hits is text (q % (text.length + 1)) (q / (text.length + 1)) → Hits is text (k % (text.length + 1)) (k / (text.length + 1))) := by
  have hN : 0 < text.length + 1 := by omega
  have hj : k % (text.length + 1) < text.length + 1 := Nat.mod_lt _ hN
  unfold succsOf at hq
  rcases hx : is[k / (text.length + 1)]? with _ | x
  · rw [hx] at hq; simp at hq
  rw [hx] at hq
  simp only at hq
  obtain ⟨rx, ry⟩ := hR _ x hx
  by_cases o2 : x.op = 2
  · rw [if_pos o2] at hq
    simp only [List.mem_cons, List.not_mem_nil, or_false] at hq
    rcases hq with rfl | rfl
    · obtain ⟨e1, e2⟩ := pair_div (pc := x.x.toNat) hj
      exact ⟨pair_lt hj (rx (by omega)), fun h => .altX hx o2 (by rwa [e1, e2] at h)⟩
    · obtain ⟨e1, e2⟩ := pair_div (pc := x.y.toNat) hj
      exact ⟨pair_lt hj (ry o2), fun h => .altY hx o2 (by rwa [e1, e2] at h)⟩
  rw [if_neg o2] at hq
  by_cases o7 : x.op = 7 ∨ x.op = 3
  · rw [if_pos o7] at hq
    simp only [List.mem_singleton] at hq
    subst hq
    obtain ⟨e1, e2⟩ := pair_div (pc := x.x.toNat) hj
    exact ⟨pair_lt hj (rx (by omega)), fun h => .goes hx o7 (by rwa [e1, e2] at h)⟩
  rw [if_neg o7] at hq
  by_cases o4 : x.op = 4
  · rw [if_pos o4] at hq
    by_cases hh : holdsB x.arg (part text (k % (text.length + 1)) 6) = true
    · rw [if_pos hh] at hq
      simp only [List.mem_singleton] at hq
      subst hq
      obtain ⟨e1, e2⟩ := pair_div (pc := x.x.toNat) hj
      exact ⟨pair_lt hj (rx (by omega)), fun h => .holds hx o4 hh (by rwa [e1, e2] at h)⟩
    · rw [if_neg hh] at hq; simp at hq
  rw [if_neg o4] at hq
  by_cases o1 : x.op = 1
  · rw [if_pos o1] at hq
    by_cases hf : fitsB x.rs text (k % (text.length + 1)) = true
    · rw [if_pos hf] at hq
      simp only [List.mem_singleton] at hq
      subst hq
      have hlt := fitsB_lt hf
      have hj1 : k % (text.length + 1) + 1 < text.length + 1 := by omega
      obtain ⟨e1, e2⟩ := pair_div (pc := x.x.toNat) hj1
      rw [Nat.add_assoc]
      exact ⟨pair_lt hj1 (rx (by omega)), fun h => .rune hx o1 hf (by rwa [e1, e2] at h)⟩
    · rw [if_neg hf] at hq; simp at hq
  rw [if_neg o1] at hq
  simp at hq
/-- a pair is taken up: all that it leads to is to be done -/
theorem RcI.take (hR : Inside is) {k : Nat} {l l2 : List Nat} (h : RcI is text (text.length + 1) a st met (l ++ [k])) {x : PInst} (hx : is[k / (text.length + 1)]? = some x) (h5 : x.op ≠ 5)
    (hsub : ∀ q ∈ l, q ∈ l2) (hall : ∀ q ∈ succsOf is text (text.length + 1) k, q ∈ l2) (honly : ∀ q ∈ l2, q ∈ l ∨ q ∈ succsOf is text (text.length + 1) k) : RcI is text (text.length + 1) a st (met.set k true) l2 := by
  have hk := h.sound k (by simp)
  have hin : ∀ q, met[q]? = some true ∨ q ∈ l ++ [k] → (met.set k true)[q]? = some true ∨ q ∈ l2 := fun q hq => by
    by_cases e : k = q
    · subst e
      exact .inl (by rw [List.getElem?_set_self (by rw [h.len]; exact hk.1)])
    · rw [List.getElem?_set_ne e]
      rcases hq with hq | hq
      · exact .inl hq
      · rcases List.mem_append.1 hq with h1 | h1
        · exact .inr (hsub q h1)
        · simp at h1; exact absurd h1.symm e
  refine ⟨by rw [List.length_set]; exact h.len, fun q hq => ?_, fun q hq => ?_, hin _ h.start⟩
  · rcases honly q hq with h1 | h1
    · exact h.sound q (List.mem_append.2 (.inl h1))
    · obtain ⟨g1, g2⟩ := succs_hits hR hk.1 h1
      exact ⟨g1, fun hh => hk.2 (g2 hh)⟩
  · by_cases e : k = q
    · subst e
      exact ⟨⟨x, hx, h5⟩, fun p hp => .inr (hall p hp)⟩
    · rw [List.getElem?_set_ne e] at hq
      exact ⟨(h.closed q hq).1, fun p hp => hin p ((h.closed q hq).2 p hp)⟩
theorem RcI.begin_ (ha : a ≤ text.length) (hst : st < is.length) : RcI is text (text.length + 1) a st (List.replicate (is.length * (text.length + 1)) false) [st * (text.length + 1) + a] := by
  refine ⟨by simp, fun k hk => ?_, fun k hk => ?_, .inr (by simp)⟩
  · simp at hk
    subst hk
    obtain ⟨e1, e2⟩ := pair_div (N := text.length + 1) (j := a) (pc := st) (by omega)
    exact ⟨pair_lt (by omega) hst, fun h => by rwa [e1, e2] at h⟩
  · rw [List.getElem?_replicate] at hk
    split at hk <;> simp at hk
end
end Go.Proofs.Ytnkefclbchpafaa
