/-
  A program's bytes and its text in plain words, and the bounds of a checked program's numbers.
-/
import Derived.Test.YtdbdokjlcdogiaaDoorSum
import Derived.Test.YtdbdokjlcdogiaaDoorNums
namespace Go.Proofs.YtdbdokjlcdogiaaDoor
set_option linter.unusedVariables false

/-- an instruction's bytes -/
def instB (x : PInst) : List Int := x.op :: (numsOf x).flatMap fun n => putN n.toNat
/-- the instructions behind bytes; none: too many -/
def instsB : List PInst → List Int → Option (List Int)
  | [], b => some b
  | x :: r, b => if 8388604 < (b ++ instB x).length then none else instsB r (b ++ instB x)
def tail4 (s : Int) : List Int := [s % 256, s / 256 % 256, s / 65536 % 256, s / 16777216 % 256]
def headB (n : Nat) (start caps : Int) : List Int := ((([72, 82, 80, 71] ++ putN caps.toNat) ++ putN start.toNat) ++ putN n : List Int)
/-- P10.3 -/
def bytesOf (is : List PInst) (start caps : Int) : List Int × Int :=
  if checkB is start caps then
    match instsB is (headB is.length start caps) with
    | some b => (b ++ tail4 (sumV b), 0)
    | none => ([], 3)
  else ([], 90)
theorem instsB_drop {is : List PInst} {k : Nat} {x : PInst} (b : List Int) (h : is[k]? = some x) : instsB (is.drop k) b = if 8388604 < (b ++ instB x).length then none else instsB (is.drop (k + 1)) (b ++ instB x) := by
  have hl := (List.getElem?_eq_some_iff.1 h).1
  rw [List.drop_eq_getElem_cons hl]
  rw [List.getElem?_eq_getElem hl] at h
  injection h with h
  rw [h]
  rfl

/-- what a checked instruction's numbers are -/
structure FineI (x : PInst) : Prop where
  op0 : 1 ≤ x.op
  op1 : x.op ≤ 7
  nums : ∀ n ∈ numsOf x, 0 ≤ n ∧ n < 2097152
  rs : x.rs.length ≤ 5000
theorem flatR_mem : ∀ {l : List (Int × Int)} {n : Int}, n ∈ flatR l → ∃ r ∈ l, n = r.1 ∨ n = r.2
  | [], n, h => by simp [flatR] at h
  | r :: l, n, h => by
    simp only [flatR, List.mem_cons] at h
    rcases h with h | h | h
    · exact ⟨r, by simp, .inl h⟩
    · exact ⟨r, by simp, .inr h⟩
    · obtain ⟨q, hq, e⟩ := flatR_mem h
      exact ⟨q, by simp [hq], e⟩
theorem rightFrom_mem : ∀ {l : List (Int × Int)} {p : Option (Int × Int)} {r : Int × Int}, rightFrom p l = true → r ∈ l → domB r.1 = true ∧ domB r.2 = true
  | [], p, r, h, hr => by simp at hr
  | x :: l, p, r, h, hr => by
    simp only [rightFrom, Bool.and_eq_true] at h
    rcases List.mem_cons.1 hr with rfl | hr
    · obtain ⟨h1, -⟩ := h
      unfold rangeB at h1
      simp only [Bool.and_eq_true] at h1
      exact ⟨h1.1.1.1.1, h1.1.1.1.2⟩
    · exact rightFrom_mem h.2 hr
theorem domB_in {r : Int} (h : domB r = true) : 0 ≤ r ∧ r < 2097152 := by
  have := of_decide_eq_true h
  omega
theorem thereB_in {i : Int} {n : Nat} (h : thereB i n = true) : 0 ≤ i ∧ i < n := of_decide_eq_true h
theorem fine_of_may {x : PInst} {n : Nat} {caps : Int} (h : mayB x n caps = true) (hn : n ≤ 20000) (hc : caps ≤ 1002) : FineI x := by
  unfold mayB at h
  by_cases h1 : x.op = 1
  · rw [if_pos h1] at h
    simp only [Bool.and_eq_true, decide_eq_true_eq] at h
    obtain ⟨⟨⟨⟨a, b⟩, c⟩, d⟩, e⟩ := h
    unfold rightB at e
    simp only [Bool.and_eq_true, decide_eq_true_eq] at e
    refine ⟨by omega, by omega, fun k hk => ?_, e.1⟩
    unfold numsOf at hk
    rw [if_pos h1] at hk
    have ha := thereB_in a
    simp only [List.mem_cons] at hk
    rcases hk with rfl | rfl | hk
    · omega
    · omega
    · obtain ⟨r, hr, hq⟩ := flatR_mem hk
      obtain ⟨d1, d2⟩ := rightFrom_mem e.2 hr
      have d1 := domB_in d1
      have d2 := domB_in d2
      rcases hq with rfl | rfl <;> omega
  rw [if_neg h1] at h
  by_cases h2 : x.op = 2
  · rw [if_pos h2] at h
    simp only [Bool.and_eq_true, decide_eq_true_eq] at h
    obtain ⟨⟨⟨a, b⟩, c⟩, d⟩ := h
    have ha := thereB_in a
    have hb := thereB_in b
    refine ⟨by omega, by omega, fun k hk => ?_, by omega⟩
    unfold numsOf at hk
    rw [if_neg h1, if_pos h2] at hk
    simp at hk
    rcases hk with rfl | rfl <;> omega
  rw [if_neg h2] at h
  by_cases h3 : x.op = 3
  · rw [if_pos h3] at h
    simp only [Bool.and_eq_true, decide_eq_true_eq] at h
    obtain ⟨⟨⟨a, b⟩, c⟩, d⟩ := h
    have ha := thereB_in a
    refine ⟨by omega, by omega, fun k hk => ?_, by omega⟩
    unfold numsOf at hk
    rw [if_neg h1, if_neg h2, if_pos (by omega)] at hk
    simp at hk
    rcases hk with rfl | rfl <;> omega
  rw [if_neg h3] at h
  by_cases h4 : x.op = 4
  · rw [if_pos h4] at h
    simp only [Bool.and_eq_true, decide_eq_true_eq] at h
    obtain ⟨⟨⟨a, b⟩, c⟩, d⟩ := h
    have ha := thereB_in a
    have hc := of_decide_eq_true c
    refine ⟨by omega, by omega, fun k hk => ?_, by omega⟩
    unfold numsOf at hk
    rw [if_neg h1, if_neg h2, if_pos (by omega)] at hk
    simp at hk
    rcases hk with rfl | rfl <;> omega
  rw [if_neg h4] at h
  by_cases h5 : x.op = 5
  · rw [if_pos h5] at h
    simp only [Bool.and_eq_true, decide_eq_true_eq] at h
    obtain ⟨⟨⟨a, b⟩, c⟩, d⟩ := h
    refine ⟨by omega, by omega, fun k hk => ?_, by omega⟩
    unfold numsOf at hk
    rw [if_neg h1, if_neg h2, if_neg (by omega), if_pos h5] at hk
    simp at hk
    omega
  rw [if_neg h5] at h
  by_cases h6 : x.op = 6
  · rw [if_pos h6] at h
    simp only [Bool.and_eq_true, decide_eq_true_eq] at h
    refine ⟨by omega, by omega, fun k hk => ?_, by omega⟩
    unfold numsOf at hk
    rw [if_neg h1, if_neg h2, if_neg (by omega), if_neg h5, if_neg (by omega)] at hk
    simp at hk
  rw [if_neg h6] at h
  by_cases h7 : x.op = 7
  · rw [if_pos h7] at h
    simp only [Bool.and_eq_true, decide_eq_true_eq] at h
    obtain ⟨⟨⟨a, b⟩, c⟩, d⟩ := h
    have ha := thereB_in a
    refine ⟨by omega, by omega, fun k hk => ?_, by omega⟩
    unfold numsOf at hk
    rw [if_neg h1, if_neg h2, if_neg (by omega), if_neg h5, if_pos h7] at hk
    simp at hk
    omega
  rw [if_neg h7] at h
  cases h
/-- what a checked program is -/
structure FineP (is : List PInst) (start caps : Int) : Prop where
  l0 : 1 ≤ is.length
  l1 : is.length ≤ 20000
  s0 : 0 ≤ start
  s1 : start < is.length
  c0 : 2 ≤ caps
  c1 : caps ≤ 1002
  i : ∀ x ∈ is, FineI x
theorem fineP {is : List PInst} {start caps : Int} (h : checkB is start caps = true) : FineP is start caps := by
  unfold checkB at h
  simp only [Bool.and_eq_true, decide_eq_true_eq, List.all_eq_true] at h
  obtain ⟨⟨a, b, c, d, e, f, g⟩, m⟩ := h
  exact ⟨a, b, c, d, f, g, fun x hx => fine_of_may (m x hx) b g⟩
theorem flatR_len : ∀ (l : List (Int × Int)), (flatR l).length = 2 * l.length
  | [] => rfl
  | r :: l => by simp [flatR, flatR_len l]; omega
theorem numsOf_len {x : PInst} (h : x.rs.length ≤ 5000) : (numsOf x).length ≤ 10002 := by
  unfold numsOf
  split
  · simp [flatR_len]; omega
  split
  · simp
  split
  · simp
  split
  · simp
  split
  · simp
  · simp
theorem flat_drop {α : Type} {l : List Int} {j : Nat} {n : Int} (f : Int → List α) (h : l[j]? = some n) : (l.drop j).flatMap f = f n ++ (l.drop (j + 1)).flatMap f := by
  have hl := (List.getElem?_eq_some_iff.1 h).1
  rw [List.drop_eq_getElem_cons hl]
  rw [List.getElem?_eq_getElem hl] at h
  injection h with h
  rw [h]
  rfl
/-- a byte -/
def ByteI (x : Int) : Prop := 0 ≤ x ∧ x ≤ 255
theorem putN_byte : ∀ (n : Nat), ∀ x ∈ putN n, ByteI x := by
  intro n
  induction n using Nat.strongRecOn with
  | _ n ih =>
    intro x hx
    by_cases h : n < 128
    · rw [putN_small h] at hx
      simp only [List.mem_singleton] at hx
      subst hx
      exact ⟨by omega, by omega⟩
    · rw [putN_big h] at hx
      rcases List.mem_cons.1 hx with rfl | hx
      · exact ⟨by omega, by omega⟩
      · exact ih _ (by omega) x hx
theorem instB_byte {x : PInst} (h : FineI x) : ∀ y ∈ instB x, ByteI y := by
  intro y hy
  unfold instB at hy
  rcases List.mem_cons.1 hy with rfl | hy
  · exact ⟨by have := h.op0; omega, by have := h.op1; omega⟩
  · obtain ⟨n, -, hn⟩ := List.mem_flatMap.1 hy
    exact putN_byte _ y hn
theorem headB_byte (n : Nat) (start caps : Int) : ∀ y ∈ headB n start caps, ByteI y := by
  intro y hy
  unfold headB at hy
  simp only [List.mem_append] at hy
  rcases hy with ((hy | hy) | hy) | hy
  · simp at hy
    rcases hy with rfl | rfl | rfl | rfl <;> exact ⟨by omega, by omega⟩
  · exact putN_byte _ y hy
  · exact putN_byte _ y hy
  · exact putN_byte _ y hy
theorem instsB_byte : ∀ {is : List PInst} {b b' : List Int}, (∀ x ∈ is, FineI x) → (∀ y ∈ b, ByteI y) → instsB is b = some b' → ∀ y ∈ b', ByteI y
  | [], b, b', _, hb, h => by
    injection h with h
    rw [← h]
    exact hb
  | x :: r, b, b', hf, hb, h => by
    unfold instsB at h
    split at h
    · cases h
    · refine instsB_byte (fun z hz => hf z (List.mem_cons_of_mem _ hz)) (fun y hy => ?_) h
      rcases List.mem_append.1 hy with hy | hy
      · exact hb y hy
      · exact instB_byte (hf x (by simp)) y hy
theorem headB_len {n : Nat} {start caps : Int} (h1 : start < 2097152) (h2 : caps < 2097152) (h3 : n < 2097152) : (headB n start caps).length ≤ 16 := by
  unfold headB
  have a := putN_len (n := caps.toNat) (by omega)
  have b := putN_len (n := start.toNat) (by omega)
  have c := putN_len (n := n) (by omega)
  simp only [List.length_append, List.length_cons, List.length_nil]
  omega
theorem instB_len {x : PInst} (h : FineI x) : (instB x).length ≤ 40009 := by
  have hl := numsOf_len h.rs
  have : ∀ l : List Int, (∀ n ∈ l, 0 ≤ n ∧ n < 2097152) → (l.flatMap fun n => putN n.toNat).length ≤ 4 * l.length := by
    intro l hl
    induction l with
    | nil => simp
    | cons n l ih =>
      have h1 := hl n (by simp)
      have h2 := putN_len (n := n.toNat) (by omega)
      have h3 := ih (fun m hm => hl m (by simp [hm]))
      simp only [List.flatMap_cons, List.length_append, List.length_cons]
      omega
  have h4 := this _ h.nums
  unfold instB
  simp only [List.length_cons]
  omega
end Go.Proofs.YtdbdokjlcdogiaaDoor
