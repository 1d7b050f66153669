/-
  The plain law of layer 15: the greatest border of what has been read, step by step, and the first place at which a row stands. No program, no memory.
-/
namespace Go.Proofs.Ytebbnjbgmcdbcaa
set_option linter.unusedVariables false

/-- the first k of P end Y -/
def Bord (P Y : List Int) (k : Nat) : Prop := k ≤ P.length ∧ P.take k <:+ Y
/-- k is the greatest such -/
def IsMax (P Y : List Int) (k : Nat) : Prop := Bord P Y k ∧ ∀ j, Bord P Y j → j ≤ k

theorem bord_zero (P Y : List Int) : Bord P Y 0 := ⟨Nat.zero_le _, by simp⟩
theorem isMax_nil (P : List Int) : IsMax P [] 0 := ⟨bord_zero P [], fun j hj => by
  have h1 := hj.1
  have h := List.eq_nil_of_suffix_nil hj.2
  have := congrArg List.length h
  simp at this
  rcases this with h | h <;> simp_all⟩
theorem bord_append {P Y : List Int} {c : Int} {j : Nat} (h : Bord P Y j) (hc : P[j]? = some c) : Bord P (Y ++ [c]) (j + 1) := by
  have hl := (List.getElem?_eq_some_iff.1 hc).1
  refine ⟨hl, ?_⟩
  rw [List.take_add_one, hc]
  obtain ⟨r, hr⟩ := h.2
  exact ⟨r, by rw [← hr]; simp⟩
theorem bord_append_inv {P Y : List Int} {c : Int} {j : Nat} (h : Bord P (Y ++ [c]) (j + 1)) : Bord P Y j ∧ P[j]? = some c := by
  have hl : j < P.length := h.1
  obtain ⟨r, hr⟩ := h.2
  rw [List.take_add_one, List.getElem?_eq_getElem hl] at hr
  simp only [Option.toList_some, ← List.append_assoc] at hr
  have := List.append_inj_right' hr rfl
  have h2 := List.append_inj_left' hr rfl
  exact ⟨⟨Nat.le_of_lt hl, ⟨r, h2⟩⟩, by rw [List.getElem?_eq_getElem hl]; simpa using this⟩

/-- what the table of a row holds up to n -/
def Table (P : List Int) (back : List Int) (n : Nat) : Prop := ∀ j, 1 ≤ j → j ≤ n → ∃ b : Nat, back[j]? = some (b : Int) ∧ b < j ∧ IsMax P ((P.take j).drop 1) b

theorem Table.start (P : List Int) : Table P (List.replicate (P.length + 1) 0) (min 1 P.length) := fun j h1 h2 => by
  have : j = 1 := by omega
  subst this
  refine ⟨0, by rw [List.getElem?_replicate, if_pos (by omega)]; rfl, by omega, ?_⟩
  have : (P.take 1).drop 1 = [] := by apply List.drop_eq_nil_of_le; simp; omega
  rw [this]
  exact isMax_nil P
theorem Table.more {P back : List Int} {i k : Nat} (h : Table P back i) (hl : back.length = P.length + 1) (hi : i + 1 ≤ P.length) (hk : k < i + 1) (hm : IsMax P ((P.take (i + 1)).drop 1) k) : Table P (back.set (i + 1) (k : Int)) (i + 1) := fun j h1 h2 => by
  by_cases hj : j = i + 1
  · subst hj
    exact ⟨k, by rw [List.getElem?_set_self (by omega)], hk, hm⟩
  · obtain ⟨b, hb, r⟩ := h j h1 (by omega)
    exact ⟨b, by rw [List.getElem?_set_ne (by omega)]; exact hb, r⟩

/-- the inner loop's state: j is a border, and whatever goes on with c is no longer -/
def Falls (P Y : List Int) (c : Int) (j : Nat) : Prop := Bord P Y j ∧ ∀ i, Bord P Y i → P[i]? = some c → i ≤ j

theorem falls_of_max {P Y : List Int} {c : Int} {k : Nat} (h : IsMax P Y k) : Falls P Y c k := ⟨h.1, fun i hi _ => h.2 i hi⟩
theorem suffix_tail {P : List Int} {i j : Nat} (hij : i < j) (hj : j ≤ P.length) (h : P.take i <:+ P.take j) : P.take i <:+ (P.take j).drop 1 := by
  obtain ⟨r, hr⟩ := h
  have hl := congrArg List.length hr
  simp only [List.length_append, List.length_take] at hl
  rcases r with _ | ⟨a, r⟩
  · simp at hl; omega
  · rw [← hr]
    exact ⟨r, by simp⟩
theorem falls_back {P Y : List Int} {c d : Int} {j b : Nat} (h : Falls P Y c j) (hd : P[j]? = some d) (hne : c ≠ d) (hb : IsMax P ((P.take j).drop 1) b) (h1 : 1 ≤ j) : Falls P Y c b := by
  have hjl := h.1.1
  refine ⟨⟨hb.1.1, ?_⟩, fun i hi hc => ?_⟩
  · exact (hb.1.2.trans (List.drop_suffix _ _)).trans h.1.2
  · have hij := h.2 i hi hc
    have hne' : i ≠ j := by rintro rfl; rw [hd] at hc; injection hc with hc; exact hne hc.symm
    have hlt : i < j := by omega
    refine hb.2 i ⟨hi.1, suffix_tail hlt hjl ?_⟩
    refine List.suffix_of_suffix_length_le hi.2 h.1.2 ?_
    simp only [List.length_take]
    omega
theorem max_same {P Y : List Int} {c : Int} {j : Nat} (h : Falls P Y c j) (hc : P[j]? = some c) : IsMax P (Y ++ [c]) (j + 1) := by
  refine ⟨bord_append h.1 hc, fun i hi => ?_⟩
  rcases i with _ | i
  · omega
  · obtain ⟨hb, hc'⟩ := bord_append_inv hi
    have := h.2 i hb hc'
    omega
theorem max_none {P Y : List Int} {c d : Int} (h : Falls P Y c 0) (hd : P[0]? = some d) (hne : c ≠ d) : IsMax P (Y ++ [c]) 0 := by
  refine ⟨bord_zero _ _, fun i hi => ?_⟩
  rcases i with _ | i
  · omega
  · obtain ⟨hb, hc'⟩ := bord_append_inv hi
    have h0 := h.2 i hb hc'
    have : i = 0 := by omega
    subst this
    rw [hd] at hc'
    injection hc' with hc'
    exact absurd hc'.symm hne

/-- does P stand at place i of the text? -/
def standsB (P text : List Int) (i : Nat) : Bool := decide (i ≤ text.length) && P.isPrefixOf (text.drop i)
theorem standsB_iff {P text : List Int} {i : Nat} : standsB P text i = true ↔ i ≤ text.length ∧ P <+: text.drop i := by
  simp [standsB]
theorem stands_len {P text : List Int} {i : Nat} (h : standsB P text i = true) : i + P.length ≤ text.length := by
  obtain ⟨h1, h2⟩ := standsB_iff.1 h
  have := h2.length_le
  rw [List.length_drop] at this
  omega
/-- P stands at i: it ends what ends behind it -/
theorem stands_iff_suffix {P text : List Int} {at_ e : Nat} (he : e ≤ text.length) (hl : at_ + P.length ≤ e) : standsB P text (e - P.length) = true ↔ P <:+ (text.take e).drop at_ := by
  rw [standsB_iff]
  have hlen : (text.take e).length = e := by simp [he]
  constructor
  · rintro ⟨_, h⟩
    have h2 : (text.drop (e - P.length)).take P.length = P := List.prefix_iff_eq_take.1 h |>.symm
    have h3 : (text.take e).drop (e - P.length) = P := by
      rw [List.drop_take, show e - (e - P.length) = P.length by omega]
      exact h2
    refine ⟨((text.take e).drop at_).take (e - P.length - at_), ?_⟩
    conv => lhs; rhs; rw [← h3]
    have : (text.take e).drop (e - P.length) = ((text.take e).drop at_).drop (e - P.length - at_) := by rw [List.drop_drop]; congr 1; omega
    rw [this, List.take_append_drop]
  · intro h
    refine ⟨by omega, ?_⟩
    have h4 : P <:+ text.take e := h.trans (List.drop_suffix _ _)
    have h5 := List.suffix_iff_eq_drop.1 h4
    rw [hlen] at h5
    rw [List.prefix_iff_eq_take]
    rw [List.drop_take] at h5
    have : e - (e - P.length) = P.length := by omega
    rw [this] at h5
    exact h5

/-- the first place from at on at which P stands; -1 -/
def nextOf (P text : List Int) (at_ : Int) : Int :=
  if 0 ≤ at_ ∧ at_ ≤ text.length then
    match (List.range' at_.toNat (text.length + 1 - at_.toNat)).find? (standsB P text) with
    | some i => i
    | none => -1
  else -1
theorem nextOf_out {P text : List Int} {at_ : Int} (h : at_ < 0 ∨ (text.length : Int) < at_) : nextOf P text at_ = -1 := by
  unfold nextOf
  rw [if_neg (by omega)]
theorem nextOf_some {P text : List Int} {a i : Nat} (ha : a ≤ i) (hs : standsB P text i = true) (hn : ∀ s, a ≤ s → s < i → standsB P text s = false) : nextOf P text (a : Int) = i := by
  have hi := (standsB_iff.1 hs).1
  unfold nextOf
  rw [if_pos (by omega)]
  have hsplit : List.range' a (text.length + 1 - a) = List.range' a (i - a) ++ (i :: List.range' (i + 1) (text.length - i)) := by
    have : text.length + 1 - a = (i - a) + (text.length - i + 1) := by omega
    rw [this, ← List.range'_append_1, List.range'_succ]
    have : a + (i - a) = i := by omega
    rw [this]
  simp only [Int.toNat_natCast]
  rw [hsplit, List.find?_append]
  have hnone : (List.range' a (i - a)).find? (standsB P text) = none := by
    rw [List.find?_eq_none]
    intro s hs'
    rw [List.mem_range'_1] at hs'
    simp [hn s (by omega) (by omega)]
  rw [hnone]
  simp [hs]
theorem nextOf_none {P text : List Int} {a : Nat} (ha : a ≤ text.length) (hn : ∀ s, a ≤ s → standsB P text s = false) : nextOf P text (a : Int) = -1 := by
  unfold nextOf
  rw [if_pos (by omega)]
  simp only [Int.toNat_natCast]
  have hnone : (List.range' a (text.length + 1 - a)).find? (standsB P text) = none := by
    rw [List.find?_eq_none]
    intro s hs'
    rw [List.mem_range'_1] at hs'
    simp [hn s (by omega)]
  rw [hnone]

/-- what has been read up to i from at on: no end of P in it yet, k is the greatest border -/
structure Reading (P text : List Int) (a i k : Nat) : Prop where
  le : a ≤ i
  max : IsMax P ((text.take i).drop a) k
  none : ∀ s, a ≤ s → s + P.length ≤ i → standsB P text s = false
theorem reading_zero {P text : List Int} {a : Nat} (hP : 0 < P.length) : Reading P text a a 0 := by
  refine ⟨Nat.le_refl _, ?_, fun s h1 h2 => by omega⟩
  have : (text.take a).drop a = [] := by apply List.drop_eq_nil_of_le; simp; omega
  rw [this]
  exact isMax_nil P
theorem take_drop_succ {text : List Int} {a i : Nat} {c : Int} (ha : a ≤ i) (hc : text[i]? = some c) : (text.take (i + 1)).drop a = (text.take i).drop a ++ [c] := by
  have hl := (List.getElem?_eq_some_iff.1 hc).1
  rw [List.take_add_one, hc]
  simp only [Option.toList_some]
  rw [List.drop_append_of_le_length (by simp; omega)]
theorem reading_more {P text : List Int} {a i k k' : Nat} {c : Int} (h : Reading P text a i k) (hc : text[i]? = some c) (hm : IsMax P ((text.take i).drop a ++ [c]) k') (hk : k' < P.length) : Reading P text a (i + 1) k' := by
  have hl := (List.getElem?_eq_some_iff.1 hc).1
  rw [← take_drop_succ h.le hc] at hm
  refine ⟨Nat.le_succ_of_le h.le, hm, fun s h1 h2 => ?_⟩
  rcases Nat.lt_or_ge (s + P.length) (i + 1) with h3 | h3
  · exact h.none s h1 (by omega)
  · rcases hb : standsB P text s with _ | _
    · rfl
    · exfalso
      have hs : s = i + 1 - P.length := by omega
      rw [hs] at hb
      have h5 := (stands_iff_suffix (at_ := a) (by omega : i + 1 ≤ text.length) (by omega)).1 hb
      have := hm.2 P.length ⟨Nat.le_refl _, by simpa using h5⟩
      omega
theorem reading_found {P text : List Int} {a i : Nat} {c : Int} {k : Nat} (h : Reading P text a i k) (hc : text[i]? = some c) (hm : IsMax P ((text.take i).drop a ++ [c]) P.length) : nextOf P text (a : Int) = (i : Int) + 1 - P.length ∧ a + P.length ≤ i + 1 := by
  have hl := (List.getElem?_eq_some_iff.1 hc).1
  rw [← take_drop_succ h.le hc] at hm
  have h6 : P <:+ (text.take (i + 1)).drop a := by simpa using hm.1.2
  have hle : P.length ≤ i + 1 - a := by
    have := h6.length_le
    simp only [List.length_drop, List.length_take] at this
    omega
  have hle' := h.le
  have hst := (stands_iff_suffix (at_ := a) (by omega : i + 1 ≤ text.length) (by omega)).2 h6
  have := nextOf_some (a := a) (i := i + 1 - P.length) (by omega) hst (fun s h1 h2 => h.none s h1 (by omega))
  refine ⟨by rw [this]; omega, by omega⟩
theorem reading_end {P text : List Int} {a k : Nat} (h : Reading P text a text.length k) : nextOf P text (a : Int) = -1 := by
  refine nextOf_none h.le fun s h1 => ?_
  rcases hb : standsB P text s with _ | _
  · rfl
  · rw [h.none s h1 (stands_len hb)] at hb
    cases hb
end Go.Proofs.Ytebbnjbgmcdbcaa
