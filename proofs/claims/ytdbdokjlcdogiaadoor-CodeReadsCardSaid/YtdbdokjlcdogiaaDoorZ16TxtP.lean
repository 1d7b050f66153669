/-
  SpoiltP, RefLP, TxtP, put together.
-/
import Derived.Test.YtdbdokjlcdogiaaDoorZ15RoundP
import Derived.Test.YtdbdokjlcdogiaaDoorZNamed

/-
  Plain laws of CodeSpoilt: what Bytes lays, Load reads; turned, cut off, longer: none.
-/
namespace Go.Proofs.YtdbdokjlcdogiaaDoor
open Go.RowKit
set_option linter.unusedVariables false

/-! ### with something behind -/
theorem numF_more : ∀ (f : Nat) (n step : Int) (b : Bool) (bs t : List Int) (k : Int) (r : List Int), numF f n step b bs = some (k, r) → numF f n step b (bs ++ t) = some (k, r ++ t)
  | 0, n, step, b, bs, t, k, r, h => by cases h
  | f + 1, n, step, b, [], t, k, r, h => by cases h
  | f + 1, n, step, b, x :: q, t, k, r, h => by
    rw [List.cons_append]
    unfold numF at h ⊢
    by_cases h1 : x < 128
    · rw [if_pos h1] at h ⊢
      by_cases h2 : 0 < x ∨ b = true
      · rw [if_pos h2] at h ⊢
        injection h with h
        injection h with h3 h4
        rw [h3, h4]
      · rw [if_neg h2] at h
        cases h
    · rw [if_neg h1] at h ⊢
      exact numF_more f _ _ false q t k r h
theorem numB_more {bs t : List Int} {k : Int} {r : List Int} (h : numB bs = some (k, r)) : numB (bs ++ t) = some (k, r ++ t) := numF_more 4 0 1 true bs t k r h
theorem rangesF_more' : ∀ (n : Nat) (bs t : List Int) (rs : List (Int × Int)) (q : List Int), rangesF n bs = some (rs, q) → rangesF n (bs ++ t) = some (rs, q ++ t)
  | 0, bs, t, rs, q, h => by
    unfold rangesF at h ⊢
    injection h with h
    injection h with h1 h2
    rw [h1, h2]
  | n + 1, bs, t, rs, q, h => by
    rw [rangesF_more] at h ⊢
    cases h1 : numB bs with
    | none => rw [h1] at h; cases h
    | some a =>
      obtain ⟨lo, r⟩ := a
      rw [h1] at h
      rw [numB_more h1]
      simp only at h ⊢
      cases h2 : numB r with
      | none => rw [h2] at h; cases h
      | some b =>
        obtain ⟨hi, r2⟩ := b
        rw [h2] at h
        rw [numB_more h2]
        simp only at h ⊢
        cases h3 : rangesF n r2 with
        | none => rw [h3] at h; cases h
        | some c =>
          obtain ⟨rs', r3⟩ := c
          rw [h3] at h
          rw [rangesF_more' n r2 t rs' r3 h3]
          simp only at h ⊢
          injection h with h
          injection h with e1 e2
          rw [e1, e2]
theorem fieldsB_more {op : Int} {bs t : List Int} {x : PInst} {q : List Int} (h : fieldsB op bs = some (x, q)) : fieldsB op (bs ++ t) = some (x, q ++ t) := by
  have one : ∀ {α : Type} {f : Int → List Int → Option α} {g : α → α} {y : α}, (match numB bs with | none => none | some (n, r) => f n r) = some y →
      (∀ n r, numB bs = some (n, r) → f n r = some y → f n (r ++ t) = some (g y)) → (match numB (bs ++ t) with | none => none | some (n, r) => f n r) = some (g y) := by
    intro α f g y h hg
    cases h1 : numB bs with
    | none => rw [h1] at h; cases h
    | some a =>
      obtain ⟨n, r⟩ := a
      rw [h1] at h
      rw [numB_more h1]
      exact hg n r h1 h
  have two : ∀ {r : List Int} {f : Int → List Int → Option (PInst × List Int)} {y : PInst × List Int}, (match numB r with | none => none | some (n, r) => f n r) = some y →
      (∀ n q, f n q = some y → f n (q ++ t) = some (y.1, y.2 ++ t)) → (match numB (r ++ t) with | none => none | some (n, r) => f n r) = some (y.1, y.2 ++ t) := by
    intro r f y h hg
    cases h1 : numB r with
    | none => rw [h1] at h; cases h
    | some a =>
      obtain ⟨n, q⟩ := a
      rw [h1] at h
      rw [numB_more h1]
      exact hg n q h
  have last : ∀ {z : PInst} {q' : List Int}, some (z, q') = some (x, q) → some (z, q' ++ t) = some (x, q ++ t) := fun h => by
    injection h with h
    injection h with e1 e2
    rw [e1, e2]
  unfold fieldsB at h ⊢
  split at h
  · rename_i c1
    rw [if_pos c1]
    refine two (y := (x, q)) h fun n r h => two (y := (x, q)) h fun m r2 h => ?_
    split at h
    · rename_i hle
      rw [if_pos (by rw [List.length_append]; omega)]
      cases h3 : rangesF m.toNat r2 with
      | none => rw [h3] at h; cases h
      | some c =>
        obtain ⟨rs', r3⟩ := c
        rw [h3] at h
        rw [rangesF_more' _ _ t _ _ h3]
        exact last h
    · cases h
  · rename_i c1
    rw [if_neg c1]
    split at h
    · rename_i c2
      rw [if_pos c2]
      exact two (y := (x, q)) h fun n r h => two (y := (x, q)) h fun m r2 h => last h
    · rename_i c2
      rw [if_neg c2]
      split at h
      · rename_i c3
        rw [if_pos c3]
        exact two (y := (x, q)) h fun n r h => two (y := (x, q)) h fun m r2 h => last h
      · rename_i c3
        rw [if_neg c3]
        split at h
        · rename_i c4
          rw [if_pos c4]
          exact two (y := (x, q)) h fun n r h => last h
        · rename_i c4
          rw [if_neg c4]
          split at h
          · rename_i c5
            rw [if_pos c5]
            exact two (y := (x, q)) h fun n r h => last h
          · rename_i c5
            rw [if_neg c5]
            split at h
            · rename_i c6
              rw [if_pos c6]
              exact last h
            · cases h
theorem instsF_more : ∀ (n : Nat) (bs t : List Int) (is : List PInst) (q : List Int), instsF n bs = some (is, q) → instsF n (bs ++ t) = some (is, q ++ t)
  | 0, bs, t, is, q, h => by
    unfold instsF at h ⊢
    injection h with h
    injection h with h1 h2
    rw [h1, h2]
  | n + 1, [], t, is, q, h => by cases h
  | n + 1, op :: r, t, is, q, h => by
    rw [List.cons_append]
    unfold instsF at h ⊢
    cases h1 : fieldsB op r with
    | none => rw [h1] at h; cases h
    | some a =>
      obtain ⟨x, q1⟩ := a
      rw [h1] at h
      rw [fieldsB_more h1]
      simp only at h ⊢
      cases h2 : instsF n q1 with
      | none => rw [h2] at h; cases h
      | some b =>
        obtain ⟨is', q2⟩ := b
        rw [h2] at h
        rw [instsF_more n q1 t is' q2 h2]
        simp only at h ⊢
        injection h with h
        injection h with e1 e2
        rw [e1, e2]
/-- the body, with what is left behind it -/
def bodyQ (bs : List Int) : Option ((List PInst × Int × Int) × List Int) := match numB bs with
  | none => none
  | some (caps, r) => match numB r with
    | none => none
    | some (start, r2) => match numB r2 with
      | none => none
      | some (n, r3) => if n ≤ 20000 then (match instsF n.toNat r3 with
        | none => none
        | some (is, q) => some ((is, start, caps), q)) else none
theorem bodyB_Q (bs : List Int) : bodyB bs = match bodyQ bs with
  | none => none
  | some ((is, start, caps), q) => if q = [] ∧ checkB is start caps = true then some (is, start, caps) else none := by
  unfold bodyB bodyQ
  cases numB bs with
  | none => rfl
  | some a =>
    obtain ⟨caps, r⟩ := a
    simp only
    cases numB r with
    | none => rfl
    | some b =>
      obtain ⟨start, r2⟩ := b
      simp only
      cases numB r2 with
      | none => rfl
      | some c =>
        obtain ⟨n, r3⟩ := c
        simp only
        by_cases hn : n ≤ 20000
        · rw [if_pos hn, if_pos hn]
          cases instsF n.toNat r3 with
          | none => rfl
          | some d => rfl
        · rw [if_neg hn, if_neg hn]
theorem bodyQ_more {bs t : List Int} {p : List PInst × Int × Int} {q : List Int} (h : bodyQ bs = some (p, q)) : bodyQ (bs ++ t) = some (p, q ++ t) := by
  unfold bodyQ at h ⊢
  cases h1 : numB bs with
  | none => rw [h1] at h; cases h
  | some a =>
    obtain ⟨caps, r⟩ := a
    rw [h1] at h
    rw [numB_more h1]
    simp only at h ⊢
    cases h2 : numB r with
    | none => rw [h2] at h; cases h
    | some b =>
      obtain ⟨start, r2⟩ := b
      rw [h2] at h
      rw [numB_more h2]
      simp only at h ⊢
      cases h3 : numB r2 with
      | none => rw [h3] at h; cases h
      | some c =>
        obtain ⟨n, r3⟩ := c
        rw [h3] at h
        rw [numB_more h3]
        simp only at h ⊢
        by_cases hn : n ≤ 20000
        · rw [if_pos hn] at h ⊢
          cases h4 : instsF n.toNat r3 with
          | none => rw [h4] at h; cases h
          | some d =>
            obtain ⟨is, q4⟩ := d
            rw [h4] at h
            rw [instsF_more _ _ t _ _ h4]
            simp only at h ⊢
            injection h with h
            injection h with e1 e2
            rw [e1, e2]
        · rw [if_neg hn] at h
          cases h
/-- a program's body, longer or cut off, is none -/
theorem bodyB_longer {bs t : List Int} {p : List PInst × Int × Int} (h : bodyB bs = some p) (ht : t ≠ []) : bodyB (bs ++ t) = none := by
  rw [bodyB_Q] at h ⊢
  cases h1 : bodyQ bs with
  | none => rw [h1] at h; cases h
  | some a =>
    obtain ⟨⟨is, start, caps⟩, q⟩ := a
    rw [h1] at h
    rw [bodyQ_more h1]
    simp only at h ⊢
    rw [if_neg (by simp [ht])]
theorem bodyB_cut {bs t : List Int} {p : List PInst × Int × Int} (h : bodyB (bs ++ t) = some p) (ht : t ≠ []) : bodyB bs = none := by
  cases h1 : bodyB bs with
  | none => rfl
  | some a =>
    rw [bodyB_longer h1 ht] at h
    cases h

/-! ### what Bytes lays is read -/
theorem flatR_put : ∀ (rs : List (Int × Int)) (r : List Int), (∀ n ∈ flatR rs, 0 ≤ n ∧ n < 2097152) → rangesF rs.length (((flatR rs).flatMap fun n => putN n.toNat) ++ r) = some (rs, r)
  | [], r, h => rfl
  | (lo, hi) :: rs, r, h => by
    have h1 := h lo (by simp [flatR])
    have h2 := h hi (by simp [flatR])
    rw [List.length_cons, rangesF_more]
    have e : ((flatR ((lo, hi) :: rs)).flatMap fun n => putN n.toNat) ++ r = putN lo.toNat ++ (putN hi.toNat ++ (((flatR rs).flatMap fun n => putN n.toNat) ++ r)) := by simp [flatR]
    rw [e, numB_put _ _ (by omega)]
    simp only
    rw [numB_put _ _ (by omega)]
    simp only
    rw [flatR_put rs r (fun n hn => h n (by simp [flatR, hn]))]
    simp only
    rw [Int.toNat_of_nonneg h1.1, Int.toNat_of_nonneg h2.1]
theorem putN_pos (n : Nat) : 0 < (putN n).length := by
  by_cases h : n < 128
  · rw [putN_small h]; simp
  · rw [putN_big h]; simp
theorem flat_len (l : List Int) : l.length ≤ (l.flatMap fun n => putN n.toNat).length := by
  induction l with
  | nil => simp
  | cons n l ih =>
    have := putN_pos n.toNat
    simp only [List.flatMap_cons, List.length_append, List.length_cons]
    omega
theorem inst_ext {x y : PInst} (h1 : x.op = y.op) (h2 : x.x = y.x) (h3 : x.y = y.y) (h4 : x.arg = y.arg) (h5 : x.rs = y.rs) : x = y := by
  cases x; cases y; simp_all
theorem fieldsB_put {x : PInst} {n : Nat} {caps : Int} (h : mayB x n caps = true) (hn : n ≤ 20000) (hc : caps ≤ 1002) (r : List Int) :
    fieldsB x.op (((numsOf x).flatMap fun n => putN n.toNat) ++ r) = some (x, r) := by
  have hf := fine_of_may h hn hc
  have hnum := hf.nums
  have sm : ∀ k : Int, 0 ≤ k ∧ k < 2097152 → k.toNat < 268435456 := fun k hk => by omega
  unfold mayB at h
  unfold fieldsB
  by_cases h1 : x.op = 1
  · rw [if_pos h1] at h ⊢
    simp only [Bool.and_eq_true, decide_eq_true_eq] at h
    obtain ⟨⟨⟨⟨a, b⟩, c⟩, d⟩, e⟩ := h
    have en : numsOf x = x.x :: (x.rs.length : Int) :: flatR x.rs := by unfold numsOf; rw [if_pos h1]
    rw [en] at hnum ⊢
    have k1 := hnum x.x (by simp)
    have k2 := hnum x.rs.length (by simp)
    simp only [List.flatMap_cons, List.append_assoc]
    rw [numB_put _ _ (sm _ k1)]
    simp only
    rw [numB_put _ _ (sm _ k2)]
    simp only
    have hl := flat_len (flatR x.rs)
    rw [flatR_len] at hl
    rw [if_pos (by rw [List.length_append]; omega), Int.toNat_natCast, Int.toNat_natCast, flatR_put x.rs r (fun k hk => hnum k (by simp [hk]))]
    simp only
    rw [Int.toNat_of_nonneg k1.1]
    congr 2
    exact inst_ext h1.symm rfl b.symm c.symm rfl
  rw [if_neg h1] at h ⊢
  by_cases h2 : x.op = 2
  · rw [if_pos h2] at h ⊢
    simp only [Bool.and_eq_true, decide_eq_true_eq] at h
    obtain ⟨⟨⟨a, b⟩, c⟩, d⟩ := h
    have en : numsOf x = [x.x, x.y] := by unfold numsOf; rw [if_neg h1, if_pos h2]
    rw [en] at hnum ⊢
    have k1 := hnum x.x (by simp)
    have k2 := hnum x.y (by simp)
    simp only [List.flatMap_cons, List.flatMap_nil, List.append_nil, List.append_assoc]
    rw [numB_put _ _ (sm _ k1)]
    simp only
    rw [numB_put _ _ (sm _ k2)]
    simp only
    rw [Int.toNat_of_nonneg k1.1, Int.toNat_of_nonneg k2.1]
    congr 2
    exact inst_ext h2.symm rfl rfl c.symm (List.eq_nil_of_length_eq_zero d).symm
  rw [if_neg h2] at h ⊢
  by_cases h34 : x.op = 3 ∨ x.op = 4
  · rw [if_pos h34]
    have en : numsOf x = [x.arg, x.x] := by unfold numsOf; rw [if_neg h1, if_neg h2, if_pos h34]
    have hy : x.y = 0 ∧ x.rs.length = 0 := by
      rcases h34 with h3 | h4
      · rw [if_pos h3] at h
        simp only [Bool.and_eq_true, decide_eq_true_eq] at h
        exact ⟨h.1.1.2, h.2⟩
      · rw [if_neg (by omega), if_pos h4] at h
        simp only [Bool.and_eq_true, decide_eq_true_eq] at h
        exact ⟨h.1.1.2, h.2⟩
    rw [en] at hnum ⊢
    have k1 := hnum x.arg (by simp)
    have k2 := hnum x.x (by simp)
    simp only [List.flatMap_cons, List.flatMap_nil, List.append_nil, List.append_assoc]
    rw [numB_put _ _ (sm _ k1)]
    simp only
    rw [numB_put _ _ (sm _ k2)]
    simp only
    rw [Int.toNat_of_nonneg k1.1, Int.toNat_of_nonneg k2.1]
    congr 2
    exact inst_ext rfl rfl hy.1.symm rfl (List.eq_nil_of_length_eq_zero hy.2).symm
  rw [if_neg (by omega), if_neg (by omega)] at h
  rw [if_neg h34]
  by_cases h5 : x.op = 5
  · rw [if_pos h5] at h
    rw [if_neg (by omega), if_pos h5]
    simp only [Bool.and_eq_true, decide_eq_true_eq] at h
    obtain ⟨⟨⟨a, b⟩, c⟩, d⟩ := h
    have en : numsOf x = [x.arg] := by unfold numsOf; rw [if_neg h1, if_neg h2, if_neg h34, if_pos h5]
    rw [en] at hnum ⊢
    have k1 := hnum x.arg (by simp)
    simp only [List.flatMap_cons, List.flatMap_nil, List.append_nil]
    rw [numB_put _ _ (sm _ k1)]
    simp only
    rw [Int.toNat_of_nonneg k1.1]
    congr 2
    exact inst_ext h5.symm a.symm b.symm rfl (List.eq_nil_of_length_eq_zero d).symm
  rw [if_neg h5] at h
  by_cases h6 : x.op = 6
  · rw [if_pos h6] at h
    rw [if_neg (by omega), if_neg h5, if_pos h6]
    simp only [Bool.and_eq_true, decide_eq_true_eq] at h
    obtain ⟨⟨⟨a, b⟩, c⟩, d⟩ := h
    have en : numsOf x = [] := by unfold numsOf; rw [if_neg h1, if_neg h2, if_neg h34, if_neg h5, if_neg (by omega)]
    rw [en]
    simp only [List.flatMap_nil, List.nil_append]
    congr 2
    exact inst_ext h6.symm a.symm b.symm c.symm (List.eq_nil_of_length_eq_zero d).symm
  rw [if_neg h6] at h
  by_cases h7 : x.op = 7
  · rw [if_pos h7] at h
    rw [if_pos h7]
    simp only [Bool.and_eq_true, decide_eq_true_eq] at h
    obtain ⟨⟨⟨a, b⟩, c⟩, d⟩ := h
    have en : numsOf x = [x.x] := by unfold numsOf; rw [if_neg h1, if_neg h2, if_neg h34, if_neg h5, if_pos h7]
    rw [en] at hnum ⊢
    have k1 := hnum x.x (by simp)
    simp only [List.flatMap_cons, List.flatMap_nil, List.append_nil]
    rw [numB_put _ _ (sm _ k1)]
    simp only
    rw [Int.toNat_of_nonneg k1.1]
    congr 2
    exact inst_ext h7.symm rfl b.symm c.symm (List.eq_nil_of_length_eq_zero d).symm
  rw [if_neg h7] at h
  cases h
theorem instsF_put : ∀ (is : List PInst) (n : Nat) (caps : Int) (r : List Int), (∀ x ∈ is, mayB x n caps = true) → n ≤ 20000 → caps ≤ 1002 → instsF is.length ((is.flatMap instB) ++ r) = some (is, r)
  | [], n, caps, r, h, hn, hc => rfl
  | x :: is, n, caps, r, h, hn, hc => by
    have e : ((x :: is).flatMap instB) ++ r = x.op :: (((numsOf x).flatMap fun n => putN n.toNat) ++ ((is.flatMap instB) ++ r)) := by simp [instB]
    rw [e, List.length_cons]
    unfold instsF
    rw [fieldsB_put (h x (by simp)) hn hc]
    simp only
    rw [instsF_put is n caps r (fun y hy => h y (by simp [hy])) hn hc]
theorem instsB_eq : ∀ (is : List PInst) (b b' : List Int), instsB is b = some b' → b' = b ++ is.flatMap instB
  | [], b, b', h => by
    injection h with h
    simp [← h]
  | x :: is, b, b', h => by
    unfold instsB at h
    split at h
    · cases h
    · rw [instsB_eq is _ b' h]
      simp
theorem instsB_few : ∀ (is : List PInst) (b b' : List Int), is ≠ [] → instsB is b = some b' → b'.length ≤ 8388604
  | [], b, b', hn, h => absurd rfl hn
  | [x], b, b', hn, h => by
    unfold instsB at h
    split at h
    · cases h
    · unfold instsB at h
      injection h with h
      rw [← h]
      omega
  | x :: y :: is, b, b', hn, h => by
    unfold instsB at h
    split at h
    · cases h
    · exact instsB_few (y :: is) _ b' (by simp) h
/-- the bytes of a program: head, body, sum -/
theorem bytes_parts {is : List PInst} {start caps : Int} {bs : List Int} (h : bytesOf is start caps = (bs, 0)) :
    ∃ body, bs = [72, 82, 80, 71] ++ body ++ tail4 (sumV ([72, 82, 80, 71] ++ body)) ∧ bodyB body = some (is, start, caps) ∧ body.length ≤ 8388600 ∧ checkB is start caps = true ∧ (∀ x ∈ body, ByteI x) ∧ 4 ≤ body.length := by
  unfold bytesOf at h
  split at h
  · rename_i hc
    have hc0 := hc
    have hp := fineP hc
    cases hb : instsB is (headB is.length start caps) with
    | none => rw [hb] at h; simp at h
    | some b =>
      rw [hb] at h
      simp only [Prod.mk.injEq, and_true] at h
      have h1 := instsB_eq _ _ _ hb
      have hne : is ≠ [] := by rintro rfl; have := hp.l0; simp at this
      have h2 := instsB_few _ _ _ hne hb
      have h3 := instsB_byte hp.i (headB_byte is.length start caps) hb
      obtain ⟨body, e⟩ : ∃ body, body = putN caps.toNat ++ (putN start.toNat ++ (putN is.length ++ (is.flatMap instB ++ []))) := ⟨_, rfl⟩
      have hbe : b = [72, 82, 80, 71] ++ body := by rw [h1, e]; simp [headB]
      have c0 := hp.c0; have c1 := hp.c1; have s0 := hp.s0; have s1 := hp.s1; have l1 := hp.l1
      refine ⟨body, by rw [← h, hbe], ?_, by rw [hbe] at h2; simp at h2; omega, hc0, fun x hx => h3 x (by rw [hbe]; simp [hx]), ?_⟩
      · unfold bodyB
        rw [e, numB_put _ _ (by omega)]
        simp only
        rw [numB_put _ _ (by omega)]
        simp only
        rw [numB_put _ _ (by omega)]
        simp only
        rw [if_pos (by omega), Int.toNat_natCast]
        unfold checkB at hc
        simp only [Bool.and_eq_true, decide_eq_true_eq, List.all_eq_true] at hc
        rw [instsF_put is is.length caps [] (fun x hx => hc.2 x hx) l1 c1]
        simp only
        rw [Int.toNat_of_nonneg (show 0 ≤ caps by omega), Int.toNat_of_nonneg s0, if_pos ⟨trivial, hc0⟩]
      · have p1 := putN_pos caps.toNat
        have p2 := putN_pos start.toNat
        have p3 := putN_pos is.length
        obtain ⟨x, is', rfl⟩ := List.exists_cons_of_ne_nil hne
        have p4 : 1 ≤ ((x :: is').flatMap instB).length := by simp [instB]
        rw [e]
        simp only [List.length_append]
        omega
  · simp at h

/-! ### turned -/
theorem four_tail {s : Int} (h0 : 0 ≤ s) (h1 : s < 4294967296) : four (tail4 s) = s := by
  unfold four tail4
  simp only
  omega
theorem sumV_range (xs : List Int) : 0 ≤ sumV xs ∧ sumV xs < 4294967296 := by
  unfold sumV
  generalize ~~~ (crcL 0xFFFFFFFF#32 (bytesB xs)) = v
  have := v.isLt
  omega
theorem byte_inj {x y : Int} (hx : ByteI x) (hy : ByteI y) (h : BitVec.ofInt 8 x = BitVec.ofInt 8 y) : x = y := by
  have e : (((BitVec.ofInt 8 x).setWidth 32).toNat : Int) = (((BitVec.ofInt 8 y).setWidth 32).toNat : Int) := by rw [h]
  rw [byte32 x hx.1 hx.2, byte32 y hy.1 hy.2] at e
  exact e
theorem sum_turned {l r : List Int} {x y : Int} (hx : ByteI x) (hy : ByteI y) (h : sumV (l ++ x :: r) = sumV (l ++ y :: r)) : x = y := by
  unfold sumV at h
  have h1 : ~~~ (crcL 0xFFFFFFFF#32 (bytesB (l ++ x :: r))) = ~~~ (crcL 0xFFFFFFFF#32 (bytesB (l ++ y :: r))) := BitVec.eq_of_toNat_eq (by exact_mod_cast h)
  have h2 : crcL 0xFFFFFFFF#32 (bytesB (l ++ x :: r)) = crcL 0xFFFFFFFF#32 (bytesB (l ++ y :: r)) := by
    have := congrArg (fun b => ~~~ b) h1
    simpa using this
  unfold bytesB at h2
  rw [List.map_append, List.map_cons, List.map_append, List.map_cons] at h2
  exact byte_inj hx hy (crc_turned _ _ _ _ _ h2)
theorem four_inj {a b c d x y z u : Int} (ha : ByteI a) (hb : ByteI b) (hc : ByteI c) (hd : ByteI d) (hx : ByteI x) (hy : ByteI y) (hz : ByteI z) (hu : ByteI u) (h : four [a, b, c, d] = four [x, y, z, u]) : a = x ∧ b = y ∧ c = z ∧ d = u := by
  unfold four at h
  simp only at h
  unfold ByteI at *
  omega
theorem tail4_byte {s : Int} (h0 : 0 ≤ s) (h1 : s < 4294967296) : ∀ x ∈ tail4 s, ByteI x := by
  intro x hx
  unfold tail4 at hx
  simp at hx
  unfold ByteI
  rcases hx with rfl | rfl | rfl | rfl <;> omega
theorem set_split : ∀ {l : List Int} {k : Nat} (hk : k < l.length) (y : Int), l = l.take k ++ l[k] :: l.drop (k + 1) ∧ l.set k y = l.take k ++ y :: l.drop (k + 1) := by
  intro l k hk y
  refine ⟨?_, ?_⟩
  · rw [List.getElem_cons_drop, List.take_append_drop]
  · rw [List.set_eq_take_append_cons_drop, if_pos hk]
theorem tail_turned {s y : Int} {m : Nat} (h0 : 0 ≤ s) (h1 : s < 4294967296) (hy : ByteI y) (hm : m < 4) (h : s = four ((tail4 s).set m y)) (hne : ¬ (tail4 s)[m]'hm = y) : False := by
  have hbt := tail4_byte h0 h1
  have b0 := hbt (s % 256) (by simp [tail4])
  have b1 := hbt (s / 256 % 256) (by simp [tail4])
  have b2 := hbt (s / 65536 % 256) (by simp [tail4])
  have b3 := hbt (s / 16777216 % 256) (by simp [tail4])
  have hs4 := four_tail h0 h1
  have h2 : four (tail4 s) = four ((tail4 s).set m y) := hs4.trans h
  unfold tail4 at h2 hne
  have c : m = 0 ∨ m = 1 ∨ m = 2 ∨ m = 3 := by omega
  rcases c with rfl | rfl | rfl | rfl
  · exact hne (four_inj b0 b1 b2 b3 hy b1 b2 b3 h2).1
  · exact hne (four_inj b0 b1 b2 b3 b0 hy b2 b3 h2).2.1
  · exact hne (four_inj b0 b1 b2 b3 b0 b1 hy b3 h2).2.2.1
  · exact hne (four_inj b0 b1 b2 b3 b0 b1 b2 hy h2).2.2.2
theorem load_turned {front : List Int} {k : Nat} {y : Int} (hf : ∀ x ∈ front, ByteI x) (hy : ByteI y) (hk : k < (front ++ tail4 (sumV front)).length) (hne : (front ++ tail4 (sumV front))[k] ≠ y) :
    loadB ((front ++ tail4 (sumV front)).set k y) = none := by
  have hs := sumV_range front
  have h4 : (tail4 (sumV front)).length = 4 := rfl
  have hl : ((front ++ tail4 (sumV front)).set k y).length - 4 = front.length := by rw [List.length_set, List.length_append, h4]; omega
  unfold loadB
  rw [if_neg]
  rintro ⟨-, -, h⟩
  rw [hl] at h
  by_cases hkf : k < front.length
  · rw [List.set_append_left _ _ hkf, List.take_left' (by simp), List.drop_left' (by simp), four_tail hs.1 hs.2] at h
    obtain ⟨e1, e2⟩ := set_split hkf y
    rw [e2] at h
    conv at h => rhs; rw [e1]
    have := sum_turned hy (hf _ (List.getElem_mem hkf)) h
    exact hne (by rw [List.getElem_append_left hkf]; exact this.symm)
  · rw [List.set_append_right _ _ (by omega), List.take_left' rfl, List.drop_left' rfl] at h
    rw [List.length_append, h4] at hk
    rw [List.getElem_append_right (by omega)] at hne
    have hm4 : k - front.length < 4 := by omega
    exact tail_turned hs.1 hs.2 hy hm4 h hne

/-! ### the three laws of Load over Bytes -/
theorem load_bytes {is : List PInst} {start caps : Int} {bs : List Int} (h : bytesOf is start caps = (bs, 0)) : loadB bs = some (is, start, caps) := by
  obtain ⟨body, e, hb, hl, -, hB, hl4⟩ := bytes_parts h
  have hs := sumV_range ([72, 82, 80, 71] ++ body)
  have h4 : (tail4 (sumV ([72, 82, 80, 71] ++ body))).length = 4 := rfl
  have h5 := four_tail hs.1 hs.2
  generalize tail4 (sumV ([72, 82, 80, 71] ++ body)) = T at *
  have hfl : ([72, 82, 80, 71] ++ body : List Int).length = body.length + 4 := by simp
  have hlen : bs.length - 4 = ([72, 82, 80, 71] ++ body : List Int).length := by rw [e, List.length_append, h4]; omega
  have hl8 : 8 ≤ bs.length := by rw [e, List.length_append, h4, hfl]; omega
  unfold loadB
  rw [hlen, e, List.take_left' rfl, List.drop_left' rfl, h5, if_pos ⟨by rw [← e]; exact hl8, by simp, rfl⟩]
  simpa using hb
theorem load_turn {is : List PInst} {start caps : Int} {bs : List Int} (h : bytesOf is start caps = (bs, 0)) {k : Nat} {y : Int} (hk : k < bs.length) (hy : ByteI y) (hne : bs[k] ≠ y) : loadB (bs.set k y) = none := by
  obtain ⟨body, e, hb, hl, -, hB, hl4⟩ := bytes_parts h
  subst e
  refine load_turned (fun x hx => ?_) hy hk hne
  rcases List.mem_append.1 hx with hx | hx
  · simp at hx
    unfold ByteI
    rcases hx with rfl | rfl | rfl | rfl <;> omega
  · exact hB x hx
theorem load_cut {is : List PInst} {start caps : Int} {bs : List Int} (h : bytesOf is start caps = (bs, 0)) {k : Nat} (hk : k < bs.length) : loadB (bs.take k) = none := by
  obtain ⟨body, e, hb, hl, -, hB, hl4⟩ := bytes_parts h
  have h4 : (tail4 (sumV ([72, 82, 80, 71] ++ body))).length = 4 := rfl
  generalize hT : tail4 (sumV ([72, 82, 80, 71] ++ body)) = T at *
  have hbl : bs.length = body.length + 8 := by rw [e]; simp [h4]
  unfold loadB
  split
  · rename_i hc
    have hlen : (bs.take k).length = k := by rw [List.length_take]; omega
    rw [hlen] at hc ⊢
    have e2 : ((bs.take k).take (k - 4)).drop 4 = body.take (k - 8) := by
      rw [List.take_take, show min (k - 4) k = k - 4 by omega, List.drop_take, e, List.append_assoc, List.drop_left' (show ([72, 82, 80, 71] : List Int).length = 4 from rfl), show k - 4 - 4 = k - 8 by omega, List.take_append_of_le_length (by omega)]
    rw [e2]
    refine bodyB_cut (t := body.drop (k - 8)) (by rw [List.take_append_drop]; exact hb) (fun h0 => ?_)
    have := congrArg List.length h0
    rw [List.length_drop] at this
    simp at this
    omega
  · rfl
theorem load_long {is : List PInst} {start caps : Int} {bs more : List Int} (h : bytesOf is start caps = (bs, 0)) (hm : more ≠ []) : loadB (bs ++ more) = none := by
  obtain ⟨body, e, hb, hl, -, hB, hl4⟩ := bytes_parts h
  have h4 : (tail4 (sumV ([72, 82, 80, 71] ++ body))).length = 4 := rfl
  generalize hT : tail4 (sumV ([72, 82, 80, 71] ++ body)) = T at *
  have hml : 0 < more.length := List.length_pos_iff.2 hm
  unfold loadB
  split
  · have hlen : (bs ++ more).length - 4 = body.length + 4 + more.length := by rw [e]; simp [h4]; omega
    rw [hlen]
    have e2 : ((bs ++ more).take (body.length + 4 + more.length)).drop 4 = body ++ (T ++ more).take more.length := by
      rw [List.drop_take, e, List.append_assoc, List.append_assoc, List.drop_left' (show ([72, 82, 80, 71] : List Int).length = 4 from rfl), show body.length + 4 + more.length - 4 = body.length + more.length by omega, List.take_length_add_append]
    rw [e2]
    refine bodyB_longer hb (fun h0 => ?_)
    have := congrArg List.length h0
    rw [List.length_take, List.length_append, h4, List.length_nil] at this
    omega
  · rfl
end Go.Proofs.YtdbdokjlcdogiaaDoor

/-
  Plain law: heronref10's reading of bytes comes to the same as code's.
-/
namespace Go.Proofs.YtdbdokjlcdogiaaDoor
open Go.RowKit
set_option linter.unusedVariables false

/-- so many instructions, as long as none is bad -/
def lpR : Nat → Bool → List Int → List PInst × List Int × Bool
  | 0, b, r => ([], r, b)
  | k + 1, b, r => if b = true then ([], r, true) else ((instR false r).1 :: (lpR k (instR false r).2.2 (instR false r).2.1).1, (lpR k (instR false r).2.2 (instR false r).2.1).2)
theorem lpR_step {k : Nat} {r r' : List Int} {x : PInst} {b' : Bool} (h : instR false r = (x, r', b')) : lpR (k + 1) false r = (x :: (lpR k b' r').1, (lpR k b' r').2) := by
  rw [lpR, if_neg (by simp), h]
theorem lpR_bad : ∀ (k : Nat) (r : List Int), lpR k true r = ([], r, true)
  | 0, r => rfl
  | k + 1, r => by rw [lpR, if_pos rfl]

/-! ### numbers -/
theorem num_var : ∀ (f : Nat) (n step : Int) (b : Bool) (bs : List Int) (k : Int) (r : List Int), Bys bs → numF f n step b bs = some (k, r) → varF (f + 1) n step b bs = (k, r, false)
  | 0, n, step, b, bs, k, r, hb, h => by cases h
  | f + 1, n, step, b, [], k, r, hb, h => by cases h
  | f + 1, n, step, b, x :: q, k, r, hb, h => by
    have hx := hb x (by simp)
    unfold numF at h
    rw [varF]
    by_cases h1 : x < 128
    · rw [if_pos h1] at h ⊢
      by_cases h2 : 0 < x ∨ b = true
      · rw [if_pos h2] at h
        injection h with h
        injection h with h3 h4
        subst h3 h4
        rcases h2 with h2 | h2
        · simp [show ¬ x = 0 by omega]
        · simp [h2]
      · rw [if_neg h2] at h
        cases h
    · rw [if_neg h1] at h ⊢
      exact num_var f _ _ false q k r (fun y hy => hb y (List.mem_cons_of_mem _ hy)) h
theorem var_num : ∀ (f : Nat) (n step : Int) (b : Bool) (bs : List Int) (k : Int) (r : List Int), Bys bs → 0 < step → (f = 0 → b = false) → varF (f + 1) n step b bs = (k, r, false) → k < n + step * 128 ^ f → numF f n step b bs = some (k, r)
  | 0, n, step, b, [], k, r, hb, hs, hf, h, hk => by simp [varF] at h
  | 0, n, step, b, x :: q, k, r, hb, hs, hf, h, hk => by
    have hx := hb x (by simp)
    rw [varF] at h
    by_cases h1 : x < 128
    · rw [if_pos h1] at h
      simp only [Prod.mk.injEq, hf rfl] at h
      obtain ⟨h2, h3, h4⟩ := h
      simp at h4
      have hm : x % 128 = x := by omega
      rw [hm] at h2
      have : 1 * step ≤ x * step := Int.mul_le_mul_of_nonneg_right (by omega) (by omega)
      simp at hk
      omega
    · rw [if_neg h1] at h
      simp [varF] at h
  | f + 1, n, step, b, [], k, r, hb, hs, hf, h, hk => by simp [varF] at h
  | f + 1, n, step, b, x :: q, k, r, hb, hs, hf, h, hk => by
    have hx := hb x (by simp)
    rw [varF] at h
    unfold numF
    by_cases h1 : x < 128
    · rw [if_pos h1] at h ⊢
      simp only [Prod.mk.injEq] at h
      obtain ⟨h2, h3, h4⟩ := h
      rw [if_pos, h2, h3]
      cases b with
      | true => exact .inr rfl
      | false =>
        simp at h4
        left
        omega
    · rw [if_neg h1] at h ⊢
      have hm0 : 0 ≤ x % 128 * step := Int.mul_nonneg (by omega) (by omega)
      have he : step * 128 * 128 ^ f = step * 128 ^ (f + 1) := by rw [Int.pow_succ, Int.mul_assoc, Int.mul_comm 128]
      exact var_num f _ _ false q k r (fun y hy => hb y (List.mem_cons_of_mem _ hy)) (by omega) (fun _ => rfl) h (by rw [he]; omega)
theorem numB_var {bs : List Int} {k : Int} {r : List Int} (hb : Bys bs) (h : numB bs = some (k, r)) : nxt false bs = (k, r, false) := num_var 4 0 1 true bs k r hb h
theorem var_numB {bs : List Int} {k : Int} {r : List Int} (hb : Bys bs) (h : nxt false bs = (k, r, false)) (hk : k < 268435456) : numB bs = some (k, r) :=
  var_num 4 0 1 true bs k r hb (by omega) (fun h => by omega) h (by have : (0 : Int) + 1 * 128 ^ 4 = 268435456 := by decide
                                                                    omega)
theorem nxt_bys {bs : List Int} {k : Int} {r : List Int} {b : Bool} (hb : Bys bs) (h : nxt false bs = (k, r, b)) : Bys r := by
  have := (nxt_in (b := false) hb).2.1
  rw [h] at this
  exact this

/-! ### ranges -/
theorem ranges_rng : ∀ (n : Nat) (bs : List Int) (rs : List (Int × Int)) (q : List Int), Bys bs → rangesF n bs = some (rs, q) → rngR (2 * n) false bs = (flatR rs, q, false)
  | 0, bs, rs, q, hb, h => by
    unfold rangesF at h
    injection h with h
    injection h with h1 h2
    subst h1 h2
    rfl
  | n + 1, bs, rs, q, hb, h => by
    rw [rangesF_more] at h
    cases h1 : numB bs with
    | none => rw [h1] at h; cases h
    | some a =>
      obtain ⟨lo, r1⟩ := a
      rw [h1] at h
      simp only at h
      have hb1 := (numB_in hb h1).2.2.1
      cases h2 : numB r1 with
      | none => rw [h2] at h; cases h
      | some c =>
        obtain ⟨hi, r2⟩ := c
        rw [h2] at h
        simp only at h
        have hb2 := (numB_in hb1 h2).2.2.1
        cases h3 : rangesF n r2 with
        | none => rw [h3] at h; cases h
        | some d =>
          obtain ⟨rs', r3⟩ := d
          rw [h3] at h
          simp only at h
          injection h with h
          injection h with e1 e2
          subst e1 e2
          rw [show 2 * (n + 1) = 2 * n + 1 + 1 by omega]
          have s1 : ∀ m, rngR (m + 1) false bs = (lo :: (rngR m false r1).1, (rngR m false r1).2) := fun m => by
            have e : varB bs = (lo, r1, false) := numB_var hb h1
            rw [rngR, if_neg (by simp), e]
          have s2 : ∀ m, rngR (m + 1) false r1 = (hi :: (rngR m false r2).1, (rngR m false r2).2) := fun m => by
            have e : varB r1 = (hi, r2, false) := numB_var hb1 h2
            rw [rngR, if_neg (by simp), e]
          rw [s1, s2, ranges_rng n r2 rs' r3 hb2 h3]
          rfl
theorem rng_ranges : ∀ (n : Nat) (bs : List Int) (l : List Int) (q : List Int), Bys bs → rngR (2 * n) false bs = (l, q, false) → (∀ x ∈ l, x < 268435456) → rangesF n bs = some (pairsOf l, q) ∧ l.length = 2 * n ∧ l = flatR (pairsOf l) ∧ n ≤ bs.length
  | 0, bs, l, q, hb, h, hl => by
    simp only [rngR, Prod.mk.injEq] at h
    obtain ⟨h1, h2, -⟩ := h
    subst h1 h2
    exact ⟨rfl, rfl, rfl, Nat.zero_le _⟩
  | n + 1, bs, l, q, hb, h, hl => by
    rw [show 2 * (n + 1) = 2 * n + 1 + 1 by omega] at h
    obtain ⟨lo, r1, b1, e1⟩ : ∃ lo r1 b1, varB bs = (lo, r1, b1) := ⟨_, _, _, rfl⟩
    rw [rngR, if_neg (by simp), e1] at h
    simp only at h
    cases b1 with
    | true =>
      rw [show rngR (2 * n + 1) true r1 = ([], r1, true) by rw [rngR, if_pos rfl]] at h
      simp at h
    | false =>
      have hb1 : Bys r1 := nxt_bys hb e1
      have l1 : r1.length < bs.length := by
        have := varF_less 5 0 1 true bs (by show (varB bs).2.2 = false; rw [e1])
        have e : varF 5 0 1 true bs = (lo, r1, false) := e1
        rw [e] at this
        exact this
      obtain ⟨hi, r2, b2, e2⟩ : ∃ hi r2 b2, varB r1 = (hi, r2, b2) := ⟨_, _, _, rfl⟩
      rw [rngR, if_neg (by simp), e2] at h
      simp only at h
      cases b2 with
      | true =>
        have : rngR (2 * n) true r2 = ([], r2, true) := by cases h0 : 2 * n <;> simp [rngR]
        rw [this] at h
        simp at h
      | false =>
        have hb2 : Bys r2 := nxt_bys hb1 e2
        have l2 : r2.length < r1.length := by
          have := varF_less 5 0 1 true r1 (by show (varB r1).2.2 = false; rw [e2])
          have e : varF 5 0 1 true r1 = (hi, r2, false) := e2
          rw [e] at this
          exact this
        obtain ⟨l', q', b', e3⟩ : ∃ l' q' b', rngR (2 * n) false r2 = (l', q', b') := ⟨_, _, _, rfl⟩
        rw [e3] at h
        simp only [Prod.mk.injEq] at h
        obtain ⟨h1, h2, h3⟩ := h
        subst h1 h2 h3
        obtain ⟨f1, f2, f3, f4⟩ := rng_ranges n r2 l' q' hb2 e3 (fun x hx => hl x (by simp [hx]))
        refine ⟨?_, by simp only [List.length_cons]; omega, ?_, by omega⟩
        · rw [rangesF_more, var_numB hb e1 (hl lo (by simp))]
          simp only
          rw [var_numB hb1 e2 (hl hi (by simp))]
          simp only
          rw [f1]
          rfl
        · simp only [pairsOf, flatR]
          rw [← f3]
theorem pairsOf_flat : ∀ (rs : List (Int × Int)), pairsOf (flatR rs) = rs
  | [] => rfl
  | (a, b) :: rs => by simp [flatR, pairsOf, pairsOf_flat rs]

/-! ### an instruction -/
theorem nums_two {bs r r2 : List Int} {a b : Int} {c : Bool} (h1 : nxt false bs = (a, r, false)) (h2 : nxt false r = (b, r2, c)) : numsR 2 false bs = ([a, b], r2, c) := by
  rw [numsR, h1, numsR, h2]
  rfl
theorem nums_one {bs r : List Int} {a : Int} {c : Bool} (h1 : nxt false bs = (a, r, c)) : numsR 1 false bs = ([a], r, c) := by
  rw [numsR, h1]
  rfl
theorem nxt_true (r : List Int) : nxt true r = (0, r, true) := rfl
/-- two numbers that are not bad -/
theorem two_nums {bs l q : List Int} (hb : Bys bs) (h : numsR 2 false bs = (l, q, false)) : ∃ a b r, l = [a, b] ∧ nxt false bs = (a, r, false) ∧ nxt false r = (b, q, false) ∧ Bys r ∧ Bys q := by
  obtain ⟨a, r, c, e1⟩ : ∃ a r c, nxt false bs = (a, r, c) := ⟨_, _, _, rfl⟩
  rw [numsR, e1] at h
  simp only at h
  cases c with
  | true => rw [numsR_bad] at h; simp at h
  | false =>
    obtain ⟨b, r2, c2, e2⟩ : ∃ b r2 c2, nxt false r = (b, r2, c2) := ⟨_, _, _, rfl⟩
    rw [numsR, e2] at h
    simp only [numsR, Prod.mk.injEq] at h
    obtain ⟨h1, h2, h3⟩ := h
    subst h1 h2 h3
    exact ⟨a, b, r, rfl, e1, e2, nxt_bys hb e1, nxt_bys (nxt_bys hb e1) e2⟩
theorem one_num {bs l q : List Int} (h : numsR 1 false bs = (l, q, false)) : ∃ a, l = [a] ∧ nxt false bs = (a, q, false) := by
  obtain ⟨a, r, c, e1⟩ : ∃ a r c, nxt false bs = (a, r, c) := ⟨_, _, _, rfl⟩
  rw [numsR, e1] at h
  simp only [numsR, Prod.mk.injEq] at h
  obtain ⟨h1, h2, h3⟩ := h
  subst h1 h2 h3
  exact ⟨a, rfl, e1⟩
theorem instR_cons (op : Int) (r : List Int) : instR false (op :: r) = if op < 1 ∨ 7 < op then (⟨0, 0, 0, 0, []⟩, r, true) else if op = 1 then
    (mkI 1 ((numsR 2 false r).1 ++ (rngR (2 * ((numsR 2 false r).1.getD 1 0).toNat) (numsR 2 false r).2.2 (numsR 2 false r).2.1).1), (rngR (2 * ((numsR 2 false r).1.getD 1 0).toNat) (numsR 2 false r).2.2 (numsR 2 false r).2.1).2)
    else (mkI op (numsR (manyI op) false r).1, (numsR (manyI op) false r).2) := rfl
theorem op_inst {bs : List Int} {x : PInst} {q : List Int} (hb : Bys bs) (h : opF bs = some (x, q)) : instR false bs = (x, q, false) := by
  cases bs with
  | nil => cases h
  | cons op r =>
    have hbr : Bys r := fun y hy => hb y (List.mem_cons_of_mem _ hy)
    have h2 : fieldsB op r = some (x, q) := h
    clear h
    rw [instR_cons]
    unfold fieldsB at h2
    by_cases c1 : op = 1
    · subst c1
      rw [if_pos rfl] at h2
      rw [if_neg (by omega), if_pos rfl]
      cases h3 : numB r with
      | none => rw [h3] at h2; cases h2
      | some a =>
        obtain ⟨x0, r1⟩ := a
        rw [h3] at h2
        simp only at h2
        have hb1 := (numB_in hbr h3).2.2.1
        cases h4 : numB r1 with
        | none => rw [h4] at h2; cases h2
        | some c =>
          obtain ⟨n, r2⟩ := c
          rw [h4] at h2
          simp only at h2
          have hn := numB_in hb1 h4
          split at h2
          · cases h5 : rangesF n.toNat r2 with
            | none => rw [h5] at h2; cases h2
            | some d =>
              obtain ⟨rs, r3⟩ := d
              rw [h5] at h2
              simp only at h2
              injection h2 with h2
              injection h2 with e1 e2
              subst e1 e2
              rw [nums_two (numB_var hbr h3) (numB_var hb1 h4)]
              have e3 : [x0, n].getD 1 0 = n := rfl
              simp only [e3]
              rw [ranges_rng n.toNat r2 rs r3 hn.2.2.1 h5]
              simp only [mkI, if_true]
              congr 2
              show pairsOf (flatR rs) = rs
              exact pairsOf_flat rs
          · cases h2
    rw [if_neg c1] at h2
    by_cases c2 : op = 2
    · subst c2
      rw [if_pos rfl] at h2
      rw [if_neg (by omega), if_neg (by omega)]
      cases h3 : numB r with
      | none => rw [h3] at h2; cases h2
      | some a =>
        obtain ⟨x0, r1⟩ := a
        rw [h3] at h2
        simp only at h2
        have hb1 := (numB_in hbr h3).2.2.1
        cases h4 : numB r1 with
        | none => rw [h4] at h2; cases h2
        | some c =>
          obtain ⟨n, r2⟩ := c
          rw [h4] at h2
          simp only at h2
          injection h2 with h2
          injection h2 with e1 e2
          subst e1 e2
          rw [show manyI 2 = 2 from rfl, nums_two (numB_var hbr h3) (numB_var hb1 h4)]
          rfl
    rw [if_neg c2] at h2
    by_cases c3 : op = 3 ∨ op = 4
    · rw [if_pos c3] at h2
      rw [if_neg (by omega), if_neg (by omega)]
      cases h3 : numB r with
      | none => rw [h3] at h2; cases h2
      | some a =>
        obtain ⟨x0, r1⟩ := a
        rw [h3] at h2
        simp only at h2
        have hb1 := (numB_in hbr h3).2.2.1
        cases h4 : numB r1 with
        | none => rw [h4] at h2; cases h2
        | some c =>
          obtain ⟨n, r2⟩ := c
          rw [h4] at h2
          simp only at h2
          injection h2 with h2
          injection h2 with e1 e2
          subst e1 e2
          rcases c3 with rfl | rfl
          · rw [show manyI 3 = 2 from rfl, nums_two (numB_var hbr h3) (numB_var hb1 h4)]
            rfl
          · rw [show manyI 4 = 2 from rfl, nums_two (numB_var hbr h3) (numB_var hb1 h4)]
            rfl
    rw [if_neg c3] at h2
    by_cases c7 : op = 7
    · subst c7
      rw [if_pos rfl] at h2
      rw [if_neg (by omega), if_neg (by omega)]
      cases h3 : numB r with
      | none => rw [h3] at h2; cases h2
      | some a =>
        obtain ⟨x0, r1⟩ := a
        rw [h3] at h2
        simp only at h2
        injection h2 with h2
        injection h2 with e1 e2
        subst e1 e2
        rw [show manyI 7 = 1 from rfl, nums_one (numB_var hbr h3)]
        rfl
    rw [if_neg c7] at h2
    by_cases c5 : op = 5
    · subst c5
      rw [if_pos rfl] at h2
      rw [if_neg (by omega), if_neg (by omega)]
      cases h3 : numB r with
      | none => rw [h3] at h2; cases h2
      | some a =>
        obtain ⟨x0, r1⟩ := a
        rw [h3] at h2
        simp only at h2
        injection h2 with h2
        injection h2 with e1 e2
        subst e1 e2
        rw [show manyI 5 = 1 from rfl, nums_one (numB_var hbr h3)]
        rfl
    rw [if_neg c5] at h2
    by_cases c6 : op = 6
    · subst c6
      rw [if_pos rfl] at h2
      rw [if_neg (by omega), if_neg (by omega)]
      injection h2 with h2
      injection h2 with e1 e2
      subst e1 e2
      rfl
    rw [if_neg c6] at h2
    cases h2
theorem inst_op {bs : List Int} {x : PInst} {q : List Int} (hb : Bys bs) (h : instR false bs = (x, q, false)) (hf : FineI x) : opF bs = some (x, q) := by
  cases bs with
  | nil => simp [instR, opR] at h
  | cons op r =>
    have hbr : Bys r := fun y hy => hb y (List.mem_cons_of_mem _ hy)
    rw [instR_cons] at h
    show fieldsB op r = some (x, q)
    unfold fieldsB
    by_cases hbad : op < 1 ∨ 7 < op
    · rw [if_pos hbad] at h
      simp at h
    rw [if_neg hbad] at h
    by_cases c1 : op = 1
    · subst c1
      rw [if_pos rfl] at h ⊢
      obtain ⟨l, r2, b2, e1⟩ : ∃ l r2 b2, numsR 2 false r = (l, r2, b2) := ⟨_, _, _, rfl⟩
      rw [e1] at h
      simp only at h
      cases b2 with
      | true =>
        have : ∀ n, rngR n true r2 = ([], r2, true) := fun n => by cases n <;> simp [rngR]
        rw [this] at h
        simp at h
      | false =>
        obtain ⟨a, n, r1, rfl, f1, f2, hb1, hb2⟩ := two_nums hbr e1
        have e3 : [a, n].getD 1 0 = n := rfl
        simp only [e3] at h
        obtain ⟨l2, q2, b3, e4⟩ : ∃ l2 q2 b3, rngR (2 * n.toNat) false r2 = (l2, q2, b3) := ⟨_, _, _, rfl⟩
        rw [e4] at h
        simp only [Prod.mk.injEq] at h
        obtain ⟨h1, h2, h3⟩ := h
        subst h2 h3
        have hx : x = ⟨1, a, 0, 0, pairsOf l2⟩ := by rw [← h1]; rfl
        subst hx
        have hn36 : Num36 n := by
          have := (nxt_in (b := false) hb1).1
          rw [f2] at this
          exact this
        have en : numsOf ⟨1, a, 0, 0, pairsOf l2⟩ = a :: ((pairsOf l2).length : Int) :: flatR (pairsOf l2) := by unfold numsOf; rw [if_pos rfl]
        have hnum := hf.nums
        rw [en] at hnum
        have hG : ∀ (m : Nat) (bs l q : List Int), Bys bs → rngR (2 * m) false bs = (l, q, false) → l.length = 2 * m ∧ l = flatR (pairsOf l) := by
          intro m
          induction m with
          | zero =>
            intro bs l q hb h
            simp only [rngR, Prod.mk.injEq] at h
            obtain ⟨h1, h2, -⟩ := h
            subst h1
            exact ⟨rfl, rfl⟩
          | succ m ih =>
            intro bs l q hb h
            rw [show 2 * (m + 1) = 2 * m + 1 + 1 by omega] at h
            obtain ⟨lo, r1, b1, e1⟩ : ∃ lo r1 b1, varB bs = (lo, r1, b1) := ⟨_, _, _, rfl⟩
            rw [rngR, if_neg (by simp), e1] at h
            simp only at h
            cases b1 with
            | true =>
              rw [show rngR (2 * m + 1) true r1 = ([], r1, true) by rw [rngR, if_pos rfl]] at h
              simp at h
            | false =>
              obtain ⟨hi, r2, b2, e2⟩ : ∃ hi r2 b2, varB r1 = (hi, r2, b2) := ⟨_, _, _, rfl⟩
              rw [rngR, if_neg (by simp), e2] at h
              simp only at h
              cases b2 with
              | true =>
                have : rngR (2 * m) true r2 = ([], r2, true) := by cases h0 : 2 * m <;> simp [rngR]
                rw [this] at h
                simp at h
              | false =>
                obtain ⟨l', q', b', e3⟩ : ∃ l' q' b', rngR (2 * m) false r2 = (l', q', b') := ⟨_, _, _, rfl⟩
                rw [e3] at h
                simp only [Prod.mk.injEq] at h
                obtain ⟨h1, h2, h3⟩ := h
                subst h1 h2 h3
                obtain ⟨f2, f3⟩ := ih r2 l' q' (nxt_bys (nxt_bys hb e1) e2) e3
                exact ⟨by simp only [List.length_cons]; omega, by simp only [pairsOf, flatR]; rw [← f3]⟩
        obtain ⟨g1, g2⟩ := hG n.toNat r2 l2 q2 hb2 e4
        have hlen : (pairsOf l2).length = n.toNat := by
          have h4 := congrArg List.length g2
          rw [flatR_len] at h4
          omega
        have k0 := hnum a (by simp)
        have k1 := hnum ((pairsOf l2).length : Int) (by simp)
        have hsm : ∀ y ∈ l2, y < 268435456 := fun y hy => by
          rw [g2] at hy
          have := hnum y (by simp [hy])
          omega
        obtain ⟨p1, p2, p3, p4⟩ := rng_ranges n.toNat r2 l2 q2 hb2 e4 hsm
        unfold Num36 at hn36
        rw [var_numB hbr f1 (by omega)]
        simp only
        rw [var_numB hb1 f2 (by omega)]
        simp only
        rw [if_pos (by omega), p1]
    rw [if_neg c1] at h ⊢
    by_cases c2 : op = 2
    · subst c2
      rw [if_pos rfl]
      rw [show manyI 2 = 2 from rfl] at h
      obtain ⟨l, r2, b2, e1⟩ : ∃ l r2 b2, numsR 2 false r = (l, r2, b2) := ⟨_, _, _, rfl⟩
      rw [e1] at h
      simp only [Prod.mk.injEq] at h
      obtain ⟨h1, h2, h3⟩ := h
      subst h2 h3
      obtain ⟨a, n, r1, rfl, f1, f2, hb1, hb2⟩ := two_nums hbr e1
      have hx : x = ⟨2, a, n, 0, []⟩ := by rw [← h1]; rfl
      subst hx
      have hnum := hf.nums
      have en : numsOf ⟨2, a, n, 0, []⟩ = [a, n] := by unfold numsOf; rw [if_neg (by simp), if_pos rfl]
      rw [en] at hnum
      have k0 := hnum a (by simp)
      have k1 := hnum n (by simp)
      rw [var_numB hbr f1 (by omega)]
      simp only
      rw [var_numB hb1 f2 (by omega)]
    rw [if_neg c2]
    by_cases c3 : op = 3 ∨ op = 4
    · rw [if_pos c3]
      have hm : manyI op = 2 := by unfold manyI; rw [if_pos (by omega)]
      rw [hm] at h
      obtain ⟨l, r2, b2, e1⟩ : ∃ l r2 b2, numsR 2 false r = (l, r2, b2) := ⟨_, _, _, rfl⟩
      rw [e1] at h
      simp only [Prod.mk.injEq] at h
      obtain ⟨h1, h2, h3⟩ := h
      subst h2 h3
      obtain ⟨a, n, r1, rfl, f1, f2, hb1, hb2⟩ := two_nums hbr e1
      have hx : x = ⟨op, n, 0, a, []⟩ := by rw [← h1]; unfold mkI; rw [if_neg c1, if_neg c2, if_pos c3]; rfl
      subst hx
      have hnum := hf.nums
      have en : numsOf ⟨op, n, 0, a, []⟩ = [a, n] := by unfold numsOf; rw [if_neg c1, if_neg c2, if_pos c3]
      rw [en] at hnum
      have k0 := hnum a (by simp)
      have k1 := hnum n (by simp)
      rw [var_numB hbr f1 (by omega)]
      simp only
      rw [var_numB hb1 f2 (by omega)]
    rw [if_neg c3]
    by_cases c7 : op = 7
    · subst c7
      rw [if_pos rfl]
      rw [show manyI 7 = 1 from rfl] at h
      obtain ⟨l, r2, b2, e1⟩ : ∃ l r2 b2, numsR 1 false r = (l, r2, b2) := ⟨_, _, _, rfl⟩
      rw [e1] at h
      simp only [Prod.mk.injEq] at h
      obtain ⟨h1, h2, h3⟩ := h
      subst h2 h3
      obtain ⟨a, rfl, f1⟩ := one_num e1
      have hx : x = ⟨7, a, 0, 0, []⟩ := by rw [← h1]; rfl
      subst hx
      have hnum := hf.nums
      have en : numsOf ⟨7, a, 0, 0, []⟩ = [a] := by unfold numsOf; simp
      rw [en] at hnum
      have k0 := hnum a (by simp)
      rw [var_numB hbr f1 (by omega)]
    rw [if_neg c7]
    by_cases c5 : op = 5
    · subst c5
      rw [if_pos rfl]
      rw [show manyI 5 = 1 from rfl] at h
      obtain ⟨l, r2, b2, e1⟩ : ∃ l r2 b2, numsR 1 false r = (l, r2, b2) := ⟨_, _, _, rfl⟩
      rw [e1] at h
      simp only [Prod.mk.injEq] at h
      obtain ⟨h1, h2, h3⟩ := h
      subst h2 h3
      obtain ⟨a, rfl, f1⟩ := one_num e1
      have hx : x = ⟨5, 0, 0, a, []⟩ := by rw [← h1]; rfl
      subst hx
      have hnum := hf.nums
      have en : numsOf ⟨5, 0, 0, a, []⟩ = [a] := by unfold numsOf; simp
      rw [en] at hnum
      have k0 := hnum a (by simp)
      rw [var_numB hbr f1 (by omega)]
    rw [if_neg c5]
    have c6 : op = 6 := by omega
    subst c6
    rw [if_pos rfl]
    rw [show manyI 6 = 0 from rfl] at h
    simp only [numsR, Prod.mk.injEq] at h
    obtain ⟨h1, h2, h3⟩ := h
    subst h2
    rw [← h1]
    rfl

/-! ### all of them -/
theorem insts_lp : ∀ (k : Nat) (bs : List Int) (is : List PInst) (q : List Int), Bys bs → instsF k bs = some (is, q) → lpR k false bs = (is, q, false)
  | 0, bs, is, q, hb, h => by
    unfold instsF at h
    injection h with h
    injection h with h1 h2
    subst h1 h2
    rfl
  | k + 1, bs, is, q, hb, h => by
    rw [instsF_step] at h
    cases h1 : opF bs with
    | none => rw [h1] at h; cases h
    | some a =>
      obtain ⟨x, r⟩ := a
      rw [h1] at h
      simp only at h
      cases h2 : instsF k r with
      | none => rw [h2] at h; cases h
      | some c =>
        obtain ⟨is', q2⟩ := c
        rw [h2] at h
        simp only at h
        injection h with h
        injection h with e1 e2
        subst e1 e2
        have e3 := op_inst hb h1
        have hbr : Bys r := by
          cases bs with
          | nil => cases h1
          | cons op t =>
            have := (instR_in (b := false) (r := op :: t) hb)
            have h5 : ∀ y ∈ r, 0 ≤ y ∧ y ≤ 255 := by
              have hq : Bys (instR false (op :: t)).2.1 := by
                unfold instR
                obtain ⟨o1, o2, o3, o4⟩ := opR_in (b := false) hb
                split
                · exact o3
                split
                · exact (rngR_in _ _ _ (numsR_in 2 _ _ o3).2.2.1).2.2.1
                · exact (numsR_in _ _ _ o3).2.2.1
              rw [e3] at hq
              exact hq
            exact h5
        rw [lpR_step e3, insts_lp k r is' q2 hbr h2]
theorem instR_bys {b : Bool} {bs : List Int} (hb : Bys bs) : Bys (instR b bs).2.1 := by
  unfold instR
  obtain ⟨o1, o2, o3, o4⟩ := opR_in (b := b) hb
  split
  · exact o3
  split
  · exact (rngR_in _ _ _ (numsR_in 2 _ _ o3).2.2.1).2.2.1
  · exact (numsR_in _ _ _ o3).2.2.1
theorem lp_insts : ∀ (k : Nat) (bs : List Int) (is : List PInst) (q : List Int), Bys bs → lpR k false bs = (is, q, false) → is.length = k ∧ ((∀ x ∈ is, FineI x) → instsF k bs = some (is, q))
  | 0, bs, is, q, hb, h => by
    simp only [lpR, Prod.mk.injEq] at h
    obtain ⟨h1, h2, -⟩ := h
    subst h1 h2
    exact ⟨rfl, fun _ => rfl⟩
  | k + 1, bs, is, q, hb, h => by
    obtain ⟨x, r, b, e1⟩ : ∃ x r b, instR false bs = (x, r, b) := ⟨_, _, _, rfl⟩
    rw [lpR_step e1] at h
    cases b with
    | true => rw [lpR_bad] at h; simp at h
    | false =>
      have hbr : Bys r := by have := instR_bys (b := false) hb; rw [e1] at this; exact this
      obtain ⟨is', q', b', e2⟩ : ∃ is' q' b', lpR k false r = (is', q', b') := ⟨_, _, _, rfl⟩
      rw [e2] at h
      simp only [Prod.mk.injEq] at h
      obtain ⟨h1, h2, h3⟩ := h
      subst h1 h2 h3
      obtain ⟨g1, g2⟩ := lp_insts k r is' q' hbr e2
      refine ⟨by simp [g1], fun hf => ?_⟩
      rw [instsF_step, inst_op hb e1 (hf x (by simp))]
      simp only
      rw [g2 (fun y hy => hf y (by simp [hy]))]
/-- heronref10's reading of the body -/
def refBody (bs : List Int) : Option (List PInst × Int × Int) :=
  let c := nxt false bs
  let s := nxt c.2.2 c.2.1
  let k := nxt s.2.2 s.2.1
  let L := lpR k.1.toNat k.2.2 k.2.1
  if L.2.2 = false ∧ L.2.1 = [] ∧ checkB L.1 s.1 c.1 = true then some (L.1, s.1, c.1) else none
theorem refBody_eq {bs : List Int} (hb : Bys bs) : refBody bs = bodyB bs := by
  obtain ⟨caps, r1, b1, e1⟩ : ∃ v r b, nxt false bs = (v, r, b) := ⟨_, _, _, rfl⟩
  have hb1 := nxt_bys hb e1
  have bad : ∀ (k : Nat) (r : List Int), (lpR k true r).2.2 = true := fun k r => by rw [lpR_bad]
  cases hB : bodyB bs with
  | some p =>
    unfold bodyB at hB
    cases h1 : numB bs with
    | none => rw [h1] at hB; cases hB
    | some a =>
      obtain ⟨c', r1'⟩ := a
      rw [h1] at hB
      simp only at hB
      have g1 := (numB_in hb h1).2.2.1
      cases h2 : numB r1' with
      | none => rw [h2] at hB; cases hB
      | some a =>
        obtain ⟨s', r2'⟩ := a
        rw [h2] at hB
        simp only at hB
        have g2 := (numB_in g1 h2).2.2.1
        cases h3 : numB r2' with
        | none => rw [h3] at hB; cases hB
        | some a =>
          obtain ⟨k', r3'⟩ := a
          rw [h3] at hB
          simp only at hB
          have g3 := (numB_in g2 h3).2.2.1
          split at hB
          · cases h4 : instsF k'.toNat r3' with
            | none => rw [h4] at hB; cases hB
            | some a =>
              obtain ⟨is, q⟩ := a
              rw [h4] at hB
              simp only at hB
              split at hB
              · rename_i hq
                unfold refBody
                simp only
                rw [numB_var hb h1]
                simp only
                rw [numB_var g1 h2]
                simp only
                rw [numB_var g2 h3]
                simp only
                rw [insts_lp _ _ _ _ g3 h4]
                simp only
                rw [if_pos (by simp [hq.1, hq.2])]
                exact hB
              · cases hB
          · cases hB
  | none =>
    unfold refBody
    simp only
    rw [e1]
    simp only
    obtain ⟨start, r2, b2, e2⟩ : ∃ v r b, nxt b1 r1 = (v, r, b) := ⟨_, _, _, rfl⟩
    rw [e2]
    simp only
    obtain ⟨k, r3, b3, e3⟩ : ∃ v r b, nxt b2 r2 = (v, r, b) := ⟨_, _, _, rfl⟩
    rw [e3]
    simp only
    rw [if_neg]
    rintro ⟨h1, h2, h3⟩
    cases b3 with
    | true => rw [lpR_bad] at h1; cases h1
    | false =>
      have hb2f : b2 = false := by
        cases b2 with
        | false => rfl
        | true => rw [nxt_true] at e3; simp at e3
      subst hb2f
      have hb1f : b1 = false := by
        cases b1 with
        | false => rfl
        | true => rw [nxt_true] at e2; simp at e2
      subst hb1f
      have g2 := nxt_bys hb1 e2
      have g3 := nxt_bys g2 e3
      obtain ⟨is, q, b, e4⟩ : ∃ is q b, lpR k.toNat false r3 = (is, q, b) := ⟨_, _, _, rfl⟩
      rw [e4] at h1 h2 h3
      simp only at h1 h2 h3
      subst h1 h2
      have hp := fineP h3
      obtain ⟨l1, l2⟩ := lp_insts _ _ _ _ g3 e4
      have hk36 : Num36 k := by
        have := (nxt_in (b := false) g2).1
        rw [e3] at this
        exact this
      unfold Num36 at hk36
      have p1 := hp.l1
      have p2 := hp.c1
      have p3 := hp.s1
      unfold bodyB at hB
      rw [var_numB hb e1 (by omega)] at hB
      simp only at hB
      rw [var_numB hb1 e2 (by omega)] at hB
      simp only at hB
      rw [var_numB g2 e3 (by omega)] at hB
      simp only at hB
      rw [if_pos (by omega), l2 hp.i] at hB
      simp only at hB
      rw [if_pos (by simp [h3])] at hB
      cases hB
end Go.Proofs.YtdbdokjlcdogiaaDoor

/-
  A text's words in plain words, and what code and the document make of them.
-/
namespace Go.Proofs.YtdbdokjlcdogiaaDoor
open Go.RowKit
set_option linter.unusedVariables false

/-! ### the words of a text -/
def wordsF (s : ByteArray) : Nat → Nat → List ByteArray
  | 0, _ => []
  | f + 1, k => if wordAt s k < s.size then wordV s k :: wordsF s f (wordEnd s (wordAt s k)) else []
def wordsAt (s : ByteArray) (k : Nat) : List ByteArray := wordsF s (s.size - k) k
theorem skipN_stop (s : ByteArray) (p : Nat → Bool) : ∀ (f k : Nat), s.size - k ≤ f → ∀ h : skipN s p f k < s.size, p (s[skipN s p f k]'h).toNat = false
  | 0, k, hf, h => by
    have e : skipN s p 0 k = k := rfl
    have : k < s.size := by rw [e] at h; exact h
    omega
  | f + 1, k, hf, h => by
    by_cases hk : k < s.size
    · cases hp : p (s[k]'hk).toNat with
      | true =>
        have e := skipN_yes (f := f) hk hp
        have := skipN_stop s p f (k + 1) (by omega) (by rw [← e]; exact h)
        simp only [e]
        exact this
      | false =>
        have e := skipN_no (f := f) hk hp
        simp only [e]
        exact hp
    · have e : skipN s p (f + 1) k = k := by rw [skipN, dif_neg hk]
      rw [e] at h
      exact absurd h hk
theorem wordAt_le {s : ByteArray} {k : Nat} (h : k ≤ s.size) : k ≤ wordAt s k ∧ wordAt s k ≤ s.size := skipN_le s _ _ k h
theorem wordEnd_le {s : ByteArray} {k : Nat} (h : k ≤ s.size) : k ≤ wordEnd s k ∧ wordEnd s k ≤ s.size := skipN_le s _ _ k h
theorem blank_yes {s : ByteArray} {k : Nat} (h : k < s.size) (hb : blankN (s[k]'h).toNat = true) : wordAt s k = wordAt s (k + 1) ∧ wordEnd s k = k := by
  unfold wordAt wordEnd
  rw [show s.size - k = (s.size - (k + 1)) + 1 by omega]
  exact ⟨skipN_yes h hb, skipN_no h (by rw [hb]; rfl)⟩
theorem blank_no {s : ByteArray} {k : Nat} (h : k < s.size) (hb : blankN (s[k]'h).toNat = false) : wordAt s k = k ∧ wordEnd s k = wordEnd s (k + 1) := by
  unfold wordAt wordEnd
  rw [show s.size - k = (s.size - (k + 1)) + 1 by omega]
  exact ⟨skipN_no h hb, skipN_yes h (by rw [hb]; rfl)⟩
theorem at_end (s : ByteArray) : wordAt s s.size = s.size ∧ wordEnd s s.size = s.size := by
  unfold wordAt wordEnd
  rw [Nat.sub_self]
  exact ⟨rfl, rfl⟩
theorem wordEnd_gt {s : ByteArray} {k : Nat} (hk : k ≤ s.size) (h : wordAt s k < s.size) : wordAt s k < wordEnd s (wordAt s k) ∧ wordEnd s (wordAt s k) ≤ s.size := by
  have hb := skipN_stop s blankN (s.size - k) k (Nat.le_refl _) h
  have e := (blank_no h hb).2
  have := wordEnd_le (s := s) (k := wordAt s k + 1) h
  omega
theorem wordsF_fuel (s : ByteArray) : ∀ (f f' k : Nat), k ≤ s.size → s.size - k ≤ f → s.size - k ≤ f' → wordsF s f k = wordsF s f' k
  | 0, 0, k, _, _, _ => rfl
  | 0, f' + 1, k, hk, h, _ => by
    have : k = s.size := by omega
    subst this
    rw [wordsF, wordsF, if_neg (by rw [(at_end s).1]; omega)]
  | f + 1, 0, k, hk, _, h => by
    have : k = s.size := by omega
    subst this
    rw [wordsF, wordsF, if_neg (by rw [(at_end s).1]; omega)]
  | f + 1, f' + 1, k, hk, h1, h2 => by
    rw [wordsF, wordsF]
    by_cases h : wordAt s k < s.size
    · have a := wordAt_le hk
      have b := wordEnd_gt hk h
      rw [if_pos h, if_pos h, wordsF_fuel s f f' _ b.2 (by omega) (by omega)]
    · rw [if_neg h, if_neg h]
theorem wordsAt_step {s : ByteArray} {k : Nat} (hk : k ≤ s.size) : wordsAt s k = if wordAt s k < s.size then wordV s k :: wordsAt s (wordEnd s (wordAt s k)) else [] := by
  by_cases h : wordAt s k < s.size
  · have a := wordAt_le hk
    have b := wordEnd_gt hk h
    unfold wordsAt
    rw [show s.size - k = (s.size - (k + 1)) + 1 by omega, wordsF, if_pos h, if_pos h, wordsF_fuel s _ (s.size - wordEnd s (wordAt s k)) _ b.2 (by omega) (by omega)]
  · unfold wordsAt
    rw [if_neg h]
    cases hf : s.size - k with
    | zero => rfl
    | succ n => rw [wordsF, if_neg h]
theorem wordsAt_len (s : ByteArray) : ∀ (n k : Nat), s.size - k ≤ n → k ≤ s.size → (wordsAt s k).length ≤ s.size - k
  | n, k, hn, hk => by
    rw [wordsAt_step hk]
    by_cases h : wordAt s k < s.size
    · have a := wordAt_le hk
      have b := wordEnd_gt hk h
      rw [if_pos h]
      match n, hn with
      | 0, hn => omega
      | n + 1, hn =>
        have := wordsAt_len s n (wordEnd s (wordAt s k)) (by omega) b.2
        simp only [List.length_cons]
        omega
    · rw [if_neg h]
      simp
theorem wordV_size {s : ByteArray} {k : Nat} (hk : k ≤ s.size) : (wordV s k).size = wordEnd s (wordAt s k) - wordAt s k := by
  have a := wordAt_le hk
  have b := wordEnd_le (s := s) a.2
  unfold wordV
  rw [ByteArray.size_extract]
  omega
theorem wordV_end {s : ByteArray} {k : Nat} (hk : k ≤ s.size) (h : ¬ wordAt s k < s.size) : (wordV s k).size = 0 := by
  have a := wordAt_le hk
  have e : wordAt s k = s.size := by omega
  rw [wordV_size hk, e, (at_end s).2]
  omega
theorem wordV_some {s : ByteArray} {k : Nat} (hk : k ≤ s.size) (h : wordAt s k < s.size) : 0 < (wordV s k).size := by
  have b := wordEnd_gt hk h
  rw [wordV_size hk]
  omega

/-! ### numbers -/
theorem digN_in (v : ByteArray) : ∀ (f : Nat) (n : Int) (i : Nat) (m : Int), 0 ≤ n → n < 10 ^ i → f + i ≤ 9 → digN v f n i = some m → 0 ≤ m ∧ m < 1000000000
  | 0, n, i, m, h0, h1, hi, h => by
    unfold digN at h
    injection h with h
    subst h
    have hp : (10 : Int) ^ i ≤ 10 ^ 9 := by exact_mod_cast Nat.pow_le_pow_right (by decide : 0 < 10) (by omega : i ≤ 9)
    have e : (10 : Int) ^ 9 = 1000000000 := by decide
    omega
  | f + 1, n, i, m, h0, h1, hi, h => by
    unfold digN at h
    split at h
    · split at h
      · rename_i hd
        exact digN_in v f _ (i + 1) m (by omega) (by rw [Int.pow_succ]; omega) (by omega) h
      · cases h
    · injection h with h
      subst h
      have hp : (10 : Int) ^ i ≤ 10 ^ 9 := by exact_mod_cast Nat.pow_le_pow_right (by decide : 0 < 10) (by omega : i ≤ 9)
      have e : (10 : Int) ^ 9 = 1000000000 := by decide
      omega
theorem numV_in {v : ByteArray} {n : Int} (h : numV v = some n) : 0 ≤ n ∧ n < 1000000000 := by
  unfold numV at h
  split at h
  · rename_i hc
    exact digN_in v v.size 0 0 n (by omega) (by decide) (by omega) h
  · cases h
theorem numV_nil {v : ByteArray} (h : v.size = 0) : numV v = none := by
  unfold numV
  rw [if_neg (by omega)]
theorem nameOf_le (v : ByteArray) : nameOf v ≤ 7 := by
  have h : ∀ (f i : Nat), f + i ≤ 8 → nameF v f i ≤ 7 := by
    intro f
    induction f with
    | zero => intro i _; exact Nat.zero_le _
    | succ f ih =>
      intro i hi
      unfold nameF
      split
      · omega
      · exact ih (i + 1) (by omega)
  exact h 8 0 (by omega)

/-! ### what code makes of words -/
def wnumT : List ByteArray → Option (Int × List ByteArray)
  | [] => none
  | v :: r => match numV v with
    | none => none
    | some n => some (n, r)
theorem wnumT_cons (v : ByteArray) (r : List ByteArray) : wnumT (v :: r) = match numV v with
    | none => none
    | some n => some (n, r) := rfl
def rangesT : Nat → List ByteArray → Option (List (Int × Int) × List ByteArray)
  | 0, ws => some ([], ws)
  | n + 1, ws => match wnumT ws with
    | none => none
    | some (lo, r) => match wnumT r with
      | none => none
      | some (hi, r2) => match rangesT n r2 with
        | none => none
        | some (rs, r3) => some ((lo, hi) :: rs, r3)
theorem rangesT_more (n : Nat) (ws : List ByteArray) : rangesT (n + 1) ws = match wnumT ws with
    | none => none
    | some (lo, r) => match wnumT r with
      | none => none
      | some (hi, r2) => match rangesT n r2 with
        | none => none
        | some (rs, r3) => some ((lo, hi) :: rs, r3) := rfl
def fieldsT (op : Int) (ws : List ByteArray) : Option (PInst × List ByteArray) :=
  if op = 1 then match wnumT ws with
    | none => none
    | some (x, r) => match wnumT r with
      | none => none
      | some (n, r2) => match rangesT n.toNat r2 with
        | none => none
        | some (rs, r3) => some (⟨1, x, 0, 0, rs⟩, r3)
  else if op = 2 then match wnumT ws with
    | none => none
    | some (x, r) => match wnumT r with
      | none => none
      | some (y, r2) => some (⟨2, x, y, 0, []⟩, r2)
  else if op = 3 ∨ op = 4 then match wnumT ws with
    | none => none
    | some (a, r) => match wnumT r with
      | none => none
      | some (x, r2) => some (⟨op, x, 0, a, []⟩, r2)
  else if op = 7 then match wnumT ws with
    | none => none
    | some (x, r) => some (⟨7, x, 0, 0, []⟩, r)
  else if op = 5 then match wnumT ws with
    | none => none
    | some (a, r) => some (⟨5, 0, 0, a, []⟩, r)
  else if op = 6 then some (⟨6, 0, 0, 0, []⟩, ws)
  else none
/-- at most so many instructions -/
def instsT : Nat → List ByteArray → Option (List PInst)
  | _, [] => some []
  | 0, _ :: _ => none
  | n + 1, v :: r => match fieldsT (nameOf v : Nat) r with
    | none => none
    | some (x, q) => match instsT n q with
      | none => none
      | some is => some (x :: is)
def capsW : ByteArray := ⟨#[99, 97, 112, 115]⟩
def startW : ByteArray := ⟨#[115, 116, 97, 114, 116]⟩
/-- P10.2 -/
def readT : List ByteArray → Option (List PInst × Int × Int)
  | a :: b :: c :: d :: r => if a = capsW ∧ c = startW then match numV b with
      | none => none
      | some caps => match numV d with
        | none => none
        | some start => match instsT 20000 r with
          | none => none
          | some is => if checkB is start caps = true then some (is, start, caps) else none
    else none
  | _ => none

theorem readT_cons (a b c d : ByteArray) (r : List ByteArray) : readT (a :: b :: c :: d :: r) = if a = capsW ∧ c = startW then match numV b with
      | none => none
      | some caps => match numV d with
        | none => none
        | some start => match instsT 20000 r with
          | none => none
          | some is => if checkB is start caps = true then some (is, start, caps) else none
    else none := rfl
/-! ### what the document makes of them -/
def nxtT (bad : Bool) (ws : List ByteArray) : Int × List ByteArray × Bool := if bad then (0, ws, true) else match ws with
  | [] => (0, [], true)
  | v :: r => match numV v with
    | none => (0, r, true)
    | some n => (n, r, false)
def opT (bad : Bool) (ws : List ByteArray) : Int × List ByteArray × Bool := if bad then (0, ws, true) else match ws with
  | [] => (0, [], false)
  | v :: r => if nameOf v = 0 then (0, v :: r, false) else ((nameOf v : Nat), r, false)
def numsT : Nat → Bool → List ByteArray → List Int × List ByteArray × Bool
  | 0, b, r => ([], r, b)
  | n + 1, b, r => ((nxtT b r).1 :: (numsT n (nxtT b r).2.2 (nxtT b r).2.1).1, (numsT n (nxtT b r).2.2 (nxtT b r).2.1).2)
def rngT : Nat → Bool → List ByteArray → List Int × List ByteArray × Bool
  | 0, b, r => ([], r, b)
  | n + 1, b, r => if b = true then ([], r, true) else ((nxtT false r).1 :: (rngT n (nxtT false r).2.2 (nxtT false r).2.1).1, (rngT n (nxtT false r).2.2 (nxtT false r).2.1).2)
def instT (b : Bool) (r : List ByteArray) : PInst × List ByteArray × Bool :=
  if (opT b r).1 < 1 ∨ 7 < (opT b r).1 then (⟨0, 0, 0, 0, []⟩, (opT b r).2.1, true)
  else if (opT b r).1 = 1 then
    (mkI 1 ((numsT 2 (opT b r).2.2 (opT b r).2.1).1 ++ (rngT (2 * ((numsT 2 (opT b r).2.2 (opT b r).2.1).1.getD 1 0).toNat) (numsT 2 (opT b r).2.2 (opT b r).2.1).2.2 (numsT 2 (opT b r).2.2 (opT b r).2.1).2.1).1),
      (rngT (2 * ((numsT 2 (opT b r).2.2 (opT b r).2.1).1.getD 1 0).toNat) (numsT 2 (opT b r).2.2 (opT b r).2.1).2.2 (numsT 2 (opT b r).2.2 (opT b r).2.1).2.1).2)
  else (mkI (opT b r).1 (numsT (manyI (opT b r).1) (opT b r).2.2 (opT b r).2.1).1, (numsT (manyI (opT b r).1) (opT b r).2.2 (opT b r).2.1).2)
/-- instructions, as long as there are words and none is bad -/
def lpT : Nat → Bool → List ByteArray → List PInst × List ByteArray × Bool
  | 0, b, r => ([], r, b)
  | k + 1, b, r => if b = true ∨ r = [] then ([], r, b) else ((instT false r).1 :: (lpT k (instT false r).2.2 (instT false r).2.1).1, (lpT k (instT false r).2.2 (instT false r).2.1).2)
def numM (v : ByteArray) : Int := (numV v).getD (-1)
def refT : List ByteArray → Option (List PInst × Int × Int)
  | a :: b :: c :: d :: r => if a = capsW ∧ c = startW then
      (if (lpT r.length false r).2.2 = false ∧ checkB (lpT r.length false r).1 (numM d) (numM b) = true then some ((lpT r.length false r).1, numM d, numM b) else none)
    else none
  | _ => none
theorem refT_cons (a b c d : ByteArray) (r : List ByteArray) : refT (a :: b :: c :: d :: r) = if a = capsW ∧ c = startW then
      (if (lpT r.length false r).2.2 = false ∧ checkB (lpT r.length false r).1 (numM d) (numM b) = true then some ((lpT r.length false r).1, numM d, numM b) else none)
    else none := rfl
theorem nxtT_in {b : Bool} {r : List ByteArray} : Num36 (nxtT b r).1 ∧ (nxtT b r).2.1.length ≤ r.length := by
  unfold nxtT
  cases b with
  | true => exact ⟨⟨by simp, by simp⟩, Nat.le_refl _⟩
  | false =>
    cases r with
    | nil => exact ⟨⟨by simp, by simp⟩, Nat.le_refl _⟩
    | cons v r =>
      simp only [Bool.false_eq_true, if_false]
      cases hv : numV v with
      | none => exact ⟨⟨by simp, by simp⟩, by simp⟩
      | some n => have := numV_in hv; exact ⟨⟨by simp only; omega, by simp only; omega⟩, by simp⟩
theorem nxtT_less {r r' : List ByteArray} {v : Int} (h : nxtT false r = (v, r', false)) : r'.length < r.length := by
  cases r with
  | nil => simp [nxtT] at h
  | cons u q =>
    simp only [nxtT, Bool.false_eq_true, if_false] at h
    cases hu : numV u with
    | none => rw [hu] at h; simp at h
    | some n =>
      rw [hu] at h
      simp only [Prod.mk.injEq] at h
      rw [← h.2.1]
      simp
theorem numsT_in : ∀ (n : Nat) (b : Bool) (r : List ByteArray), (∀ x ∈ (numsT n b r).1, Num36 x) ∧ (numsT n b r).1.length = n ∧ (numsT n b r).2.1.length ≤ r.length
  | 0, b, r => ⟨fun x hx => by simp [numsT] at hx, rfl, Nat.le_refl _⟩
  | n + 1, b, r => by
    obtain ⟨a1, a3⟩ := nxtT_in (b := b) (r := r)
    obtain ⟨c1, c2, c4⟩ := numsT_in n (nxtT b r).2.2 (nxtT b r).2.1
    unfold numsT
    refine ⟨fun x hx => ?_, by simp [c2], by simp only; omega⟩
    rcases List.mem_cons.1 hx with rfl | hx
    · exact a1
    · exact c1 x hx
theorem rngT_bad : ∀ (n : Nat) (r : List ByteArray), rngT n true r = ([], r, true)
  | 0, r => rfl
  | n + 1, r => by rw [rngT, if_pos rfl]
theorem numsT_step {n : Nat} {b b' : Bool} {r r' : List ByteArray} {v : Int} (h : nxtT b r = (v, r', b')) : numsT (n + 1) b r = (v :: (numsT n b' r').1, (numsT n b' r').2) := by rw [numsT, h]
theorem rngT_step {n : Nat} {b' : Bool} {r r' : List ByteArray} {v : Int} (h : nxtT false r = (v, r', b')) : rngT (n + 1) false r = (v :: (rngT n b' r').1, (rngT n b' r').2) := by
  rw [rngT, if_neg (by simp), h]
theorem rngT_in : ∀ (n : Nat) (b : Bool) (r : List ByteArray), (∀ x ∈ (rngT n b r).1, Num36 x) ∧ (rngT n b r).1.length ≤ r.length + 1 ∧ (rngT n b r).2.1.length ≤ r.length
  | 0, b, r => ⟨fun x hx => by simp [rngT] at hx, by simp [rngT], Nat.le_refl _⟩
  | n + 1, true, r => ⟨fun x hx => by simp [rngT] at hx, by simp [rngT], by simp [rngT]⟩
  | n + 1, false, r => by
    obtain ⟨v, r', b', e⟩ : ∃ v r' b', nxtT false r = (v, r', b') := ⟨_, _, _, rfl⟩
    obtain ⟨a1, a3⟩ := nxtT_in (b := false) (r := r)
    rw [e] at a1 a3
    simp only at a1 a3
    obtain ⟨c1, c2, c4⟩ := rngT_in n b' r'
    rw [rngT_step e]
    refine ⟨fun x hx => ?_, ?_, by simp only; omega⟩
    · rcases List.mem_cons.1 hx with rfl | hx
      · exact a1
      · exact c1 x hx
    · simp only [List.length_cons]
      cases b' with
      | true => rw [rngT_bad]; simp
      | false =>
        have := nxtT_less e
        omega
theorem opT_in {b : Bool} {r : List ByteArray} : 0 ≤ (opT b r).1 ∧ (opT b r).1 ≤ 255 ∧ (opT b r).2.1.length ≤ r.length := by
  unfold opT
  cases b with
  | true => exact ⟨by simp, by simp, Nat.le_refl _⟩
  | false =>
    cases r with
    | nil => exact ⟨by simp, by simp, Nat.le_refl _⟩
    | cons x q =>
      simp only [Bool.false_eq_true, if_false]
      have := nameOf_le x
      split
      · exact ⟨by simp, by simp, by simp⟩
      · exact ⟨by simp only; omega, by simp only; omega, by simp⟩
theorem instT_in {b : Bool} {r : List ByteArray} (hl : r.length ≤ 8388608) : NumI (instT b r).1 ∧ (instT b r).2.1.length ≤ r.length := by
  obtain ⟨o1, o2, o4⟩ := opT_in (b := b) (r := r)
  unfold instT
  split
  · exact ⟨⟨⟨in64_0, in64_0, in64_0, in64_0⟩, fun x hx => by simp at hx, by simp⟩, o4⟩
  split
  · obtain ⟨n1, n2, n4⟩ := numsT_in 2 (opT b r).2.2 (opT b r).2.1
    obtain ⟨g1, g2, g4⟩ := rngT_in (2 * ((numsT 2 (opT b r).2.2 (opT b r).2.1).1.getD 1 0).toNat) (numsT 2 (opT b r).2.2 (opT b r).2.1).2.2 (numsT 2 (opT b r).2.2 (opT b r).2.1).2.1
    refine ⟨?_, by simp only; omega⟩
    show NumI (mkI 1 _)
    refine mkI_in ⟨by decide, by decide⟩ (fun x hx => ?_) (by rw [List.length_append]; omega)
    rcases List.mem_append.1 hx with hx | hx
    · exact n1 x hx
    · exact g1 x hx
  · obtain ⟨n1, n2, n4⟩ := numsT_in (manyI (opT b r).1) (opT b r).2.2 (opT b r).2.1
    have hm : manyI (opT b r).1 ≤ 2 := by unfold manyI; split; omega; split <;> omega
    exact ⟨mkI_in ⟨o1, o2⟩ n1 (by omega), by simp only; omega⟩
/-- an instruction that is not bad takes a word at least -/
theorem instT_less {r : List ByteArray} (h : (instT false r).2.2 = false) : (instT false r).2.1.length < r.length := by
  cases r with
  | nil => simp [instT, opT] at h
  | cons x q =>
    by_cases h0 : nameOf x = 0
    · have e : opT false (x :: q) = (0, x :: q, false) := by simp [opT, h0]
      unfold instT at h
      rw [e] at h
      simp at h
    · have e : opT false (x :: q) = (((nameOf x : Nat) : Int), q, false) := by simp [opT, h0]
      unfold instT at h ⊢
      rw [e] at h ⊢
      simp only at h ⊢
      split at h
      · cases h
      · rename_i h1
        rw [if_neg h1]
        split
        · obtain ⟨n1, n2, n4⟩ := numsT_in 2 false q
          obtain ⟨g1, g2, g4⟩ := rngT_in (2 * ((numsT 2 false q).1.getD 1 0).toNat) (numsT 2 false q).2.2 (numsT 2 false q).2.1
          simp only [List.length_cons]
          omega
        · obtain ⟨n1, n2, n4⟩ := numsT_in (manyI (nameOf x : Nat)) false q
          simp only [List.length_cons]
          omega
theorem lpT_step {k : Nat} {r r' : List ByteArray} {x : PInst} {b' : Bool} (hr : r ≠ []) (h : instT false r = (x, r', b')) : lpT (k + 1) false r = (x :: (lpT k b' r').1, (lpT k b' r').2) := by
  rw [lpT, if_neg (by simp [hr]), h]
theorem lpT_bad : ∀ (k : Nat) (r : List ByteArray), lpT k true r = ([], r, true)
  | 0, r => rfl
  | k + 1, r => by rw [lpT, if_pos (.inl rfl)]
theorem lpT_nil : ∀ (k : Nat) (b : Bool), lpT k b [] = ([], [], b)
  | 0, b => rfl
  | k + 1, b => by rw [lpT, if_pos (.inr rfl)]
end Go.Proofs.YtdbdokjlcdogiaaDoor
