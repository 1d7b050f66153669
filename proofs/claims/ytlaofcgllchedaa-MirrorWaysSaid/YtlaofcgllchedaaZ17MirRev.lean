/-
  EnvX, MirRev, put together.
-/
import Derived.Test.YtlaofcgllchedaaZ15Bits
import Derived.Test.YtlaofcgllchedaaZ16PlainV
import Derived.Test.YtlaofcgllchedaaZ10SoundG
import Derived.Test.YtlaofcgllchedaaZ11SoundX

/-
  What a text says at its places, and read backward. Plain.
-/
namespace Go.Proofs.Ytlaofcgllchedaa
set_option linter.unusedVariables false

def envX (xs : List Int) : Env := ⟨fun rs p => fitsB rs xs p, fun a p => holdsB a (lookAt xs (p : Int))⟩
theorem envX_cls (xs : List Int) : ∀ rs p, (envX xs).cls rs p = true → p < xs.length := by
  intro rs p h
  simp only [envX, fitsB] at h
  cases hx : xs[p]? with
  | none => rw [hx] at h; cases h
  | some c => exact (List.getElem?_eq_some_iff.1 hx).1
theorem rev_get (xs : List Int) (i : Nat) (hi : i < xs.length) : xs.reverse[xs.length - 1 - i]? = xs[i]? := by
  rw [List.getElem?_reverse (by omega)]
  congr 1
  omega
theorem env_cls (xs : List Int) (rs : List (Int × Int)) (i : Nat) (hi : i < xs.length) : (envX xs.reverse).cls rs (xs.length - 1 - i) = (envX xs).cls rs i := by
  simp only [envX, fitsB]
  rw [rev_get xs i hi]
theorem flag_back (xs : List Int) (i : Nat) (hi : i ≤ xs.length) :
    firstB (xs.length - i) = lastB xs i ∧ lastB xs.reverse (xs.length - i) = firstB i ∧ beginB xs.reverse (xs.length - i) = endB xs i ∧ endB xs.reverse (xs.length - i) = beginB xs i ∧
    aheadB xs.reverse (xs.length - i) = behindB xs i ∧ behindB xs.reverse (xs.length - i) = aheadB xs i := by
  have hl : xs.reverse.length = xs.length := List.length_reverse
  have h1 : i < xs.length → xs.reverse[xs.length - i - 1]? = xs[i]? := fun h => by
    rw [show xs.length - i - 1 = xs.length - 1 - i by omega]; exact rev_get xs i h
  have h2 : 0 < i → xs.reverse[xs.length - i]? = xs[i - 1]? := fun h => by
    rw [show xs.length - i = xs.length - 1 - (i - 1) by omega]; exact rev_get xs (i - 1) (by omega)
  have h3 : i = xs.length → xs[i]? = none := fun h => List.getElem?_eq_none (by omega)
  have h4 : i = 0 → xs.reverse[xs.length - i]? = none := fun h => List.getElem?_eq_none (by omega)
  refine ⟨?_, ?_, ?_, ?_, ?_, ?_⟩
  · unfold firstB lastB; simp; omega
  · unfold firstB lastB; simp [hl]; omega
  · unfold beginB endB
    by_cases h : i = xs.length
    · simp [h]
    · have : ¬ xs.length - i = 0 := by omega
      simp [h, this, h1 (by omega)]
  · unfold beginB endB
    by_cases h : i = 0
    · simp [h]
    · have : ¬ xs.length - i = xs.length := by omega
      simp only [hl, h, this, false_or, h2 (by omega)]
  · unfold aheadB behindB
    by_cases h : i = xs.length
    · simp [h]
    · have : ¬ xs.length - i = 0 := by omega
      simp [this, h1 (by omega)]
  · unfold aheadB behindB
    by_cases h : i = 0
    · rw [h4 h]; simp [h]
    · simp [h, h2 (by omega)]
def sixP (a b c d e f : Bool) : Int := ((((((0 + bitv a 1) + bitv b 2) + bitv c 4) + bitv d 8) + bitv (e != f) 16) + bitv (!(e != f)) 32)
theorem six_back : ∀ (a b c d e f : Bool) (x : Int), asB x = true → holdsB (flipP x 6) (sixP b a d c f e) = holdsB x (sixP a b c d e f) := by
  intro a b c d e f x hx
  unfold asB at hx
  have h := of_decide_eq_true hx
  rcases h with rfl | rfl | rfl | rfl | rfl | rfl <;> (revert a b c d e f; decide +kernel)
theorem env_asr (xs : List Int) (x : Int) (hx : asB x = true) (i : Nat) (hi : i ≤ xs.length) : (envX xs.reverse).asr (flipP x 6) (xs.length - i) = (envX xs).asr x i := by
  obtain ⟨f1, f2, f3, f4, f5, f6⟩ := flag_back xs i hi
  simp only [envX]
  have e1 : lookAt xs (i : Int) = sixP (firstB i) (lastB xs i) (beginB xs i) (endB xs i) (aheadB xs i) (behindB xs i) := by
    unfold lookAt
    rw [if_pos (by omega), Int.toNat_natCast]
    rfl
  have e2 : lookAt xs.reverse ((xs.length - i : Nat) : Int) = sixP (lastB xs i) (firstB i) (endB xs i) (beginB xs i) (behindB xs i) (aheadB xs i) := by
    unfold lookAt
    rw [if_pos (by rw [List.length_reverse]; omega), Int.toNat_natCast, ← f1, ← f2, ← f3, ← f4, ← f5, ← f6]
    rfl
  rw [e1, e2]
  exact six_back _ _ _ _ _ _ x hx
end Go.Proofs.Ytlaofcgllchedaa

/-
  What fits a sound tree fits its mirror back. Plain.
-/
namespace Go.Proofs.Ytlaofcgllchedaa
set_option linter.unusedVariables false

theorem unfU_eq (t : Tree) : unfU t = if t.kind = 6 then repU (unfUH t.subs) t.mn t.mx t.lz
    else if t.kind = 2 then .cls t.rs
    else if t.kind = 3 then .asr t.am
    else if t.kind = 4 then .cat (t.subs.map unfU)
    else if t.kind = 5 then .alt (t.subs.map unfU)
    else if t.kind = 7 then .grp t.ix (unfUH t.subs)
    else .eps := by
  obtain ⟨k, rs, am, subs, mn, mx, lz, ix, nm⟩ := t
  rw [unfU, unfUL_map]
  rfl
theorem nodeB_kind {t : Tree} (h : nodeB t = true) : 1 ≤ t.kind ∧ t.kind ≤ 6 ∧ (t.kind = 4 ∨ t.kind = 5 → 2 ≤ t.subs.length) ∧ (t.kind = 6 → t.subs.length = 1 ∧ 0 ≤ t.mn ∧ t.mn ≤ 1000 ∧ (t.mx = -1 ∨ t.mn ≤ t.mx ∧ t.mx ≤ 1000)) := by
  unfold nodeB at h
  split at h
  · exact ⟨by omega, by omega, by omega, by omega⟩
  split at h
  · exact ⟨by omega, by omega, by omega, by omega⟩
  split at h
  · exact ⟨by omega, by omega, by omega, by omega⟩
  split at h
  · rename_i h4
    simp only [Bool.and_eq_true, decide_eq_true_eq] at h
    exact ⟨by omega, by omega, fun _ => h.2.1, by omega⟩
  split at h
  · rename_i h6
    simp only [Bool.and_eq_true, decide_eq_true_eq] at h
    exact ⟨by omega, by omega, by omega, fun _ => ⟨h.2.1, h.2.2.2.1.1, h.2.2.2.1.2, h.2.2.2.2⟩⟩
  · cases h
theorem okU_of : ∀ (n : Nat) (t : Tree) (d : Int), SizeOf.sizeOf t ≤ n → OkA t d → OkU t
  | 0, t, _, h, _ => absurd h (size_pos t)
  | n + 1, t, d, hn, ho => by
    obtain ⟨h1, h2, h3⟩ := ho.top
    refine .of ?_ (fun x hx => ?_)
    · rcases h1 with ⟨h7, hb⟩ | ⟨h7, hl, -⟩
      · have hk := nodeB_kind hb
        exact ⟨hk.1, by omega, fun h4 he => by have := hk.2.2.1 (.inl h4); rw [he] at this; simp at this, fun h => by rcases h with h | h; exact (hk.2.2.2 h).1; exact absurd h h7⟩
      · exact ⟨by omega, by omega, by omega, fun _ => hl⟩
    · obtain ⟨i, hi⟩ := List.mem_iff_getElem?.1 hx
      exact okU_of n x (d + 1) (by have := Tree.sub_lt hx; omega) (h3 i x hi)
theorem mir_rev {E E' : Env} {m : Nat} (hE : ∀ rs p, E.cls rs p = true → p < m) (hE' : ∀ rs p, E'.cls rs p = true → p < m) (hc : ∀ rs i, i < m → E'.cls rs (m - 1 - i) = E.cls rs i) (ha : ∀ a, asB a = true → ∀ i, i ≤ m → E'.asr (flipP a 6) (m - i) = E.asr a i) :
    ∀ (n : Nat) (t : Tree) (d : Int), SizeOf.sizeOf t ≤ n → OkA t d → Rev m (fitU E (unfU t)) (fitU E' (unfU (mirT t)))
  | 0, t, _, h, _ => absurd h (size_pos t)
  | n + 1, t, d, hn, ho => by
    obtain ⟨h1, h2, h3⟩ := ho.top
    have ih : ∀ x ∈ t.subs, Rev m (fitU E (unfU x)) (fitU E' (unfU (mirT x))) := fun x hx => by
      obtain ⟨i, hi⟩ := List.mem_iff_getElem?.1 hx
      exact mir_rev hE hE' hc ha n x (d + 1) (by have := Tree.sub_lt hx; omega) (h3 i x hi)
    rcases h1 with ⟨h7, hb⟩ | ⟨h7, hl, -⟩
    · have hk := nodeB_kind hb
      have hf := nodeB_facts hb
      obtain ⟨m1, m2, m3, m4, m5, m6, m7, -, -⟩ := mir_fields h7
      rw [unfU_eq t, unfU_eq (mirT t), m1, m2, m3, m4, m5, m6, m7]
      by_cases k6 : t.kind = 6
      · rw [if_pos k6, if_pos k6]
        obtain ⟨hl, g1, g2, g3⟩ := hk.2.2.2 k6
        have hms : mirS t = t.subs.map mirT := by unfold mirS; rw [if_neg (by omega), mirL_map]
        rw [hms]
        cases hs : t.subs with
        | nil => rw [hs] at hl; simp at hl
        | cons x r =>
          rw [List.map_cons, unfUH, unfUH]
          have hx := ih x (by rw [hs]; simp)
          intro i j hi hj
          rw [fit_rep E _ _ _ _ g1 (by omega), fit_rep E' _ _ _ _ g1 (by omega)]
          have hi2 := fun q => iter_rev hx (fit_bnd hE _) (fit_bnd hE' _) q i j hi hj
          constructor
          · rintro ⟨q, a, b, c⟩; exact ⟨q, a, b, (hi2 q).1 c⟩
          · rintro ⟨q, a, b, c⟩; exact ⟨q, a, b, (hi2 q).2 c⟩
      rw [if_neg k6, if_neg k6]
      by_cases k2 : t.kind = 2
      · rw [if_pos k2, if_pos k2]
        intro i j hi hj
        simp only [fitU]
        constructor
        · rintro ⟨a, rfl⟩
          have hlt := hE _ _ a
          have := hc t.rs i hlt
          exact ⟨by rw [show m - (i + 1) = m - 1 - i by omega, this]; exact a, by omega⟩
        · rintro ⟨a, b⟩
          have hlt : i < m := by omega
          have := hc t.rs i hlt
          rw [show m - j = m - 1 - i by omega, this] at a
          exact ⟨a, by omega⟩
      rw [if_neg k2, if_neg k2]
      by_cases k3 : t.kind = 3
      · rw [if_pos k3, if_pos k3, if_pos k3]
        intro i j hi hj
        simp only [fitU]
        have := ha t.am (hf.2.2 k3) i hi
        constructor
        · rintro ⟨a, rfl⟩; exact ⟨by rw [this]; exact a, rfl⟩
        · rintro ⟨a, b⟩
          have : j = i := by omega
          subst this
          rw [this] at a
          exact ⟨a, rfl⟩
      rw [if_neg k3, if_neg k3]
      by_cases k4 : t.kind = 4
      · rw [if_pos k4, if_pos k4]
        have hms : mirS t = (t.subs.map mirT).reverse := by unfold mirS; rw [if_pos k4, mirL_map]
        rw [hms, List.map_reverse, List.map_map]
        intro i j hi hj
        simp only [fitU]
        exact cat_rev hE hE' unfU (unfU ∘ mirT) t.subs ih i j hi hj
      rw [if_neg k4, if_neg k4]
      by_cases k5 : t.kind = 5
      · rw [if_pos k5, if_pos k5]
        have hms : mirS t = t.subs.map mirT := by unfold mirS; rw [if_neg k4, mirL_map]
        rw [hms, List.map_map]
        intro i j hi hj
        simp only [fitU]
        rw [fitA_iff, fitA_iff]
        constructor
        · rintro ⟨u, hu, hf⟩
          obtain ⟨x, hx, rfl⟩ := List.mem_map.1 hu
          exact ⟨_, List.mem_map_of_mem hx, (ih x hx i j hi hj).1 hf⟩
        · rintro ⟨u, hu, hf⟩
          obtain ⟨x, hx, rfl⟩ := List.mem_map.1 hu
          exact ⟨_, List.mem_map_of_mem hx, (ih x hx i j hi hj).2 hf⟩
      rw [if_neg k5, if_neg k5, if_neg h7, if_neg h7]
      intro i j hi hj
      simp only [fitU]
      omega
    · cases hs : t.subs with
      | nil => rw [hs] at hl; simp at hl
      | cons x r =>
        rw [mirT_group h7 (x := x) (by rw [hs]; rfl), unfU_eq t]
        rw [if_neg (by omega), if_neg (by omega), if_neg (by omega), if_neg (by omega), if_neg (by omega), if_pos h7, hs, unfUH]
        intro i j hi hj
        simp only [fitU]
        exact ih x (by rw [hs]; simp) i j hi hj
/-- of texts: read backward -/
theorem mir_fits (xs : List Int) (t : Tree) (h : OkA t 1) (i j : Nat) (hi : i ≤ xs.length) (hj : j ≤ xs.length) : fitU (envX xs) (unfU t) i j ↔ fitU (envX xs.reverse) (unfU (mirT t)) (xs.length - j) (xs.length - i) :=
  mir_rev (envX_cls xs) (fun rs p h => by have := envX_cls xs.reverse rs p h; rwa [List.length_reverse] at this) (fun rs i hi => env_cls xs rs i hi) (fun a ha i hi => env_asr xs a ha i hi) _ t 1 (Nat.le_refl _) h i j hi hj
end Go.Proofs.Ytlaofcgllchedaa
