/-
  TabG, GrtO, put together.
-/
import Derived.Test.YtlaofcgllchedaaZ25LenO

/-
  What holds of every node of the row of an unfolded tree. Plain.
-/
namespace Go.Proofs.Ytlaofcgllchedaa
set_option linter.unusedVariables false

structure NodeG (N : Nat) (g : Int) (x : PN) : Prop where
  ix : x.kind = 7 → 0 ≤ x.ix ∧ x.ix ≤ g
  sub : ∀ s ∈ x.subs, s < N
  few : x.subs.length ≤ 1000000
  up : x.up < (N : Int)
  n0 : 0 ≤ x.nth
  n1 : x.nth ≤ 1000000
def AllG (g : Int) (l : List PN) : Prop := ∀ (i : Nat) (x : PN), l[i]? = some x → NodeG l.length g x
theorem NodeG.more {N M : Nat} {g : Int} {x : PN} (h : NodeG N g x) (hm : N ≤ M) : NodeG M g x := ⟨h.ix, fun s hs => Nat.lt_of_lt_of_le (h.sub s hs) hm, h.few, by have := h.up; omega, h.n0, h.n1⟩
theorem setUps_all {g : Int} (n : Nat) : ∀ (ss : List Nat) (k : Nat) (l : List PN), n < l.length → k + ss.length ≤ 1000000 → AllG g l → AllG g (setUps l n k ss)
  | [], _, _, _, _, h => h
  | s :: ss, k, l, hn, hk, h => by
    rw [show setUps l n k (s :: ss) = setUps (setUp l s n k) n (k + 1) ss from rfl]
    have hlen : (setUp l s n k).length = l.length := by simp [setUp]
    simp only [List.length_cons] at hk
    refine setUps_all n ss (k + 1) _ (by omega) (by omega) (fun i y hy => ?_)
    rw [hlen]
    rw [setUp_at] at hy
    split at hy
    · cases hz : l[i]? with
      | none => rw [hz] at hy; cases hy
      | some z =>
        rw [hz] at hy
        injection hy with hy
        subst hy
        have hg := h i z hz
        exact ⟨hg.ix, hg.sub, hg.few, by show (n : Int) < _; omega, by show (0 : Int) ≤ (k : Int); omega, by show (k : Int) ≤ _; omega⟩
    · exact h i y hy
theorem put_all {g : Int} {x : PN} {l : List PN} (h : AllG g l) (hx : x.kind = 7 → 0 ≤ x.ix ∧ x.ix ≤ g) (hs : ∀ s ∈ x.subs, s < l.length) (hf : x.subs.length ≤ 1000000) (h0 : x.nth = 0) : AllG g (putT x l).1 := by
  refine setUps_all _ _ _ _ (by simp) (by omega) (fun i y hy => ?_)
  by_cases hi : i < l.length
  · rw [List.getElem?_append_left hi] at hy
    exact (h i y hy).more (by simp)
  · have hi1 : i = l.length := by
      have := (List.getElem?_eq_some_iff.1 hy).1
      simp at this
      omega
    subst hi1
    simp at hy
    subst hy
    exact ⟨hx, fun s hs' => by have := hs s hs'; simp; omega, hf, by show (-1 : Int) < _; omega, by show (0 : Int) ≤ x.nth; omega, by show x.nth ≤ _; omega⟩
theorem row_all {g : Int} {ss : List Nat} {l : List PN} (h : AllG g l) (hs : ∀ s ∈ ss, s < l.length) (hf : ss.length ≤ 1000000) : AllG g (rowT ss l).1 := by
  match ss with
  | [] => exact put_all h (fun e => absurd e (by decide)) (by simp [bareN]) (by simp [bareN]) rfl
  | [a] => exact h
  | a :: b :: r => exact put_all h (fun e => absurd e (by show ¬ (4 : Int) = 7; omega)) hs hf rfl
/-- a way to unfold keeps it -/
def KeepG (g : Int) (f : Uf) : Prop := ∀ l, AllG g l → AllG g (f l).1
theorem one_all {g : Int} {k : Int} {a : Nat} {lz : Bool} {l : List PN} (h : AllG g l) (hk : ¬ k = 7) (ha : a < l.length) : AllG g (putT (bareN k [a] lz) l).1 :=
  put_all h (fun e => absurd e hk) (by simp [bareN]; exact ha) (by simp [bareN]) rfl
theorem opt_all {g : Int} {f : Uf} {u : UT} (lz : Bool) (hg : GoodF f u) (hk : KeepG g f) : ∀ k, 0 < k → KeepG g (optT f lz k)
  | 0, h => by omega
  | 1, _ => fun l h => one_all (hk l h) (by omega) (hg.len l).2
  | k + 2, _ => fun l h => by
    have h1 := hg.len l
    have h2 := (opt_good lz hg (k + 1) (by omega)).len (f l).1
    have hs : ∀ s ∈ [(f l).2, (optT f lz (k + 1) (f l).1).2], s < (optT f lz (k + 1) (f l).1).1.length := by
      intro s hs
      simp at hs
      rcases hs with rfl | rfl
      · omega
      · exact h2.2
    have h3 := row_all (opt_all lz hg hk (k + 1) (by omega) _ (hk l h)) hs (by simp)
    exact one_all h3 (by omega) ((rowT_len _ _).2 hs)
theorem times_all {g : Int} {f : Uf} {u : UT} (hg : GoodF f u) (hk : KeepG g f) : ∀ n l, AllG g l → AllG g (timesT f n l).1 ∧ (∀ s ∈ (timesT f n l).2, s < (timesT f n l).1.length) ∧ (timesT f n l).2.length = n
  | 0, l, h => ⟨h, by simp [timesT], rfl⟩
  | n + 1, l, h => by
    obtain ⟨a, b, c⟩ := times_all hg hk n (f l).1 (hk l h)
    refine ⟨a, ?_, by simp only [timesT, List.length_cons, c]⟩
    intro s hs
    simp only [timesT, List.mem_cons] at hs
    rcases hs with rfl | hs
    · have := times_len hg n (f l).1
      have := (hg.len l).2
      show (f l).2 < (timesT f n (f l).1).1.length
      omega
    · exact b s hs
theorem snoc_all {g : Int} {ss : List Nat} {a : Nat} {l l' : List PN} (h : AllG g l') (hs : ∀ s ∈ ss, s < l.length) (hl : l.length ≤ l'.length) (ha : a < l'.length) (hf : ss.length ≤ 1000) : AllG g (rowT (ss ++ [a]) l').1 := by
  refine row_all h (fun s hs' => ?_) (by simp; omega)
  rcases List.mem_append.1 hs' with h' | h'
  · have := hs s h'; omega
  · obtain rfl : s = a := by simpa using h'
    exact ha
theorem rep_all {g : Int} {f : Uf} {u : UT} (hg : GoodF f u) (hk : KeepG g f) {mn mx : Int} (lz : Bool) (h0 : 0 ≤ mn) (h1 : mn ≤ 1000) : KeepG g (repT f mn mx lz) := fun l h => by
  by_cases hx : mx < 0
  · by_cases hm0 : mn = 0
    · rw [repT_star hx hm0]
      exact one_all (hk l h) (by omega) (hg.len l).2
    · obtain ⟨N, hN⟩ : ∃ N : Nat, mn = (N : Int) + 1 := ⟨(mn - 1).toNat, by omega⟩
      rw [repT_plus hx hN]
      obtain ⟨a, b, c⟩ := times_all hg hk N l h
      have h2 := hg.len (timesT f N l).1
      have h4 := putT_len (bareN 102 [(f (timesT f N l).1).2] lz) (f (timesT f N l).1).1
      exact snoc_all (one_all (hk _ a) (by omega) h2.2) b (by omega) (by omega) (by omega)
  · obtain ⟨N, hN⟩ : ∃ N : Nat, mn = (N : Int) := ⟨mn.toNat, by omega⟩
    obtain ⟨a, b, c⟩ := times_all hg hk N l h
    by_cases hmm : mn < mx
    · obtain ⟨K, hK⟩ : ∃ K : Nat, mx - mn = (K : Int) := ⟨(mx - mn).toNat, by omega⟩
      rw [repT_opt hx hmm hN hK]
      have h2 := (opt_good lz hg K (by omega)).len (timesT f N l).1
      exact snoc_all (opt_all lz hg hk K (by omega) _ a) b h2.1 h2.2 (by omega)
    · rw [repT_same hx hmm hN]
      exact row_all a b (by omega)
/-- a tree's groups have small numbers, its rows are not long -/
def OkI (g : Int) (t : Tree) : Prop := ((t.kind = 7 → 0 ≤ t.ix ∧ t.ix ≤ g) ∧ t.subs.length ≤ 1000000) ∧ ∀ i (h : i < t.subs.length), OkI g t.subs[i]
termination_by SizeOf.sizeOf t
decreasing_by exact Tree.sub_lt (List.getElem_mem h)
theorem OkI.top {g : Int} {t : Tree} (h : OkI g t) : ((t.kind = 7 → 0 ≤ t.ix ∧ t.ix ≤ g) ∧ t.subs.length ≤ 1000000) ∧ ∀ x ∈ t.subs, OkI g x := by
  rw [OkI] at h
  refine ⟨h.1, fun x hx => ?_⟩
  obtain ⟨i, hi, rfl⟩ := List.mem_iff_getElem.1 hx
  exact h.2 i hi
theorem listG {g : Int} : ∀ (ts : List Tree), (∀ x ∈ ts, KeepG g (unfT x) ∧ GoodF (unfT x) (unfU x)) → ∀ l, AllG g l → AllG g (unfTL ts l).1 ∧ (∀ s ∈ (unfTL ts l).2, s < (unfTL ts l).1.length) ∧ (unfTL ts l).2.length = ts.length ∧ l.length ≤ (unfTL ts l).1.length
  | [], _, l, h => by
    rw [unfTL]
    exact ⟨h, by simp, rfl, Nat.le_refl _⟩
  | x :: r, hs, l, h => by
    obtain ⟨h1, h2⟩ := hs x (by simp)
    obtain ⟨a, b, c, d⟩ := listG r (fun y hy => hs y (by simp [hy])) (unfT x l).1 (h1 l h)
    have h3 := h2.len l
    rw [unfTL]
    refine ⟨a, fun s hs' => ?_, by simp [c], by show l.length ≤ (unfTL r (unfT x l).1).1.length; omega⟩
    show s < (unfTL r (unfT x l).1).1.length
    rcases List.mem_cons.1 hs' with rfl | hs'
    · omega
    · exact b s hs'
theorem unf_all {g : Int} (n : Nat) : ∀ (t : Tree), SizeOf.sizeOf t ≤ n → OkU t → OkV t → OkI g t → KeepG g (unfT t) := by
  induction n with
  | zero => exact fun t h => by obtain ⟨k, r, a, l, m, x, z, i, nn⟩ := t; simp at h
  | succ n ih =>
  intro t hn hu hv hi l h
  have hsub : ∀ x ∈ t.subs, KeepG g (unfT x) ∧ GoodF (unfT x) (unfU x) := fun x hx => ⟨ih x (by have := Tree.sub_lt hx; omega) (hu.top.2 x hx) (hv.top.2 x hx) (hi.top.2 x hx), unf_good x (hu.top.2 x hx)⟩
  by_cases hk6 : t.kind = 6
  · have hpos : 0 < t.subs.length := by
      have := hu.top.1.2.2.2 (.inl hk6)
      omega
    obtain ⟨x, hx⟩ : ∃ x, t.subs[0]? = some x := ⟨_, List.getElem?_eq_getElem hpos⟩
    obtain ⟨a, b⟩ := hsub x (List.mem_of_getElem? hx)
    obtain ⟨m0, m1, -, -⟩ := hv.top.1.1 hk6
    rw [unfT_6 hk6 hx]
    exact rep_all b a t.lz m0 m1 l h
  · rw [unfT_n hk6]
    obtain ⟨a, b, c, d⟩ := listG t.subs hsub l h
    exact put_all a hi.top.1.1 b (by show (unfTL t.subs l).2.length ≤ _; rw [c]; exact hi.top.1.2) rfl
end Go.Proofs.Ytlaofcgllchedaa

/-
  A tree's groups are numbered up to its greatest Index. Plain.
-/
namespace Go.Proofs.Ytlaofcgllchedaa
set_option linter.unusedVariables false

theorem grtL_le : ∀ (l : List Tree) (n : Int), n ≤ grtL n l ∧ ∀ x ∈ l, grtT x ≤ grtL n l
  | [], n => by rw [grtL]; exact ⟨Int.le_refl _, by simp⟩
  | t :: l, n => by
    rw [grtL]
    obtain ⟨h1, h2⟩ := grtL_le l (max n (grtT t))
    refine ⟨by omega, fun x hx => ?_⟩
    rcases List.mem_cons.1 hx with rfl | hx
    · omega
    · exact h2 x hx
theorem grt_top (t : Tree) : t.ix ≤ grtT t ∧ ∀ x ∈ t.subs, grtT x ≤ grtT t := by
  rw [grtT_eq t]
  exact grtL_le t.subs t.ix
/-- groups count from 0, rows are not long -/
def OkG (t : Tree) : Prop := ((t.kind = 7 → 0 ≤ t.ix) ∧ t.subs.length ≤ 1000000) ∧ ∀ i (h : i < t.subs.length), OkG t.subs[i]
termination_by SizeOf.sizeOf t
decreasing_by exact Tree.sub_lt (List.getElem_mem h)
theorem OkI.of {g : Int} {t : Tree} (h : (t.kind = 7 → 0 ≤ t.ix ∧ t.ix ≤ g) ∧ t.subs.length ≤ 1000000) (hs : ∀ x ∈ t.subs, OkI g x) : OkI g t := by
  rw [OkI]
  exact ⟨h, fun i hi => hs _ (List.getElem_mem hi)⟩
theorem okI_of (n : Nat) : ∀ (t : Tree) (g : Int), SizeOf.sizeOf t ≤ n → OkG t → grtT t ≤ g → OkI g t := by
  induction n with
  | zero => exact fun t g h => by obtain ⟨k, r, a, l, m, x, z, i, nn⟩ := t; simp at h
  | succ n ih =>
  intro t g hn h hg
  rw [OkG] at h
  obtain ⟨t1, t2⟩ := grt_top t
  refine OkI.of ⟨fun hk => ⟨h.1.1 hk, by omega⟩, h.1.2⟩ (fun x hx => ?_)
  have h2 := t2 x hx
  have h3 := Tree.sub_lt hx
  obtain ⟨i, hi, rfl⟩ := List.mem_iff_getElem.1 hx
  exact ih _ g (by omega) (h.2 i hi) (by omega)
end Go.Proofs.Ytlaofcgllchedaa
