/-
  Six stacks at once: two of the program's ints in one block, two of the document's in another, one of texts, one of lists: what each holds, that their rows lie apart, and that the lists' own blocks lie apart from them.
-/
import Derived.Test.YtpfhljcihfabbaaText
namespace Go.Proofs.Ytpfhljcihfabbaa
open Go.RowKit
set_option linter.unusedVariables false

def bI : Nat → Nat | 0 => 0 | 1 => 0 | 2 => 1 | 3 => 1 | 4 => 2 | _ => 3
def offI : Nat → Nat | 0 => 0 | 1 => 2 | 2 => 0 | 3 => 2 | _ => 0
def tyB : Nat → TypeId | 0 => 32 | 1 => 35 | 2 => 38 | _ => 41
def elT : Nat → TypeId | 0 => 3 | 1 => 3 | 2 => 3 | 3 => 3 | 4 => 9 | _ => 22
def fset {α : Type} (f : Nat → α) (i : Nat) (v : α) : Nat → α := fun j => if j = i then v else f j
theorem fset_same {α : Type} (f : Nat → α) (i : Nat) (v : α) : fset f i v i = v := by simp [fset]
theorem fset_ne {α : Type} (f : Nat → α) {i j : Nat} (v : α) (h : j ≠ i) : fset f i v j = f j := by simp [fset, h]
theorem tyB_ne : ∀ i j, i < 4 → j < 4 → i ≠ j → tyB i ≠ tyB j := fun i j hi hj => (by decide : ∀ i, i < 4 → ∀ j, j < 4 → i ≠ j → tyB i ≠ tyB j) i hi j hj
theorem tyB_el : ∀ i j, i < 4 → j < 6 → tyB i ≠ elT j := fun i j hi hj => (by decide : ∀ i, i < 4 → ∀ j, j < 6 → tyB i ≠ elT j) i hi j hj
theorem bI_lt : ∀ i, i < 6 → bI i < 4 := by decide
theorem off_apart : ∀ i j, i < 6 → j < 6 → i ≠ j → bI i = bI j → offI i ≠ offI j ∧ offI i ≠ offI j + 1 ∧ offI i + 1 ≠ offI j := by
  intro i j hi hj h1 h2
  rcases (by omega : i = 0 ∨ i = 1 ∨ i = 2 ∨ i = 3 ∨ i = 4 ∨ i = 5) with rfl | rfl | rfl | rfl | rfl | rfl <;>
    rcases (by omega : j = 0 ∨ j = 1 ∨ j = 2 ∨ j = 3 ∨ j = 4 ∨ j = 5) with rfl | rfl | rfl | rfl | rfl | rfl <;> first | (exact absurd rfl h1) | (exact absurd h2 (by decide)) | (exact ⟨by decide, by decide, by decide⟩)

/-- what a call leaves of one stack -/
structure StkQ (w w' : World) (base b off : Nat) (t : TypeId) (cs : Array Value) (A : Option Addr) (n c : Nat) (e : TypeId) (n' : Nat) (xs' : List Value) (m' : Int) : Prop where
  ex : ∃ A' c', Cells w' b t ((cs.setIfInBounds off (.slice A' n' c')).setIfInBounds (off+1) (.int .i64 m')) ∧ w'.ownsRow base e 1 (.slice A' n' c') n' xs' ∧
    (∀ k, k < w.heap.size → (Value.slice A' n' c').ownBlock = some k → (Value.slice A n c).ownBlock = some k)
  upd : Upd (fun k => k = b ∨ (Value.slice A n c).ownBlock = some k) w w'
theorem StkP.q {w w' : World} {base b off : Nat} {t : TypeId} {cs : Array Value} {A : Option Addr} {n c : Nat} {e : TypeId} {n' : Nat} {xs' : List Value} {m' : Int} (h : StkP w w' base b off t cs A n c e n' xs' m') : StkQ w w' base b off t cs A n c e n' xs' m' := by
  obtain ⟨⟨A1, c1, hc1, ho1, hb1⟩, hU⟩ := h
  refine ⟨⟨A1, c1, hc1, ho1, fun k hk he => ?_⟩, hU⟩
  rcases hb1 with hb1 | ⟨g, hg, hge⟩
  · rw [← hb1]; exact he
  · rw [hg] at he; injection he with he; omega

structure StE (w : World) (base : Nat) (bk : Nat → Nat) (CS : Nat → Array Value) (A : Nat → Option Addr) (c : Nat → Nat) (X : Nat → List Value) (M : Nat → Int) (K : Nat → TypeId → Array Value → Prop) : Prop where
  cells : ∀ j, j < 4 → Cells w (bk j) (tyB j) (CS j)
  newb : ∀ j, j < 4 → base ≤ bk j
  sl : ∀ i, i < 6 → (CS (bI i))[offI i]? = some (.slice (A i) (X i).length (c i))
  mo : ∀ i, i < 6 → (CS (bI i))[offI i + 1]? = some (.int .i64 (M i))
  own : ∀ i, i < 6 → w.ownsRow base (elT i) 1 (.slice (A i) (X i).length (c i)) (X i).length (X i)
  sep : ∀ i j, i < 6 → j < 6 → i ≠ j → ∀ k, (Value.slice (A i) (X i).length (c i)).ownBlock = some k → (Value.slice (A j) (X j).length (c j)).ownBlock ≠ some k
  kept : ∀ g t cs, K g t cs → Cells w g t cs ∧ base ≤ g ∧ (∀ i, i < 6 → (Value.slice (A i) (X i).length (c i)).ownBlock ≠ some g) ∧ ∀ j, j < 4 → g ≠ bk j

namespace StE
variable {w w' : World} {base : Nat} {bk : Nat → Nat} {CS : Nat → Array Value} {A : Nat → Option Addr} {c : Nat → Nat} {X : Nat → List Value} {M : Nat → Int} {K : Nat → TypeId → Array Value → Prop}
theorem congr {X' : Nat → List Value} {M' : Nat → Int} {K' : Nat → TypeId → Array Value → Prop} (h : StE w base bk CS A c X M K) (hX : ∀ i, i < 6 → X i = X' i) (hM : ∀ i, i < 6 → M i = M' i) (hK : ∀ g t cs, K' g t cs → K g t cs) : StE w base bk CS A c X' M' K' where
  cells := h.cells
  newb := h.newb
  sl i hi := by rw [← hX i hi]; exact h.sl i hi
  mo i hi := by rw [← hM i hi]; exact h.mo i hi
  own i hi := by rw [← hX i hi]; exact h.own i hi
  sep i j hi hj hij := by rw [← hX i hi, ← hX j hj]; exact h.sep i j hi hj hij
  kept g t cs hk := by
    obtain ⟨a, b, d, e⟩ := h.kept g t cs (hK g t cs hk)
    exact ⟨a, b, fun i hi => by rw [← hX i hi]; exact d i hi, e⟩
/-- a world in which no old block has turned -/
theorem upd (h : StE w base bk CS A c X M K) (hU : Upd Nob w w') : StE w' base bk CS A c X M K where
  cells j hj := (h.cells j hj).upd hU not_nob
  newb := h.newb
  sl := h.sl
  mo := h.mo
  own i hi := own_upd (h.own i hi) hU (fun _ _ => not_nob)
  sep := h.sep
  kept g t cs hk := by
    obtain ⟨a, b, d, e⟩ := h.kept g t cs hk
    exact ⟨a.upd hU not_nob, b, d, e⟩
theorem alloc (h : StE w base bk CS A c X M K) (o : Obj) : StE (w.alloc o) base bk CS A c X M K := h.upd ((Upd.refl _ _).alloc o)
theorem drewN (h : StE w base bk CS A c X M K) (q : Nat) : StE (w.drewN q) base bk CS A c X M K := h.upd ((Upd.refl _ _).drewN q)
/-- a new block is kept -/
theorem keep (h : StE w base bk CS A c X M K) (t : TypeId) (cs : Array Value) (hb : base ≤ w.heap.size) :
    StE (w.alloc (.cells cs t)) base bk CS A c X M (fun g' t' cs' => K g' t' cs' ∨ (g' = w.heap.size ∧ t' = t ∧ cs' = cs)) where
  cells := (h.alloc _).cells
  newb := h.newb
  sl := h.sl
  mo := h.mo
  own := (h.alloc _).own
  sep := h.sep
  kept g' t' cs' hk := by
    rcases hk with hk | ⟨rfl, rfl, rfl⟩
    · exact (h.alloc _).kept g' t' cs' hk
    · refine ⟨Cells.new _ _ _, hb, fun i hi e => ?_, fun j hj e => ?_⟩
      · have := ((h.own i hi).lt _ e).2; omega
      · have := (h.cells j hj).lt; omega
/-- one of the six has turned -/
theorem step (h : StE w base bk CS A c X M K) (i : Nat) (hi : i < 6) {n' : Nat} {xs' : List Value} {m' : Int} (hn : n' = xs'.length)
    (hs : StkQ w w' base (bk (bI i)) (offI i) (tyB (bI i)) (CS (bI i)) (A i) (X i).length (c i) (elT i) n' xs' m') (hbase : base ≤ w.heap.size) :
    ∃ CS' A' c', StE w' base bk CS' A' c' (fset X i xs') (fset M i m') K := by
  subst hn
  obtain ⟨⟨A1, c1, hc1, ho1, hnew⟩, hU⟩ := hs
  have hbi := bI_lt i hi
  have hlo := (Array.getElem?_eq_some_iff.1 (h.sl i hi)).1
  have hlo1 := (Array.getElem?_eq_some_iff.1 (h.mo i hi)).1
  -- the blocks that it may have turned
  have hblk : ∀ j, j < 4 → j ≠ bI i → ¬ (bk j = bk (bI i) ∨ (Value.slice (A i) (X i).length (c i)).ownBlock = some (bk j)) := by
    intro j hj hne he
    rcases he with he | he
    · exact Cells.ne_ (h.cells j hj) (h.cells (bI i) hbi) (tyB_ne j (bI i) hj hbi hne) he
    · exact own_ne (h.own i hi) (h.cells j hj) (tyB_el j i hj hi).symm he
  have hrow : ∀ j, j < 6 → j ≠ i → ∀ k, (Value.slice (A j) (X j).length (c j)).ownBlock = some k → ¬ (k = bk (bI i) ∨ (Value.slice (A i) (X i).length (c i)).ownBlock = some k) := by
    intro j hj hne k hk he
    rcases he with rfl | he
    · exact own_ne (h.own j hj) (h.cells (bI i) hbi) (tyB_el (bI i) j hbi hj).symm hk
    · exact h.sep i j hi hj (fun e => hne e.symm) k he hk
  have hlt : ∀ j, j < 6 → ∀ k, (Value.slice (A j) (X j).length (c j)).ownBlock = some k → k < w.heap.size := fun j hj k hk => ((h.own j hj).lt k hk).2
  refine ⟨fset CS (bI i) (((CS (bI i)).setIfInBounds (offI i) (.slice A1 xs'.length c1)).setIfInBounds (offI i + 1) (.int .i64 m')), fset A i A1, fset c i c1, ?_⟩
  constructor
  · intro j hj
    by_cases hji : j = bI i
    · subst hji; rw [fset_same]; exact hc1
    · rw [fset_ne _ _ hji]; exact (h.cells j hj).upd hU (hblk j hj hji)
  · exact h.newb
  · intro j hj
    by_cases hji : j = i
    · subst hji
      rw [fset_same, fset_same, fset_same, fset_same, Array.getElem?_setIfInBounds_ne (by omega), Array.getElem?_setIfInBounds_self_of_lt hlo]
    · rw [fset_ne _ _ hji, fset_ne _ _ hji, fset_ne _ _ hji]
      by_cases hb : bI j = bI i
      · obtain ⟨q1, q2, q3⟩ := off_apart j i hj hi hji hb
        rw [hb, fset_same, Array.getElem?_setIfInBounds_ne (by omega), Array.getElem?_setIfInBounds_ne (by omega), ← hb]
        exact h.sl j hj
      · rw [fset_ne _ _ hb]; exact h.sl j hj
  · intro j hj
    by_cases hji : j = i
    · subst hji
      rw [fset_same, fset_same, Array.getElem?_setIfInBounds_self_of_lt (by simpa using hlo1)]
    · rw [fset_ne _ _ hji]
      by_cases hb : bI j = bI i
      · obtain ⟨q1, q2, q3⟩ := off_apart j i hj hi hji hb
        rw [hb, fset_same, Array.getElem?_setIfInBounds_ne (by omega), Array.getElem?_setIfInBounds_ne (by omega), ← hb]
        exact h.mo j hj
      · rw [fset_ne _ _ hb]; exact h.mo j hj
  · intro j hj
    by_cases hji : j = i
    · subst hji; rw [fset_same, fset_same, fset_same]; exact ho1
    · rw [fset_ne _ _ hji, fset_ne _ _ hji, fset_ne _ _ hji]; exact own_upd (h.own j hj) hU (hrow j hj hji)
  · intro a b ha hb hab k hk
    by_cases hai : a = i
    · subst hai
      have hba : b ≠ a := fun e => hab e.symm
      rw [fset_same, fset_same, fset_same] at hk
      rw [fset_ne _ _ hba, fset_ne _ _ hba, fset_ne _ _ hba]
      intro hk2
      exact h.sep b a hb ha hba k hk2 (hnew k (hlt b hb k hk2) hk)
    · rw [fset_ne _ _ hai, fset_ne _ _ hai, fset_ne _ _ hai] at hk
      by_cases hbi' : b = i
      · subst hbi'
        rw [fset_same, fset_same, fset_same]
        intro hk2
        exact h.sep a b ha hb hab k hk (hnew k (hlt a ha k hk) hk2)
      · rw [fset_ne _ _ hbi', fset_ne _ _ hbi', fset_ne _ _ hbi']
        exact h.sep a b ha hb hab k hk
  · intro g t cs hk
    obtain ⟨a, b, d, e0⟩ := h.kept g t cs hk
    refine ⟨a.upd hU ?_, b, ?_, e0⟩
    · rintro (e | e)
      · exact e0 _ hbi e
      · exact d i hi e
    · intro j hj
      by_cases hji : j = i
      · subst hji
        rw [fset_same, fset_same, fset_same]
        intro e
        exact d j hj (hnew g a.lt e)
      · rw [fset_ne _ _ hji, fset_ne _ _ hji, fset_ne _ _ hji]; exact d j hj
end StE
end Go.Proofs.Ytpfhljcihfabbaa
