/-
  Trees, plain.
-/
import Derived.Test.YtlaofcgllchedaaRight
import Derived.Deep.RegionHeld3
namespace Go.Proofs.Ytlaofcgllchedaa
open Go.RowKit
set_option linter.unusedVariables false

/-- a tree: its node's fields -/
inductive Tree where
  | mk (kind : Int) (rs : List (Int × Int)) (am : Int) (subs : List Tree) (mn mx : Int) (lz : Bool) (ix : Int) (nm : ByteArray)

namespace Tree
def kind : Tree → Int | .mk k .. => k
def rs : Tree → List (Int × Int) | .mk _ r .. => r
def am : Tree → Int | .mk _ _ a .. => a
def subs : Tree → List Tree | .mk _ _ _ s .. => s
def mn : Tree → Int | .mk _ _ _ _ m .. => m
def mx : Tree → Int | .mk _ _ _ _ _ m .. => m
def lz : Tree → Bool | .mk _ _ _ _ _ _ l .. => l
def ix : Tree → Int | .mk _ _ _ _ _ _ _ i _ => i
def nm : Tree → ByteArray | .mk _ _ _ _ _ _ _ _ n => n
end Tree
theorem Tree.sub_lt {t s : Tree} (h : s ∈ t.subs) : SizeOf.sizeOf s < SizeOf.sizeOf t := by
  obtain ⟨k, r, a, l, m, x, z, i, n⟩ := t
  have := List.sizeOf_lt_of_mem (show s ∈ l from h)
  simp
  omega

structure TreeOk (t : Tree) : Prop where
  k : In64 t.kind
  a : In64 t.am
  m : In64 t.mn
  x : In64 t.mx
  i : In64 t.ix
  n : t.subs.length ≤ 140737488355328
  s : t.nm.size ≤ 140737488355328

def nodeCells (t : Tree) (RA : Option Addr) (rc : Nat) (SA : Option Addr) (sc : Nat) : Array Value :=
  #[.int .i64 t.kind, .slice RA t.rs.length rc, .int .i64 t.am, .slice SA t.subs.length sc, .int .i64 t.mn, .int .i64 t.mx, .bool t.lz, .int .i64 t.ix, .string t.nm]

/-- The node's nine values read as the tree; all of its lists lie in blocks of which S holds. -/
def NodeR (w : World) (S : Nat → Prop) (cs : Array Value) (t : Tree) : Prop :=
  ∃ RA rc SA sc, cs = nodeCells t RA rc SA sc ∧ RangesR w S RA t.rs.length t.rs ∧ TreeOk t ∧
    ∀ i (h : i < t.subs.length), ∃ ad g o cs', SA = some ad ∧ ad.add (i * 9) = ⟨g, o, none⟩ ∧ S g ∧ g < w.heap.size ∧ (∀ j v, cs'[j]? = some v → w.cell? ⟨g, o + j, none⟩ = some v) ∧ NodeR w S cs' t.subs[i]
termination_by SizeOf.sizeOf t
decreasing_by exact Tree.sub_lt (List.getElem_mem h)

theorem RangesR.weaken_ {w : World} {S S' : Nat → Prop} {A : Option Addr} {n : Nat} {rs : List (Int × Int)} (h : RangesR w S A n rs) (hS : ∀ k, S k → S' k) : RangesR w S' A n rs := ⟨h.r.weaken hS, h.i, h.n⟩

theorem NodeR.upd {F : Nat → Prop} {w w' : World} {S S' : Nat → Prop} (hU : Upd F w w') (hS : ∀ k, S k → S' k) (hF : ∀ k, S k → ¬ F k) : ∀ (n : Nat) (t : Tree) (cs : Array Value), SizeOf.sizeOf t ≤ n → NodeR w S cs t → NodeR w' S' cs t
  | 0, t, cs, hn, h => by obtain ⟨k, r, a, l, m, x, z, i, nn⟩ := t; simp at hn
  | n + 1, t, cs, hn, h => by
    rw [NodeR] at h ⊢
    obtain ⟨RA, rc, SA, sc, hc, hr, ho, hs⟩ := h
    refine ⟨RA, rc, SA, sc, hc, (hr.upd hU hF).weaken_ hS, ho, fun i hi => ?_⟩
    obtain ⟨ad, g, o, cs', h1, h2, h3, h4, h5, h6⟩ := hs i hi
    refine ⟨ad, g, o, cs', h1, h2, hS g h3, Nat.lt_of_lt_of_le h4 hU.size, fun j v hv => (hU.cell (p := ⟨g, o + j, none⟩) h4 (hF _ h3)).trans (h5 j v hv), ?_⟩
    exact NodeR.upd hU hS hF n _ _ (by have := Tree.sub_lt (List.getElem_mem hi); omega) h6
theorem NodeR.upd_ {F : Nat → Prop} {w w' : World} {S : Nat → Prop} {cs : Array Value} {t : Tree} (h : NodeR w S cs t) (hU : Upd F w w') (hF : ∀ k, S k → ¬ F k) : NodeR w' S cs t := NodeR.upd hU (fun _ h => h) hF _ t cs (Nat.le_refl _) h
theorem NodeR.weaken {w : World} {S S' : Nat → Prop} {cs : Array Value} {t : Tree} (h : NodeR w S cs t) (hS : ∀ k, S k → S' k) : NodeR w S' cs t := NodeR.upd (Upd.refl Nob w) hS (fun _ _ => not_nob) _ t cs (Nat.le_refl _) h

theorem RangesR.lower_ {w : World} {S : Nat → Prop} {A : Option Addr} {n : Nat} {rs : List (Int × Int)} (h : RangesR w S A n rs) : RangesR w (fun k => k < w.heap.size) A n rs :=
  ⟨⟨h.r.1, fun hn => by obtain ⟨ad, e, hb, hs, hc⟩ := h.r.2 hn; exact ⟨ad, e, hb, hb, hc⟩⟩, h.i, h.n⟩
theorem NodeR.lower_go {w : World} {S : Nat → Prop} : ∀ (n : Nat) (t : Tree) (cs : Array Value), SizeOf.sizeOf t ≤ n → NodeR w S cs t → NodeR w (fun k => k < w.heap.size) cs t
  | 0, t, cs, hn, h => by obtain ⟨k, r, a, l, m, x, z, i, nn⟩ := t; simp at hn
  | n + 1, t, cs, hn, h => by
    rw [NodeR] at h ⊢
    obtain ⟨RA, rc, SA, sc, hc, hr, ho, hs⟩ := h
    refine ⟨RA, rc, SA, sc, hc, hr.lower_, ho, fun i hi => ?_⟩
    obtain ⟨ad, g, o, cs', h1, h2, h3, h4, h5, h6⟩ := hs i hi
    exact ⟨ad, g, o, cs', h1, h2, h4, h4, h5, NodeR.lower_go n _ _ (by have := Tree.sub_lt (List.getElem_mem hi); omega) h6⟩
theorem NodeR.lower {w : World} {S : Nat → Prop} {cs : Array Value} {t : Tree} (h : NodeR w S cs t) : NodeR w (fun k => k < w.heap.size) cs t := NodeR.lower_go _ t cs (Nat.le_refl _) h

/-- the node's own fields -/
theorem NodeR.top {w : World} {S : Nat → Prop} {cs : Array Value} {t : Tree} (h : NodeR w S cs t) : ∃ RA rc SA sc, cs = nodeCells t RA rc SA sc ∧ RangesR w S RA t.rs.length t.rs ∧ TreeOk t ∧
    ∀ i x, t.subs[i]? = some x → ∃ ad g o cs', SA = some ad ∧ ad.add (i * 9) = ⟨g, o, none⟩ ∧ S g ∧ g < w.heap.size ∧ (∀ j v, cs'[j]? = some v → w.cell? ⟨g, o + j, none⟩ = some v) ∧ NodeR w S cs' x := by
  rw [NodeR] at h
  obtain ⟨RA, rc, SA, sc, hc, hr, ho, hs⟩ := h
  refine ⟨RA, rc, SA, sc, hc, hr, ho, fun i x hx => ?_⟩
  obtain ⟨hi, rfl⟩ := List.getElem?_eq_some_iff.1 hx
  exact hs i hi
theorem NodeR.of {w : World} {S : Nat → Prop} {t : Tree} {RA : Option Addr} {rc : Nat} {SA : Option Addr} {sc : Nat} (hr : RangesR w S RA t.rs.length t.rs) (ho : TreeOk t)
    (hs : ∀ i x, t.subs[i]? = some x → ∃ ad g o cs', SA = some ad ∧ ad.add (i * 9) = ⟨g, o, none⟩ ∧ S g ∧ g < w.heap.size ∧ (∀ j v, cs'[j]? = some v → w.cell? ⟨g, o + j, none⟩ = some v) ∧ NodeR w S cs' x) : NodeR w S (nodeCells t RA rc SA sc) t := by
  rw [NodeR]
  exact ⟨RA, rc, SA, sc, rfl, hr, ho, fun i hi => hs i _ (List.getElem?_eq_getElem hi)⟩
theorem NodeR.open_ {w : World} {S : Nat → Prop} {t : Tree} {RA : Option Addr} {rc : Nat} {SA : Option Addr} {sc : Nat} (h : NodeR w S (nodeCells t RA rc SA sc) t) : RangesR w S RA t.rs.length t.rs ∧ TreeOk t ∧
    ∀ i x, t.subs[i]? = some x → ∃ ad g o cs', SA = some ad ∧ ad.add (i * 9) = ⟨g, o, none⟩ ∧ S g ∧ g < w.heap.size ∧ (∀ j v, cs'[j]? = some v → w.cell? ⟨g, o + j, none⟩ = some v) ∧ NodeR w S cs' x := by
  obtain ⟨RA', rc', SA', sc', hc, hr, ho, hs⟩ := h.top
  simp only [nodeCells, Array.mk.injEq, List.cons.injEq, Value.slice.injEq, true_and, and_true] at hc
  obtain ⟨⟨rfl, rfl⟩, rfl, rfl⟩ := hc
  exact ⟨hr, ho, hs⟩
/-- a sub: its cells written out -/
theorem NodeR.sub {w : World} {S : Nat → Prop} {t : Tree} {SA : Option Addr} (hs : ∀ i x, t.subs[i]? = some x → ∃ ad g o cs', SA = some ad ∧ ad.add (i * 9) = ⟨g, o, none⟩ ∧ S g ∧ g < w.heap.size ∧ (∀ j v, cs'[j]? = some v → w.cell? ⟨g, o + j, none⟩ = some v) ∧ NodeR w S cs' x) {i : Nat} (hi : i < t.subs.length) :
    ∃ ad g o x PA pc QA qc, SA = some ad ∧ ad.add (i * 9) = ⟨g, o, none⟩ ∧ S g ∧ g < w.heap.size ∧ t.subs[i]? = some x ∧ NodeR w S (nodeCells x PA pc QA qc) x ∧ SizeOf.sizeOf x < SizeOf.sizeOf t ∧ (∀ j v, (nodeCells x PA pc QA qc)[j]? = some v → w.cell? ⟨g, o + j, none⟩ = some v) := by
  have hx := List.getElem?_eq_getElem hi
  obtain ⟨ad, g, o, cs', h1, h2, h3, h4, h5, h6⟩ := hs i _ hx
  obtain ⟨PA, pc, QA, qc, rfl, _⟩ := h6.top
  exact ⟨ad, g, o, _, PA, pc, QA, qc, h1, h2, h3, h4, hx, h6, Tree.sub_lt (List.getElem_mem hi), h5⟩
/-- a sub's nine cells -/
theorem sub_cells {w : World} {g o : Nat} {t : Tree} {RA : Option Addr} {rc : Nat} {SA : Option Addr} {sc : Nat} (h : ∀ j v, (nodeCells t RA rc SA sc)[j]? = some v → w.cell? ⟨g, o + j, none⟩ = some v) :
    w.cell? ⟨g, o, none⟩ = some (.int .i64 t.kind) ∧ w.cell? ⟨g, o + 1, none⟩ = some (.slice RA t.rs.length rc) ∧ w.cell? ⟨g, o + 2, none⟩ = some (.int .i64 t.am) ∧ w.cell? ⟨g, o + 3, none⟩ = some (.slice SA t.subs.length sc) ∧ w.cell? ⟨g, o + 4, none⟩ = some (.int .i64 t.mn) ∧
    w.cell? ⟨g, o + 5, none⟩ = some (.int .i64 t.mx) ∧ w.cell? ⟨g, o + 6, none⟩ = some (.bool t.lz) ∧ w.cell? ⟨g, o + 7, none⟩ = some (.int .i64 t.ix) ∧ w.cell? ⟨g, o + 8, none⟩ = some (.string t.nm) :=
  ⟨h 0 _ rfl, h 1 _ rfl, h 2 _ rfl, h 3 _ rfl, h 4 _ rfl, h 5 _ rfl, h 6 _ rfl, h 7 _ rfl, h 8 _ rfl⟩
end Go.Proofs.Ytlaofcgllchedaa
