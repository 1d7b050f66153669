/-
  Mem, View, put together.
-/
import Derived.WalkKit
import Derived.Laws.OwnMore
import Derived.Deep.AppendLies
import Derived.Deep.Draws
import Derived.Maps.AppendAt
import Derived.ProofKit
import Derived.OpenShut
import Derived.ShutString
import Derived.ChangeOld
import Derived.SizedLaws

/-
  Words for memory, used by all walks of this seat: a block known whole ('Cells'), what a call may have turned ('Upd'), a slice that reads as a list of cells ('Reads'). Plain lemmas; nothing of the program.
-/
namespace Go.Proofs.Ytlaofcgllchedaa
open Go.RowKit
set_option linter.unusedVariables false

/-- Block b is just the cells cs, of element type t, none frozen. -/
def Cells (w : World) (b : Nat) (t : TypeId) (cs : Array Value) : Prop := w.heap[b]? = some (.cells cs t (0, 0))

/-- w' is w but for the blocks of F (of those that were there), and new ones. -/
structure Upd (F : Nat → Prop) (w w' : World) : Prop where
  os : w'.os = w.os
  tape : w'.tape = w.tape
  output : w'.output = w.output
  size : w.heap.size ≤ w'.heap.size
  block : ∀ k, k < w.heap.size → ¬ F k → w'.heap[k]? = w.heap[k]?

/-- no block -/
def Nob : Nat → Prop := fun _ => False
theorem not_nob {k : Nat} : ¬ Nob k := fun h => h

namespace Upd
variable {F G : Nat → Prop} {w w' w'' : World}
theorem refl (F : Nat → Prop) (w : World) : Upd F w w := ⟨rfl, rfl, rfl, Nat.le_refl _, fun _ _ _ => rfl⟩
/-- two steps: what the second turned of what was there at first is F's -/
theorem trans (h : Upd F w w') (g : Upd G w' w'') (hs : ∀ k, k < w.heap.size → G k → F k) : Upd F w w'' :=
  ⟨g.os.trans h.os, g.tape.trans h.tape, g.output.trans h.output, Nat.le_trans h.size g.size,
    fun k hk hF => (g.block k (Nat.lt_of_lt_of_le hk h.size) (fun e => hF (hs k hk e))).trans (h.block k hk hF)⟩
theorem mono (h : Upd F w w') (hs : ∀ k, k < w.heap.size → F k → G k) : Upd G w w' := ⟨h.os, h.tape, h.output, h.size, fun k hk hG => h.block k hk (fun e => hG (hs k hk e))⟩
theorem drew (h : Upd F w w') : Upd F w w'.drew := ⟨h.os, h.tape, h.output, h.size, h.block⟩
theorem drewN (h : Upd F w w') (n : Nat) : Upd F w (w'.drewN n) := ⟨h.os, h.tape, h.output, h.size, h.block⟩
theorem alloc (h : Upd F w w') (o : Obj) : Upd F w (w'.alloc o) :=
  ⟨h.os, h.tape, h.output, Nat.le_trans h.size (by simp), fun k hk hF => (Below.heap_alloc _ _ _ (Nat.lt_of_lt_of_le hk h.size)).trans (h.block k hk hF)⟩
theorem setCell (h : Upd F w w') (p : Addr) (u : Value) (hp : p.block < w.heap.size → F p.block) : Upd F w (w'.setCell p u) :=
  ⟨h.os, h.tape, h.output, by simpa [World.setCell] using h.size, fun k hk hF => (Below.heap_setCell _ _ _ _ (fun e => hF (by subst e; exact hp hk))).trans (h.block k hk hF)⟩
theorem grown (h : Upd F w w') {row : Option Nat} (hg : w'.grownBy w'' row) (hr : ∀ k, row = some k → k < w.heap.size → F k) : Upd F w w'' :=
  ⟨hg.os.trans h.os, hg.tape.trans h.tape, hg.output.trans h.output, Nat.le_trans h.size hg.size,
    fun k hk hF => (hg.block k (Nat.lt_of_lt_of_le hk h.size) (fun e => hF (hr k e.symm hk))).trans (h.block k hk hF)⟩
theorem below (h : Upd F w w') {B : Nat} (hB : B ≤ w.heap.size) (hF : ∀ k, k < B → ¬ F k) : Below B w w' :=
  ⟨h.os, h.tape, h.output, h.size, fun k hk => h.block k (Nat.lt_of_lt_of_le hk hB) (hF k hk)⟩
theorem of_below {B : Nat} (h : Below B w w') : Upd (fun k => B ≤ k) w w' := ⟨h.os, h.tape, h.output, h.size, fun k _ hF => h.block k (by omega)⟩
theorem cell (h : Upd F w w') {p : Addr} (hp : p.block < w.heap.size) (hF : ¬ F p.block) : w'.cell? p = w.cell? p := World.cell?_of_block (h.block _ hp hF)
theorem frozen (h : Upd F w w') {p : Addr} (hp : p.block < w.heap.size) (hF : ¬ F p.block) : w'.frozen? p = w.frozen? p := World.frozen?_of_block (h.block _ hp hF)
end Upd

namespace Cells
variable {F : Nat → Prop} {w w' : World} {b : Nat} {t : TypeId} {cs : Array Value}
theorem lt (h : Cells w b t cs) : b < w.heap.size := (Array.getElem?_eq_some_iff.1 h).1
theorem cell (h : Cells w b t cs) (i : Nat) : w.cell? ⟨b, i, none⟩ = cs[i]? := cell_of_row w b i cs t (0, 0) h
theorem cellv (h : Cells w b t cs) {i : Nat} {v : Value} (hi : cs[i]? = some v) : w.cell? ⟨b, i, none⟩ = some v := (h.cell i).trans hi
theorem frozen (h : Cells w b t cs) (i : Nat) : w.frozen? ⟨b, i, none⟩ = false := frozen_of_row w b i cs t h
theorem new (w : World) (t : TypeId) (cs : Array Value) : Cells (w.alloc (.cells cs t)) w.heap.size t cs := heap_alloc_new w _
theorem drew (h : Cells w b t cs) : Cells w.drew b t cs := h
theorem drewN (h : Cells w b t cs) (n : Nat) : Cells (w.drewN n) b t cs := h
theorem alloc (h : Cells w b t cs) (o : Obj) : Cells (w.alloc o) b t cs := (Below.heap_alloc w o b h.lt).trans h
theorem set_ (h : Cells w b t cs) (i : Nat) (u : Value) : Cells (w.setCell ⟨b, i, none⟩ u) b t (cs.setIfInBounds i u) := by
  unfold Cells at h ⊢
  simp [World.setCell, Array.getElem?_modify, h]
theorem far (h : Cells w b t cs) (p : Addr) (u : Value) (hp : b ≠ p.block) : Cells (w.setCell p u) b t cs := (Below.heap_setCell w p u b hp).trans h
theorem upd (h : Cells w b t cs) (hU : Upd F w w') (hF : ¬ F b) : Cells w' b t cs := (hU.block b h.lt hF).trans h
theorem grown (h : Cells w b t cs) {row : Option Nat} (hg : w.grownBy w' row) (hr : row ≠ some b) : Cells w' b t cs := (hg.block b h.lt (fun e => hr e.symm)).trans h
theorem below {B : Nat} (h : Cells w b t cs) (hb : Below B w w') (hB : b < B) : Cells w' b t cs := (hb.block b hB).trans h
theorem ne_ {b' : Nat} {t' : TypeId} {cs' : Array Value} (h : Cells w b t cs) (h' : Cells w b' t' cs') (hne : t ≠ t') : b ≠ b' := by
  rintro rfl
  unfold Cells at h h'
  rw [h] at h'
  injection h' with h'
  injection h' with _ ht
  exact hne ht
end Cells

section
variable {F : Nat → Prop} {w w' : World} {base e size n : Nat} {v : Value} {xs : List Value}
theorem own_shape (h : w.ownsRow base e size v n xs) : ∃ A c, v = .slice A n c := by
  rcases h.2 with ⟨rfl, rfl⟩ | ⟨g, cap, cur, rfl, _⟩
  · exact ⟨_, _, rfl⟩
  · exact ⟨_, _, rfl⟩
theorem own_upd (h : w.ownsRow base e size v n xs) (hU : Upd F w w') (hF : ∀ k, v.ownBlock = some k → ¬ F k) : w'.ownsRow base e size v n xs := by
  refine ⟨h.1, ?_⟩
  rcases h.2 with hn | ⟨g, cap, cur, rfl, hb, hg, r⟩
  · exact .inl hn
  · exact .inr ⟨g, cap, cur, rfl, hb, (hU.block g (Array.getElem?_eq_some_iff.1 hg).1 (hF g rfl)).trans hg, r⟩
theorem own_far (h : w.ownsRow base e size v n xs) (p : Addr) (u : Value) (hp : v.ownBlock ≠ some p.block) : (w.setCell p u).ownsRow base e size v n xs := by
  refine ⟨h.1, ?_⟩
  rcases h.2 with hn | ⟨g, cap, cur, rfl, hb, hg, r⟩
  · exact .inl hn
  · exact .inr ⟨g, cap, cur, rfl, hb, (Below.heap_setCell w p u g (fun e => hp (by simp [Value.ownBlock, e]))).trans hg, r⟩
theorem own_ne {b : Nat} {t : TypeId} {cs : Array Value} (h : w.ownsRow base e size v n xs) (hc : Cells w b t cs) (hne : e ≠ t) : v.ownBlock ≠ some b := by
  rcases h.2 with ⟨rfl, _⟩ | ⟨g', cap, cur, rfl, _, hh, _⟩
  · simp [Value.ownBlock]
  · intro he
    have : g' = b := by simpa [Value.ownBlock] using he
    subst this
    exact Cells.ne_ (t := e) hh hc hne rfl
theorem own_base {base' : Nat} (h : w.ownsRow base e size v n xs) (hb : ∀ g, v.ownBlock = some g → base' ≤ g) : w.ownsRow base' e size v n xs := by
  refine ⟨h.1, ?_⟩
  rcases h.2 with hn | ⟨g, cap, cur, rfl, _, r⟩
  · exact .inl hn
  · exact .inr ⟨g, cap, cur, rfl, hb g rfl, r⟩
/-- the row's block, its whole cells -/
theorem own_cells (h : w.ownsRow base e size v n xs) {g : Nat} (hg : v.ownBlock = some g) : ∃ cur, Cells w g e cur ∧ cur.toList.take (n * size) = xs := by
  rcases h.2 with ⟨rfl, _⟩ | ⟨g', cap, cur, rfl, _, hh, _, _, _, ht⟩
  · simp [Value.ownBlock] at hg
  · have : g' = g := by simpa [Value.ownBlock] using hg
    subst this
    exact ⟨cur, hh, ht⟩
end

theorem add_block (a : Addr) (n : Nat) : (a.add n).block = a.block := by unfold Addr.add; split <;> rfl
theorem add_add_ (a : Addr) (i j : Nat) : (a.add i).add j = a.add (i + j) := by
  unfold Addr.add
  by_cases hi : i = 0 <;> by_cases hj : j = 0 <;> simp [hi, hj, Nat.add_assoc]
theorem add_lit_ (g o n : Nat) : (⟨g, o, none⟩ : Addr).add n = ⟨g, o + n, none⟩ := by unfold Addr.add; split <;> simp_all

/-- The slice '.slice A n c' of elements of so many cells reads as the cells xs, in a block of which P holds. -/
def Reads (w : World) (S : Nat → Prop) (size : Nat) (A : Option Addr) (n : Nat) (xs : List Value) : Prop :=
  xs.length = n * size ∧ (0 < n → ∃ ad, A = some ad ∧ ad.block < w.heap.size ∧ S ad.block ∧ ∀ j u, xs[j]? = some u → w.cell? (ad.add j) = some u)

namespace Reads
variable {S S' F : Nat → Prop} {w w' : World} {size n : Nat} {A : Option Addr} {xs : List Value}
theorem upd (h : Reads w S size A n xs) (hU : Upd F w w') (hF : ∀ k, S k → ¬ F k) : Reads w' S size A n xs :=
  ⟨h.1, fun hn => by
    obtain ⟨ad, e, hb, hs, hc⟩ := h.2 hn
    exact ⟨ad, e, Nat.lt_of_lt_of_le hb hU.size, hs, fun j u hu => (hU.cell (p := ad.add j) (by rw [add_block]; exact hb) (by rw [add_block]; exact hF _ hs)).trans (hc j u hu)⟩⟩
theorem weaken (h : Reads w S size A n xs) (hs : ∀ k, S k → S' k) : Reads w S' size A n xs :=
  ⟨h.1, fun hn => by obtain ⟨ad, e, hb, hs', hc⟩ := h.2 hn; exact ⟨ad, e, hb, hs _ hs', hc⟩⟩
theorem alloc (h : Reads w S size A n xs) (o : Obj) : Reads (w.alloc o) S size A n xs := h.upd (F := Nob) ((Upd.refl _ _).alloc o) (fun _ _ => not_nob)
theorem drew (h : Reads w S size A n xs) : Reads w.drew S size A n xs := h
theorem nil_ : Reads w S size A 0 [] := ⟨by simp, fun h => absurd h (by omega)⟩
theorem of_own {base e c : Nat} (h : w.ownsRow base e size (.slice A n c) n xs) : Reads w (fun k => (Value.slice A n c).ownBlock = some k) size A n xs := by
  refine ⟨h.1, fun hn => ?_⟩
  rcases h.2 with ⟨_, rfl⟩ | ⟨g, cap, cur, hv, hb, hg, _⟩
  · omega
  · obtain ⟨rfl, _, rfl⟩ : A = some ⟨g, 0, none⟩ ∧ n = n ∧ c = cap := by injection hv with a b c; exact ⟨a, b, c⟩
    exact ⟨_, rfl, (Array.getElem?_eq_some_iff.1 hg).1, rfl, h.cells rfl⟩
theorem at1 (h : Reads w S 1 A n xs) {k : Nat} (hk : k < n) : ∃ ad u, A = some ad ∧ ad.block < w.heap.size ∧ S ad.block ∧ xs[k]? = some u ∧ w.cell? (ad.add k) = some u := by
  obtain ⟨ad, e, hb, hs, hc⟩ := h.2 (by omega)
  have hl : k < xs.length := by have := h.1; omega
  exact ⟨ad, xs[k], e, hb, hs, List.getElem?_eq_getElem hl, hc k _ (List.getElem?_eq_getElem hl)⟩
end Reads
end Go.Proofs.Ytlaofcgllchedaa

/-
  From the row's reading of an argument to the words of XMem: a slice of integers.
-/
namespace Go.Proofs.Ytlaofcgllchedaa
open Go.ChangeShapes Go.WideShapes Go.ChangeAt Go.RowKit
set_option linter.unusedVariables false

def intv (xs : List Int) : List Value := xs.map (Value.int .i64)
theorem intv_at {xs : List Int} {k : Nat} {x : Int} (h : xs[k]? = some x) : (intv xs)[k]? = some (.int .i64 x) := by simp [intv, h]
theorem intv_length (xs : List Int) : (intv xs).length = xs.length := by simp [intv]
theorem intv_append (xs ys : List Int) : intv (xs ++ ys) = intv xs ++ intv ys := by simp [intv]
theorem intv_one (xs : List Int) : ∀ u ∈ intv xs, u.oneCell' = true := by
  intro u hu
  simp only [intv, List.mem_map] at hu
  obtain ⟨_, _, rfl⟩ := hu
  rfl
theorem Reads.int1 {w : World} {S : Nat → Prop} {A : Option Addr} {n k : Nat} {xs : List Int} (h : Reads w S 1 A n (intv xs)) (hk : k < n) :
    ∃ ad x, A = some ad ∧ xs[k]? = some x ∧ w.cell? (ad.add k) = some (.int .i64 x) := by
  obtain ⟨ad, u, e, _, _, hu, hc⟩ := h.at1 hk
  simp only [intv, List.getElem?_map, Option.map_eq_some_iff] at hu
  obtain ⟨x, hx, rfl⟩ := hu
  exact ⟨ad, x, e, hx, hc⟩

/-- an int64 -/
def In64 (x : Int) : Prop := -9223372036854775808 ≤ x ∧ x ≤ 9223372036854775807
theorem in64_of_wf {x : Int} (h : (Lit.int .i64 x).wf = true) : In64 x := by
  unfold In64
  simp [Lit.wf, IntKind.min, IntKind.max, IntKind.signed, IntKind.bits] at h
  omega

section
variable {H : Type} {enc : TypeId × Value → H} {P : Program} {W : World} {t e : TypeId} {A : Option Addr} {n c : Nat} {d : DataW H} {p : List MemPlace}

/-- how many places a slice's datum has, spare ones too -/
def places (d : DataW H) : Nat := match d with | .slice es sp => es.length + sp.length | _ => 0

theorem view_ints (ht : P.underlying t = some (.slice e)) (he : P.underlying e = some (.int .i64)) (hc : P.cellsOf e = 1)
    (h : DataW.Trod enc P W 0 (fun _ => true) true t (.slice A n c) d p) :
    ∃ xs : List Int, Reads W (· < W.heap.size) 1 A n (intv xs) ∧ (∀ x ∈ xs, In64 x) ∧ n ≤ c ∧ c = places d ∧ (d = .nil ∨ ∃ es sp, d = .slice es sp) := by
  obtain ⟨fuel, hf⟩ := h
  rcases open_ints ht he hc hf with ⟨hcs, hx⟩ | ⟨a, len, cap, zs, hcs, _, hl, hm, hz, hx, hcell, hwz⟩
  · simp only [Value.cells, List.cons.injEq, and_true, Value.slice.injEq] at hcs
    obtain ⟨rfl, rfl, rfl⟩ := hcs
    injection hx with hx _
    subst hx
    exact ⟨[], Reads.nil_, by simp, Nat.le_refl _, rfl, .inl rfl⟩
  · simp only [Value.cells, List.cons.injEq, and_true, Value.slice.injEq] at hcs
    obtain ⟨rfl, rfl, rfl⟩ := hcs
    injection hx with hx _
    subst hx
    simp only [if_true] at hz
    refine ⟨zs.take n, ⟨by simp [intv]; omega, fun hn => ?_⟩, fun x hx => in64_of_wf (hwz x (List.mem_of_mem_take hx)), hl, ?_, .inr ⟨_, _, rfl⟩⟩
    · have h0 := hcell 0 (by omega)
      have hb := World.block_lt_of_cell? W _ h0
      rw [add_block] at hb
      refine ⟨a, rfl, hb, hb, fun j u hu => ?_⟩
      simp only [intv, List.getElem?_map, Option.map_eq_some_iff] at hu
      obtain ⟨x, hx, rfl⟩ := hu
      rw [List.getElem?_take] at hx
      split at hx
      · rw [hcell j (by omega)]
        simp [List.getD, hx]
      · cases hx
    · simp [places, lits]; omega
end
end Go.Proofs.Ytlaofcgllchedaa
