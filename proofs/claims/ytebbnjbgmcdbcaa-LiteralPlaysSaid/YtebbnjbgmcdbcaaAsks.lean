/-
  What is asked of the finders, in memory, and from the row's reading.
-/
import Derived.Test.YtebbnjbgmcdbcaaNest
import Derived.Test.YtebbnjbgmcdbcaaInsts
namespace Go.Proofs.Ytebbnjbgmcdbcaa
open Go.ChangeShapes Go.WideShapes Go.ChangeAt Go.RowKit Go.Deep
set_option linter.unusedVariables false

structure PAsk where
  text : List Int
  place : Int
  two : Bool
instance : Inhabited PAsk := ⟨⟨[], 0, false⟩⟩

structure AsksR (w : World) (S : Nat → Prop) (A : Option Addr) (n : Nat) (asks : List PAsk) : Prop where
  len : asks.length = n
  at_ : ∀ (i : Nat) (x : PAsk), asks[i]? = some x → ∃ ad g o B m c, A = some ad ∧ ad.add (i * 3) = ⟨g, o, none⟩ ∧ S g ∧ g < w.heap.size ∧ w.cell? ⟨g, o, none⟩ = some (.slice B m c) ∧ w.cell? ⟨g, o + 1, none⟩ = some (.int .i64 x.place) ∧ w.cell? ⟨g, o + 2, none⟩ = some (.bool x.two) ∧
    Reads w S 1 B m (intv x.text) ∧ In64 x.place ∧ m * 8 ≤ 140737488351232

theorem AsksR.upd {w w' : World} {S F : Nat → Prop} {A : Option Addr} {n : Nat} {asks : List PAsk} (h : AsksR w S A n asks) (hU : Upd F w w') (hF : ∀ k, S k → ¬ F k) : AsksR w' S A n asks :=
  ⟨h.len, fun i x hx => by
    obtain ⟨ad, g, o, B, m, c, e, e2, hs, hg, c0, c1, c2, hr, hi, hm⟩ := h.at_ i x hx
    have key : ∀ (j : Nat) (v : Value), w.cell? ⟨g, j, none⟩ = some v → w'.cell? ⟨g, j, none⟩ = some v := fun j v hv => (hU.cell (p := ⟨g, j, none⟩) hg (hF _ hs)).trans hv
    exact ⟨ad, g, o, B, m, c, e, e2, hs, Nat.lt_of_lt_of_le hg hU.size, key _ _ c0, key _ _ c1, key _ _ c2, hr.upd hU hF, hi, hm⟩⟩

section
variable {H : Type} {enc : TypeId × Value → H} {P : Program} {W : World}
theorem view_asks {t e ti : TypeId} {f0 f1 f2 : Field} {A : Option Addr} {n c : Nat} {d : DataW H} {p : List MemPlace} (ht : P.underlying t = some (.slice e)) (he : P.underlying e = some (.struct #[f0, f1, f2])) (hone : oneCellFields P #[f0, f1, f2] = true) (hC : P.cellsOf e = 3)
    (k0 : P.underlying f0.type = some (.slice ti)) (ki : P.underlying ti = some (.int .i64)) (kc : P.cellsOf ti = 1) (kb : P.bytesOf ti = 8) (k1 : P.underlying f1.type = some (.int .i64)) (k2 : P.underlying f2.type = some .bool)
    (h : DataW.Trod enc P W 0 (fun _ => true) true t (.slice A n c) d p) (hL : Light P t d) :
    ∃ asks, AsksR W (· < W.heap.size) A n asks ∧ n * P.bytesOf e ≤ reachBytes := by
  rcases open_structs ht he hone hC h with ⟨rfl, rfl, rfl, rfl⟩ | ⟨a, es, sp, rfl, hnc, rfl, hlen, hi⟩
  · exact ⟨[], ⟨rfl, fun i x hx => by simp at hx⟩, by simp⟩
  have hnb : n * P.bytesOf e ≤ reachBytes := Nat.le_trans (Nat.mul_le_mul_right _ hnc) (by rw [← hlen]; exact light_len ht hL)
  obtain ⟨V, hV⟩ := choose_lt (α := PAsk) (n := n) (p := fun i x => ∃ g o B m c, a.add (i * 3) = ⟨g, o, none⟩ ∧ g < W.heap.size ∧ W.cell? ⟨g, o, none⟩ = some (.slice B m c) ∧ W.cell? ⟨g, o + 1, none⟩ = some (.int .i64 x.place) ∧ W.cell? ⟨g, o + 2, none⟩ = some (.bool x.two) ∧
    Reads W (· < W.heap.size) 1 B m (intv x.text) ∧ In64 x.place ∧ m * 8 ≤ 140737488351232) (fun i hin => by
      obtain ⟨parts, hmem, hff⟩ := hi i hin
      obtain ⟨v0, y0, q0, c0, hy0, m0, t0⟩ := hff 0 f0 rfl
      obtain ⟨v1, y1, q1, c1, hy1, m1, t1⟩ := hff 1 f1 rfl
      obtain ⟨v2, y2, q2, c2, hy2, m2, t2⟩ := hff 2 f2 rfl
      obtain ⟨x1, rfl, hx1⟩ := trod_int_one k1 t1
      obtain ⟨x2, rfl⟩ := trod_bool_one k2 t2
      obtain ⟨B, m, cc, rfl⟩ := trod_slice_one k0 t0
      obtain ⟨xs, vr, vi, vn, vp, vd⟩ := view_ints k0 ki kc (trod_of_one rfl t0)
      have hl0 := light_part he (light_elem ht hL hmem) (j := 0) (f := f0) rfl hy0
      have e3 : (#[f0, f1, f2] : Array Field).size = 3 := rfl
      rw [e3] at c0 c1 c2
      rw [Nat.add_zero] at c0
      obtain ⟨g, o, hadd⟩ := spot_form c0
      have hg : g < W.heap.size := by
        have := World.block_lt_of_cell? W _ c0
        rw [hadd] at this
        exact this
      rw [← add_add_, hadd, add_lit_] at c1 c2
      rw [hadd] at c0
      refine ⟨⟨xs, x1, x2⟩, g, o, B, m, cc, hadd, hg, c0, c1, c2, vr, hx1, ?_⟩
      rcases vd with rfl | ⟨es, sp, rfl⟩
      · simp [places] at vp; omega
      · have := light_len k0 hl0
        rw [kb] at this
        simp only [reachBytes] at this
        simp only [places] at vp
        omega)
  refine ⟨(List.range n).map V, ⟨by simp, fun i x hx => ?_⟩, hnb⟩
  have hin : i < n := by have := (List.getElem?_eq_some_iff.1 hx).1; simpa using this
  have hxe : V i = x := by simpa [hin] using hx
  subst hxe
  obtain ⟨g, o, B, m, cc, r⟩ := hV i hin
  exact ⟨a, g, o, B, m, cc, rfl, r.1, r.2.1, r.2.1, r.2.2⟩
end
end Go.Proofs.Ytebbnjbgmcdbcaa
