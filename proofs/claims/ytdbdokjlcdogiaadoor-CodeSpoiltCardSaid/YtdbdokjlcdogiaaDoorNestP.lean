/-
  From the row's reading of an argument to memory: ranges, instructions, a program.
-/
import Derived.Test.YtdbdokjlcdogiaaDoorNest
import Derived.Test.YtdbdokjlcdogiaaDoorInsts
namespace Go.Proofs.YtdbdokjlcdogiaaDoor
open Go.ChangeShapes Go.WideShapes Go.ChangeAt Go.RowKit Go.Deep
set_option linter.unusedVariables false

instance : Inhabited PInst := ⟨⟨0, 0, 0, 0, []⟩⟩

theorem pairv_get {zs : Nat → Int × Int} {n : Nat} : ∀ (j : Nat) u, (pairv ((List.range n).map zs))[j]? = some u → ∃ i, i < n ∧ ((j = i * 2 + 0 ∧ u = .int .i64 (zs i).1) ∨ (j = i * 2 + 1 ∧ u = .int .i64 (zs i).2)) := by
  intro j u hu
  have hlt := (List.getElem?_eq_some_iff.1 hu).1
  rw [pairv_len] at hlt
  simp only [List.length_map, List.length_range] at hlt
  have hi : j / 2 < n := by omega
  have hz : ((List.range n).map zs)[j / 2]? = some (zs (j / 2)) := by simp [hi]
  obtain ⟨h0, h1⟩ := pairv_at _ _ _ hz
  refine ⟨j / 2, hi, ?_⟩
  rcases (by omega : j = 2 * (j / 2) ∨ j = 2 * (j / 2) + 1) with h | h
  · rw [← h, hu] at h0; injection h0 with h0; exact .inl ⟨by omega, h0⟩
  · rw [← h, hu] at h1; injection h1 with h1; exact .inr ⟨by omega, h1⟩

section
variable {H : Type} {enc : TypeId × Value → H} {P : Program} {W : World}
theorem view_ranges {t e : TypeId} {f0 f1 : Field} {A : Option Addr} {n c : Nat} {d : DataW H} {p : List MemPlace} (ht : P.underlying t = some (.slice e)) (he : P.underlying e = some (.struct #[f0, f1])) (hone : oneCellFields P #[f0, f1] = true) (hC : P.cellsOf e = 2)
    (k0 : P.underlying f0.type = some (.int .i64)) (k1 : P.underlying f1.type = some (.int .i64)) (kb : P.bytesOf e = 16)
    (h : DataW.Trod enc P W 0 (fun _ => true) true t (.slice A n c) d p) (hL : Light P t d) :
    ∃ rs, RangesR W (· < W.heap.size) A n rs ∧ rs.length * 16 ≤ 140737488351232 := by
  rcases open_structs ht he hone hC h with ⟨rfl, rfl, rfl, rfl⟩ | ⟨a, es, sp, rfl, hnc, rfl, hlen, hi⟩
  · exact ⟨[], ⟨Reads.nil_, fun x hx => (by cases hx), by omega⟩, by simp⟩
  have hlb := light_len ht hL
  rw [kb] at hlb
  simp only [reachBytes] at hlb
  have hfld : ∀ i, i < n → ∃ z : Int × Int, W.cell? (a.add (i * 2 + 0)) = some (.int .i64 z.1) ∧ W.cell? (a.add (i * 2 + 1)) = some (.int .i64 z.2) ∧ In64 z.1 ∧ In64 z.2 := by
    intro i hin
    obtain ⟨parts, hmem, hff⟩ := hi i hin
    obtain ⟨v0, y0, q0, c0, hy0, m0, t0⟩ := hff 0 f0 rfl
    obtain ⟨v1, y1, q1, c1, hy1, m1, t1⟩ := hff 1 f1 rfl
    obtain ⟨x0, rfl, hx0⟩ := trod_int_one k0 t0
    obtain ⟨x1, rfl, hx1⟩ := trod_int_one k1 t1
    exact ⟨(x0, x1), c0, c1, hx0, hx1⟩
  obtain ⟨V, hV⟩ := choose_lt (α := Int × Int) (n := n) (p := fun i z => W.cell? (a.add (i * 2 + 0)) = some (.int .i64 z.1) ∧ W.cell? (a.add (i * 2 + 1)) = some (.int .i64 z.2) ∧ In64 z.1 ∧ In64 z.2) hfld
  refine ⟨(List.range n).map V, ⟨⟨by rw [pairv_len]; simp, fun hn => ?_⟩, fun x hx => ?_, by omega⟩, by simp; omega⟩
  · have h0 := (hV 0 hn).1
    have hb := World.block_lt_of_cell? W _ h0
    rw [add_block] at hb
    refine ⟨a, rfl, hb, hb, fun j u hu => ?_⟩
    obtain ⟨i, hin, hj⟩ := pairv_get j u hu
    rcases hj with ⟨rfl, rfl⟩ | ⟨rfl, rfl⟩
    · exact (hV i hin).1
    · exact (hV i hin).2.1
  · simp only [List.mem_map, List.mem_range] at hx
    obtain ⟨i, hin, rfl⟩ := hx
    exact (hV i hin).2.2

theorem view_insts {t e er : TypeId} {f0 f1 f2 f3 f4 g0 g1 : Field} {A : Option Addr} {n c : Nat} {d : DataW H} {p : List MemPlace} (ht : P.underlying t = some (.slice e)) (he : P.underlying e = some (.struct #[f0, f1, f2, f3, f4])) (hone : oneCellFields P #[f0, f1, f2, f3, f4] = true) (hC : P.cellsOf e = 5)
    (k0 : P.underlying f0.type = some (.int .i64)) (k1 : P.underlying f1.type = some (.int .i64)) (k2 : P.underlying f2.type = some (.int .i64)) (k3 : P.underlying f3.type = some (.int .i64)) (k4 : P.underlying f4.type = some (.slice er)) (kb : P.bytesOf e = 56)
    (hr : P.underlying er = some (.struct #[g0, g1])) (rone : oneCellFields P #[g0, g1] = true) (rC : P.cellsOf er = 2) (r0 : P.underlying g0.type = some (.int .i64)) (r1 : P.underlying g1.type = some (.int .i64)) (rb : P.bytesOf er = 16)
    (h : DataW.Trod enc P W 0 (fun _ => true) true t (.slice A n c) d p) (hL : Light P t d) :
    ∃ is, InstsR W (· < W.heap.size) A n is ∧ n * 56 ≤ 140737488351232 ∧ ∀ x ∈ is, x.rs.length * 16 ≤ 140737488351232 := by
  rcases open_structs ht he hone hC h with ⟨rfl, rfl, rfl, rfl⟩ | ⟨a, es, sp, rfl, hnc, rfl, hlen, hi⟩
  · exact ⟨[], ⟨rfl, fun i x hx => by simp at hx⟩, by omega, fun x hx => by cases hx⟩
  have hlb := light_len ht hL
  rw [kb] at hlb
  simp only [reachBytes] at hlb
  obtain ⟨V, hV⟩ := choose_lt (α := PInst) (n := n) (p := fun i x => (∃ g o B m cc, a.add (i * 5) = ⟨g, o, none⟩ ∧ g < W.heap.size ∧ RangesR W (· < W.heap.size) B m x.rs ∧ In64I x ∧ ∀ (j : Nat) v, (instCells x B m cc)[j]? = some v → W.cell? ⟨g, o + j, none⟩ = some v) ∧ x.rs.length * 16 ≤ 140737488351232) (fun i hin => by
      obtain ⟨parts, hmem, hff⟩ := hi i hin
      obtain ⟨v0, y0, q0, c0, hy0, m0, t0⟩ := hff 0 f0 rfl
      obtain ⟨v1, y1, q1, c1, hy1, m1, t1⟩ := hff 1 f1 rfl
      obtain ⟨v2, y2, q2, c2, hy2, m2, t2⟩ := hff 2 f2 rfl
      obtain ⟨v3, y3, q3, c3, hy3, m3, t3⟩ := hff 3 f3 rfl
      obtain ⟨v4, y4, q4, c4, hy4, m4, t4⟩ := hff 4 f4 rfl
      obtain ⟨x0, rfl, hx0⟩ := trod_int_one k0 t0
      obtain ⟨x1, rfl, hx1⟩ := trod_int_one k1 t1
      obtain ⟨x2, rfl, hx2⟩ := trod_int_one k2 t2
      obtain ⟨x3, rfl, hx3⟩ := trod_int_one k3 t3
      obtain ⟨B, m, cc, rfl⟩ := trod_slice_one k4 t4
      have hl4 := light_part he (light_elem ht hL hmem) (j := 4) (f := f4) rfl hy4
      obtain ⟨rs, hrr, hrl⟩ := view_ranges k4 hr rone rC r0 r1 rb (trod_of_one rfl t4) hl4
      have e5 : (#[f0, f1, f2, f3, f4] : Array Field).size = 5 := rfl
      rw [e5] at c0 c1 c2 c3 c4
      rw [Nat.add_zero] at c0
      obtain ⟨g, o, hadd⟩ := spot_form c0
      have hg : g < W.heap.size := by
        have := World.block_lt_of_cell? W _ c0
        rw [hadd] at this
        exact this
      rw [← add_add_, hadd, add_lit_] at c1 c2 c3 c4
      rw [hadd] at c0
      refine ⟨⟨x0, x1, x2, x3, rs⟩, ⟨g, o, B, m, cc, hadd, hg, hrr, ⟨hx0, hx1, hx2, hx3⟩, fun j v hv => ?_⟩, hrl⟩
      have hj : j < 5 := (Array.getElem?_eq_some_iff.1 hv).1
      match j, hj with
      | 0, _ => injection hv with hv; subst hv; exact c0
      | 1, _ => injection hv with hv; subst hv; exact c1
      | 2, _ => injection hv with hv; subst hv; exact c2
      | 3, _ => injection hv with hv; subst hv; exact c3
      | 4, _ => injection hv with hv; subst hv; exact c4)
  refine ⟨(List.range n).map V, ⟨by simp, fun i x hx => ?_⟩, by omega, fun x hx => ?_⟩
  · have hin : i < n := by have := (List.getElem?_eq_some_iff.1 hx).1; simpa using this
    have hxe : V i = x := by simpa [hin] using hx
    subst hxe
    obtain ⟨⟨g, o, B, m, cc, r1, r2, r3, r4, r5⟩, _⟩ := hV i hin
    exact ⟨a, g, o, B, m, cc, rfl, r1, r2, r2, r3, r4, r5⟩
  · simp only [List.mem_map, List.mem_range] at hx
    obtain ⟨i, hin, rfl⟩ := hx
    exact (hV i hin).2

/-- a program handed in -/
theorem view_prog {t e er : TypeId} {p0 p1 p2 f0 f1 f2 f3 f4 g0 g1 : Field} {cs : Array Value} {d : DataW H} {p : List MemPlace} (ht : P.underlying t = some (.struct #[p0, p1, p2])) (hone : oneCellFields P #[p0, p1, p2] = true) (hC : P.cellsOf t = 3)
    (s0 : P.underlying p0.type = some (.slice e)) (s1 : P.underlying p1.type = some (.int .i64)) (s2 : P.underlying p2.type = some (.int .i64))
    (he : P.underlying e = some (.struct #[f0, f1, f2, f3, f4])) (ione : oneCellFields P #[f0, f1, f2, f3, f4] = true) (iC : P.cellsOf e = 5)
    (k0 : P.underlying f0.type = some (.int .i64)) (k1 : P.underlying f1.type = some (.int .i64)) (k2 : P.underlying f2.type = some (.int .i64)) (k3 : P.underlying f3.type = some (.int .i64)) (k4 : P.underlying f4.type = some (.slice er)) (kb : P.bytesOf e = 56)
    (hr : P.underlying er = some (.struct #[g0, g1])) (rone : oneCellFields P #[g0, g1] = true) (rC : P.cellsOf er = 2) (r0 : P.underlying g0.type = some (.int .i64)) (r1 : P.underlying g1.type = some (.int .i64)) (rb : P.bytesOf er = 16)
    (h : DataW.Trod enc P W 0 (fun _ => true) true t (.agg cs) d p) (hL : Light P t d) :
    ∃ A n c is start caps, cs = #[.slice A n c, .int .i64 start, .int .i64 caps] ∧ InstsR W (· < W.heap.size) A n is ∧ In64 start ∧ In64 caps ∧ n * 56 ≤ 140737488351232 ∧ ∀ x ∈ is, x.rs.length * 16 ≤ 140737488351232 := by
  obtain ⟨fuel, hf⟩ := h
  obtain ⟨k, parts, hl, hd, hff⟩ := open_fields ht hone hC hf
  obtain ⟨v0, y0, c0, hy0, t0⟩ := hff 0 p0 rfl
  obtain ⟨v1, y1, c1, hy1, t1⟩ := hff 1 p1 rfl
  obtain ⟨v2, y2, c2, hy2, t2⟩ := hff 2 p2 rfl
  obtain ⟨x1, rfl, hx1⟩ := trod_int_one s1 t1
  obtain ⟨x2, rfl, hx2⟩ := trod_int_one s2 t2
  obtain ⟨A, n, c, rfl⟩ := trod_slice_one s0 t0
  have hd' : d = .agg (parts.map (·.1)) := hd
  subst hd'
  have hl0 := light_part ht hL (j := 0) (f := p0) (y := y0.1) rfl (by simp [hy0])
  obtain ⟨is, h1, h2, h3⟩ := view_insts s0 he ione iC k0 k1 k2 k3 k4 kb hr rone rC r0 r1 rb (trod_of_one (y := y0.1) (q := y0.2) rfl t0) hl0
  refine ⟨A, n, c, is, x1, x2, ?_, h1, hx1, hx2, h2, h3⟩
  have hc : (Value.agg cs).cells = cs := rfl
  rw [hc] at c0 c1 c2 hl
  have hl3 : cs.toList.length = 3 := hl
  apply Array.ext'
  refine List.ext_getElem? fun j => ?_
  match j with
  | 0 => exact c0
  | 1 => exact c1
  | 2 => exact c2
  | j + 3 => rw [List.getElem?_eq_none (by omega), List.getElem?_eq_none (by simp)]
end
end Go.Proofs.YtdbdokjlcdogiaaDoor
