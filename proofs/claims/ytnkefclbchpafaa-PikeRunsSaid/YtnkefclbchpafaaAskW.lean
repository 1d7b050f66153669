/-
  A text, a place, anchored or not, handed in as one struct; the bound on its bytes.
-/
import Derived.Test.YtnkefclbchpafaaNest
import Derived.Test.YtnkefclbchpafaaRefLook
namespace Go.Proofs.Ytnkefclbchpafaa
open Go.ChangeShapes Go.WideShapes Go.ChangeAt Go.RowKit Go.Deep
set_option linter.unusedVariables false

section
variable {H : Type} {enc : TypeId × Value → H} {P : Program} {W : World}
theorem view_asked8 {t ti : TypeId} {f0 f1 f2 : Field} {cs : Array Value} {d : DataW H} {p : List MemPlace} (ht : P.underlying t = some (.struct #[f0, f1, f2])) (hone : oneCellFields P #[f0, f1, f2] = true) (hC : P.cellsOf t = 3)
    (k0 : P.underlying f0.type = some (.slice ti)) (ki : P.underlying ti = some (.int .i64)) (kc : P.cellsOf ti = 1) (kb : P.bytesOf ti = 8) (k1 : P.underlying f1.type = some (.int .i64)) (k2 : P.underlying f2.type = some .bool)
    (h : DataW.Trod enc P W 0 (fun _ => true) true t (.agg cs) d p) (hL : Light P t d) :
    ∃ B m cc xs a b, cs = #[.slice B m cc, .int .i64 a, .bool b] ∧ TextR W (· < W.heap.size) B m xs ∧ In64 a ∧ m * 8 ≤ 140737488351232 := by
  obtain ⟨fuel, hf⟩ := h
  obtain ⟨k, parts, hl, hd, hff⟩ := open_fields ht hone hC hf
  obtain ⟨v0, y0, c0, hy0, t0⟩ := hff 0 f0 rfl
  obtain ⟨v1, y1, c1, hy1, t1⟩ := hff 1 f1 rfl
  obtain ⟨v2, y2, c2, hy2, t2⟩ := hff 2 f2 rfl
  obtain ⟨x1, rfl, hx1⟩ := trod_int_one k1 t1
  obtain ⟨x2, rfl⟩ := trod_bool_one k2 t2
  obtain ⟨B, m, cc, rfl⟩ := trod_slice_one k0 t0
  have hd' : d = .agg (parts.map (·.1)) := hd
  subst hd'
  have hl0 := light_part ht hL (j := 0) (f := f0) (y := y0.1) rfl (by simp [hy0])
  obtain ⟨xs, vr, vi, vn, vp, vd⟩ := view_ints k0 ki kc (trod_of_one (y := y0.1) (q := y0.2) rfl t0)
  have hm : m * 8 ≤ 140737488351232 := by
    rcases vd with e | ⟨es, sp, e⟩
    · rw [e] at vp
      simp [places] at vp; omega
    · rw [e] at vp hl0
      have := light_len k0 hl0
      rw [kb] at this
      simp only [reachBytes] at this
      simp only [places] at vp
      omega
  refine ⟨B, m, cc, xs, x1, x2, ?_, ⟨vr, vi, by omega⟩, hx1, hm⟩
  have hc : (Value.agg cs).cells = cs := rfl
  rw [hc] at c0 c1 c2 hl
  have hl3 : cs.toList.length = 3 := hl
  apply Array.ext'
  refine List.ext_getElem? fun j => ?_
  match j with
  | 0 => exact c0
  | 1 => exact c1
  | 2 => exact c2
  | j + 3 => rw [List.getElem?_eq_none (by omega), List.getElem?_eq_none (by simp)]
end
end Go.Proofs.Ytnkefclbchpafaa
