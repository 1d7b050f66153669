/-
  From the row's reading of an argument to the words of XMem: a script, a slice of structs of three ints.
-/
import Derived.Test.YtpfhljcihfabbaaView
import Derived.Test.YtpfhljcihfabbaaStacks
import Derived.Deep.Slices
import Derived.Deep.Fields
import Derived.ChangeSame
namespace Go.Proofs.Ytpfhljcihfabbaa
open Go.ChangeShapes Go.WideShapes Go.ChangeAt Go.RowKit Go.Deep
set_option linter.unusedVariables false

theorem get_of_drop {α : Type} {l : List α} {j : Nat} {v : α} (h : (l.drop j).take 1 = [v]) : l[j]? = some v := by
  have := congrArg (fun r => r[0]?) h
  simpa [List.getElem?_take, List.getElem?_drop] using this

/-- three ints, by field -/
theorem stepv_get {zs : Nat → Int × Int × Int} {n : Nat} : ∀ j u, (stepv ((List.range n).map zs))[j]? = some u → ∃ i, i < n ∧ ((j = i * 3 + 0 ∧ u = .int .i64 (zs i).1) ∨ (j = i * 3 + 1 ∧ u = .int .i64 (zs i).2.1) ∨ (j = i * 3 + 2 ∧ u = .int .i64 (zs i).2.2)) := by
  intro j u hu
  have hlt := (List.getElem?_eq_some_iff.1 hu).1
  rw [stepv_len] at hlt
  simp only [List.length_map, List.length_range] at hlt
  have hi : j / 3 < n := by omega
  have hz : ((List.range n).map zs)[j / 3]? = some (zs (j / 3)) := by simp [hi]
  obtain ⟨h0, h1, h2⟩ := stepv_at _ _ _ hz
  refine ⟨j / 3, hi, ?_⟩
  rcases (by omega : j = 3 * (j / 3) ∨ j = 3 * (j / 3) + 1 ∨ j = 3 * (j / 3) + 2) with h | h | h
  · rw [← h, hu] at h0; injection h0 with h0; exact .inl ⟨by omega, h0⟩
  · rw [← h, hu] at h1; injection h1 with h1; exact .inr (.inl ⟨by omega, h1⟩)
  · rw [← h, hu] at h2; injection h2 with h2; exact .inr (.inr ⟨by omega, h2⟩)

section
variable {H : Type} {enc : TypeId × Value → H} {P : Program} {W : World} {t e : TypeId} {fs : Array Field} {A : Option Addr} {n c : Nat} {d : DataW H} {p : List MemPlace}
theorem view_steps {f0 f1 f2 : Field} (ht : P.underlying t = some (.slice e)) (he : P.underlying e = some (.struct #[f0, f1, f2])) (hone : oneCellFields P #[f0, f1, f2] = true) (hC : P.cellsOf e = 3)
    (k0 : P.underlying f0.type = some (.int .i64)) (k1 : P.underlying f1.type = some (.int .i64)) (k2 : P.underlying f2.type = some (.int .i64))
    (h : DataW.Trod enc P W 0 (fun _ => true) true t (.slice A n c) d p) :
    ∃ zs : List (Int × Int × Int), Reads W (· < W.heap.size) 3 A n (stepv zs) ∧ zs.length = n ∧ n ≤ c ∧ c = places d ∧ (d = .nil ∨ ∃ es sp, d = .slice es sp) := by
  obtain ⟨fuel, hf⟩ := h
  rcases open_slice ht hf with ⟨hcs, hx⟩ | ⟨a, len, cap, m, nn, D, Pl, hcs, hb, hl, hm, hmm, hx, hi⟩
  · simp only [Value.cells, List.cons.injEq, and_true, Value.slice.injEq] at hcs
    obtain ⟨rfl, rfl, rfl⟩ := hcs
    injection hx with hx _
    subst hx
    exact ⟨[], Reads.nil_, rfl, Nat.le_refl _, rfl, .inl rfl⟩
  · simp only [Value.cells, List.cons.injEq, and_true, Value.slice.injEq] at hcs
    obtain ⟨rfl, rfl, rfl⟩ := hcs
    injection hx with hx _
    subst hx
    simp only [if_true] at hmm
    subst hmm
    have hfld : ∀ i, i < m → ∃ z : Int × Int × Int, W.cell? (a.add (i * 3 + 0)) = some (.int .i64 z.1) ∧ W.cell? (a.add (i * 3 + 1)) = some (.int .i64 z.2.1) ∧ W.cell? (a.add (i * 3 + 2)) = some (.int .i64 z.2.2) := by
      intro i him
      obtain ⟨cs', hc, ht'⟩ := hi i him
      rw [hC] at hc
      obtain ⟨ys, n', _, _, _, hyl, hff⟩ := DataW.trod_struct he ht'
      obtain ⟨_, _, hat⟩ := World.cells?_some hc
      have hone3 : ∀ (j : Nat) (f : Field), j < 3 → (#[f0, f1, f2] : Array Field)[j]? = some f → P.underlying f.type = some (.int .i64) → ∃ x, W.cell? (a.add (i * 3 + j)) = some (.int .i64 x) := by
        intro j f hj3 hj hk
        obtain ⟨ho, hs⟩ := hone_of hone j f hj
        have hjy : j < ys.length := by rw [hyl]; exact hj3
        have h1 := (hff j f hj).trans (List.getElem?_eq_getElem hjy)
        obtain ⟨x, e, _⟩ := DataW.trod_int hk h1
        rw [ho, hs] at e
        refine ⟨x, ?_⟩
        rw [← add_add_, hat j hj3]
        exact get_of_drop e
      obtain ⟨x0, c0⟩ := hone3 0 f0 (by omega) rfl k0
      obtain ⟨x1, c1⟩ := hone3 1 f1 (by omega) rfl k1
      obtain ⟨x2, c2⟩ := hone3 2 f2 (by omega) rfl k2
      exact ⟨(x0, x1, x2), c0, c1, c2⟩
    refine ⟨(List.range n).map (fun i => if h : i < m then Classical.choose (hfld i h) else (0, 0, 0)), ⟨by rw [stepv_len]; simp, fun hn => ?_⟩, by simp, hl, ?_, .inr ⟨_, _, rfl⟩⟩
    · have h0 := Classical.choose_spec (hfld 0 (by omega))
      have hb := World.block_lt_of_cell? W _ h0.1
      rw [add_block] at hb
      refine ⟨a, rfl, hb, hb, fun j u hu => ?_⟩
      obtain ⟨i, hin, hj⟩ := stepv_get j u hu
      have him : i < m := by omega
      have hs := Classical.choose_spec (hfld i him)
      simp only [him, dite_true] at hj
      rcases hj with ⟨rfl, rfl⟩ | ⟨rfl, rfl⟩ | ⟨rfl, rfl⟩
      · exact hs.1
      · exact hs.2.1
      · exact hs.2.2
    · simp [places]; omega
end
end Go.Proofs.Ytpfhljcihfabbaa
