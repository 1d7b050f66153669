/-
  From the row's reading of an argument to memory: slices of structs whose fields are one cell each, slices among them.
-/
import Derived.Test.YtdbdokjlcdogiaaDoorView
import Derived.Deep.Slices
import Derived.Deep.Fields
import Derived.ChangeSame
namespace Go.Proofs.YtdbdokjlcdogiaaDoor
open Go.ChangeShapes Go.WideShapes Go.ChangeAt Go.RowKit Go.Deep
set_option linter.unusedVariables false

section
variable {H : Type} {P : Program}
/-- nothing of it is greater than one object may be -/
def Light (P : Program) (t : TypeId) (d : DataW H) : Prop := ∀ x ∈ d.weights P t, x ≤ reachBytes
theorem light_arg {ts : List TypeId} {ds : List (DataW H)} (h : (DataW.weightsEach P ts ds).all (· ≤ reachBytes) = true) {j : Nat} {t : TypeId} {d : DataW H} (ht : ts[j]? = some t) (hd : ds[j]? = some d) : Light P t d := fun x hx => by
  have := List.all_eq_true.1 h x (DataW.weights_mem_each ht hd x hx)
  simpa using this
theorem wt_elem {e : TypeId} {d : DataW H} {x : Nat} (hx : x ∈ d.weights P e) : ∀ {es : List (DataW H)}, d ∈ es → x ∈ DataW.weightsAll P e es
  | y :: r, h => by
    simp only [DataW.weightsAll, List.mem_append]
    rcases List.mem_cons.1 h with rfl | h
    · exact .inl hx
    · exact .inr (wt_elem hx h)
theorem light_len {t e : TypeId} {es sp : List (DataW H)} (ht : P.underlying t = some (.slice e)) (h : Light P t (.slice es sp)) : (es.length + sp.length) * P.bytesOf e ≤ reachBytes :=
  h _ (by simp [DataW.weights, ht])
theorem light_elem {t e : TypeId} {es sp : List (DataW H)} (ht : P.underlying t = some (.slice e)) (h : Light P t (.slice es sp)) {d : DataW H} (hd : d ∈ es) : Light P e d := fun x hx =>
  h x (by simp only [DataW.weights, ht, List.mem_cons, List.mem_append]; exact .inr (.inl (wt_elem hx hd)))
theorem light_part {e : TypeId} {fs : Array Field} {parts : List (DataW H)} (he : P.underlying e = some (.struct fs)) (h : Light P e (.agg parts)) {j : Nat} {f : Field} {y : DataW H} (hf : fs[j]? = some f) (hy : parts[j]? = some y) : Light P f.type y := fun x hx =>
  h x (by simp only [DataW.weights, he]; exact DataW.weights_mem_each (j := j) (by simp [hf]) hy x hx)
end

section
variable {H : Type} {enc : TypeId × Value → H} {P : Program} {W : World}
/-- a struct's cells, field by field -/
theorem open_fields {e : TypeId} {fs : Array Field} {b n : Nat} {sp : Nat → Bool} {held : Bool} {cs : List Value} {x : DataW H × List MemPlace} (he : P.underlying e = some (.struct fs)) (hone : oneCellFields P fs = true) (hC : P.cellsOf e = fs.size)
    (h : DataW.trod enc P W b sp held n e cs = some x) :
    ∃ (m : Nat) (parts : List (DataW H × List MemPlace)), cs.length = fs.size ∧ x.1 = .agg (parts.map (·.1)) ∧ ∀ (j : Nat) (f : Field), fs[j]? = some f → ∃ v y, cs[j]? = some v ∧ parts[j]? = some y ∧ DataW.trod enc P W b sp held m f.type [v] = some y := by
  obtain ⟨ys, m, _, rfl, hl, hyl, hff⟩ := DataW.trod_struct he h
  refine ⟨m, ys, by rw [hl, hC], rfl, fun j f hj => ?_⟩
  obtain ⟨ho, hs⟩ := hone_of hone j f hj
  have hjf : j < fs.size := (Array.getElem?_eq_some_iff.1 hj).1
  have hjc : j < cs.length := by rw [hl, hC]; exact hjf
  have hjy : j < ys.length := by rw [hyl]; exact hjf
  have h1 := (hff j f hj).trans (List.getElem?_eq_getElem hjy)
  have e1 : (cs.drop f.offset).take (P.cellsOf f.type) = [cs[j]] := by
    rw [ho, hs, List.drop_eq_getElem_cons hjc]
    rfl
  rw [e1] at h1
  exact ⟨cs[j], ys[j], List.getElem?_eq_getElem hjc, List.getElem?_eq_getElem hjy, h1⟩

/-- a slice of such structs -/
theorem open_structs {t e : TypeId} {fs : Array Field} {A : Option Addr} {n c : Nat} {d : DataW H} {p : List MemPlace} (ht : P.underlying t = some (.slice e)) (he : P.underlying e = some (.struct fs)) (hone : oneCellFields P fs = true) (hC : P.cellsOf e = fs.size)
    (h : DataW.Trod enc P W 0 (fun _ => true) true t (.slice A n c) d p) :
    (A = none ∧ n = 0 ∧ c = 0 ∧ d = .nil) ∨ ∃ (a : Addr) (es sp : List (DataW H)), A = some a ∧ n ≤ c ∧ d = .slice es sp ∧ es.length + sp.length = c ∧
      ∀ i, i < n → ∃ parts, (.agg parts) ∈ es ∧ ∀ (j : Nat) (f : Field), fs[j]? = some f → ∃ v y q, W.cell? (a.add (i * fs.size + j)) = some v ∧ parts[j]? = some y ∧ ∃ m, DataW.trod enc P W 0 (fun _ => true) true m f.type [v] = some (y, q) := by
  obtain ⟨fuel, hf⟩ := h
  rcases open_slice ht hf with ⟨hcs, hx⟩ | ⟨a, len, cap, m, nn, D, Pl, hcs, hb, hl, hm, hmm, hx, hi⟩
  · simp only [Value.cells, List.cons.injEq, and_true, Value.slice.injEq] at hcs
    obtain ⟨rfl, rfl, rfl⟩ := hcs
    injection hx with hx _
    exact .inl ⟨rfl, rfl, rfl, hx⟩
  · simp only [Value.cells, List.cons.injEq, and_true, Value.slice.injEq] at hcs
    obtain ⟨rfl, rfl, rfl⟩ := hcs
    injection hx with hx _
    subst hx
    simp only [if_true] at hmm
    subst hmm
    refine .inr ⟨a, _, _, rfl, hl, rfl, by simp; omega, fun i hin => ?_⟩
    obtain ⟨cs', hc, ht'⟩ := hi i (by omega)
    rw [hC] at hc
    obtain ⟨k, parts, hcl, hD, hff⟩ := open_fields he hone hC ht'
    obtain ⟨_, _, hat⟩ := World.cells?_some hc
    refine ⟨parts.map (·.1), ?_, fun j f hj => ?_⟩
    · rw [← hD]
      exact List.mem_map.2 ⟨i, List.mem_range.2 hin, rfl⟩
    · obtain ⟨v, y, hv, hy, hty⟩ := hff j f hj
      have hjf : j < fs.size := (Array.getElem?_eq_some_iff.1 hj).1
      exact ⟨v, y.1, y.2, by rw [← add_add_, hat j hjf]; exact hv, by simp [hy], k, hty⟩

theorem trod_of_one {t : TypeId} {b m : Nat} {sp : Nat → Bool} {held : Bool} {v : Value} {y : DataW H} {q : List MemPlace} (h1 : v.cells = #[v]) (h : DataW.trod enc P W b sp held m t [v] = some (y, q)) : DataW.Trod enc P W b sp held t v y q :=
  ⟨m, by rw [h1]; exact h⟩
theorem trod_int_one {t : TypeId} {b m : Nat} {sp : Nat → Bool} {held : Bool} {v : Value} {x : DataW H × List MemPlace} (ht : P.underlying t = some (.int .i64)) (h : DataW.trod enc P W b sp held m t [v] = some x) : ∃ i, v = .int .i64 i ∧ In64 i := by
  obtain ⟨i, e, _, hw⟩ := DataW.trod_int ht h
  injection e with e
  exact ⟨i, e, in64_of_wf hw⟩
theorem trod_bool_one {t : TypeId} {b m : Nat} {sp : Nat → Bool} {held : Bool} {v : Value} {x : DataW H × List MemPlace} (ht : P.underlying t = some .bool) (h : DataW.trod enc P W b sp held m t [v] = some x) : ∃ i, v = .bool i := by
  obtain ⟨i, e, _⟩ := DataW.trod_bool ht h
  injection e with e
  exact ⟨i, e⟩
theorem trod_slice_one {t e : TypeId} {b m : Nat} {sp : Nat → Bool} {held : Bool} {v : Value} {x : DataW H × List MemPlace} (ht : P.underlying t = some (.slice e)) (h : DataW.trod enc P W b sp held m t [v] = some x) : ∃ A n c, v = .slice A n c := by
  rcases open_slice ht h with ⟨e, _⟩ | ⟨a, len, cap, _, _, _, _, e, _⟩
  · injection e with e; exact ⟨_, _, _, e⟩
  · injection e with e; exact ⟨_, _, _, e⟩
end
end Go.Proofs.YtdbdokjlcdogiaaDoor
