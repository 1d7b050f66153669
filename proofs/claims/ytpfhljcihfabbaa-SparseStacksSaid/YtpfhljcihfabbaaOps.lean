/-
  The calls on the six stacks, each as one step of what all six hold.
-/
import Derived.Test.YtpfhljcihfabbaaSt
namespace Go.Proofs.Ytpfhljcihfabbaa
open Go.RowKit
set_option linter.unusedVariables false

/-- what all six hold, where they lie hidden -/
def St (w : World) (base : Nat) (bk : Nat → Nat) (X : Nat → List Value) (M : Nat → Int) (K : Nat → TypeId → Array Value → Prop) : Prop := ∃ CS A c, StE w base bk CS A c X M K
def StU (w0 : World) (w : World) (base : Nat) (bk : Nat → Nat) (X : Nat → List Value) (M : Nat → Int) (K : Nat → TypeId → Array Value → Prop) (w' : World) : Prop := St w' base bk X M K ∧ Upd (fun k => base ≤ k) w w'
variable {w w' : World} {base : Nat} {bk : Nat → Nat} {X : Nat → List Value} {M : Nat → Int} {K : Nat → TypeId → Array Value → Prop}
theorem St.upd (h : St w base bk X M K) (hU : Upd Nob w w') : St w' base bk X M K := by
  obtain ⟨CS, A, c, h⟩ := h
  exact ⟨CS, A, c, h.upd hU⟩
theorem St.congr {X' : Nat → List Value} {M' : Nat → Int} {K' : Nat → TypeId → Array Value → Prop} (h : St w base bk X M K) (hX : ∀ i, i < 6 → X i = X' i) (hM : ∀ i, i < 6 → M i = M' i) (hK : ∀ g t cs, K' g t cs → K g t cs) : St w base bk X' M' K' := by
  obtain ⟨CS, A, c, h⟩ := h
  exact ⟨CS, A, c, h.congr hX hM hK⟩
theorem St.keep (h : St w base bk X M K) (t : TypeId) (cs : Array Value) (hb : base ≤ w.heap.size) : St (w.alloc (.cells cs t)) base bk X M (fun g' t' cs' => K g' t' cs' ∨ (g' = w.heap.size ∧ t' = t ∧ cs' = cs)) := by
  obtain ⟨CS, A, c, h⟩ := h
  exact ⟨CS, A, c, h.keep t cs hb⟩
theorem St.kept (h : St w base bk X M K) {g : Nat} {t : TypeId} {cs : Array Value} (hk : K g t cs) : Cells w g t cs := by
  obtain ⟨CS, A, c, h⟩ := h
  exact (h.kept g t cs hk).1
theorem St.step {CS : Nat → Array Value} {A : Nat → Option Addr} {c : Nat → Nat} (h : StE w base bk CS A c X M K) (i : Nat) (hi : i < 6) {n' : Nat} {xs' : List Value} {m' : Int} (hn : n' = xs'.length)
    (hs : StkQ w w' base (bk (bI i)) (offI i) (tyB (bI i)) (CS (bI i)) (A i) (X i).length (c i) (elT i) n' xs' m') (hbase : base ≤ w.heap.size) : StU w w base bk (fset X i xs') (fset M i m') K w' := by
  refine ⟨?_, hs.upd.mono ?_⟩
  · obtain ⟨CS', A', c', h'⟩ := h.step i hi hn hs hbase
    exact ⟨CS', A', c', h'⟩
  · rintro k hk (rfl | he)
    · exact h.newb _ (bI_lt i hi)
    · exact ((h.own i hi).lt k he).1
/-- the empty rows' lengths -/
def up (m : Int) (n : Nat) : Int := if m < n + 1 then n + 1 else m

theorem push_int_st (h : St w base bk X M K) (i : Nat) (hi : i = 0 ∨ i = 1) (x : Int) (hlen : ((X i).length + 1) * 8 ≤ 140737488355328) (hbase : base ≤ w.heap.size) :
    Calls Try.prog 7 #[.pointer (some ⟨bk (bI i), offI i, none⟩), .int .i64 x] w fun e w' => e = .returned (.tuple #[]) ∧ StU w w base bk (fset X i (X i ++ [.int .i64 x])) (fset M i (up (M i) (X i).length)) K w' := by
  obtain ⟨CS, A, c, h⟩ := h
  rcases hi with rfl | rfl
  · refine (push_int w base (bk (bI 0)) (offI 0) (tyB (bI 0)) (CS (bI 0)) (A 0) (X 0).length (c 0) (X 0) (M 0) x (h.cells _ (by decide)) (h.sl 0 (by decide)) (h.mo 0 (by decide)) (h.own 0 (by decide)) (tyB_el _ 0 (by decide) (by decide)) hlen hbase).mono ?_
    rintro e w' ⟨rfl, hP⟩
    exact ⟨rfl, St.step h 0 (by decide) (by simp) hP.q hbase⟩
  · refine (push_int w base (bk (bI 1)) (offI 1) (tyB (bI 1)) (CS (bI 1)) (A 1) (X 1).length (c 1) (X 1) (M 1) x (h.cells _ (by decide)) (h.sl 1 (by decide)) (h.mo 1 (by decide)) (h.own 1 (by decide)) (tyB_el _ 1 (by decide) (by decide)) hlen hbase).mono ?_
    rintro e w' ⟨rfl, hP⟩
    exact ⟨rfl, St.step h 1 (by decide) (by simp) hP.q hbase⟩
theorem popn_int_st (h : St w base bk X M K) (i : Nat) (hi : i = 0 ∨ i = 1) (h0 : X i = []) :
    Calls Try.prog 8 #[.pointer (some ⟨bk (bI i), offI i, none⟩)] w fun e w' => e = .returned (.tuple #[.int .i64 0, .bool false]) ∧ w = w' := by
  obtain ⟨CS, A, c, h⟩ := h
  rcases hi with rfl | rfl
  · have h1 := (h.cells (bI 0) (by decide)).cellv (h.sl 0 (by decide))
    rw [h0] at h1
    exact pop_int_none w (bk (bI 0)) (offI 0) (A 0) (c 0) h1
  · have h1 := (h.cells (bI 1) (by decide)).cellv (h.sl 1 (by decide))
    rw [h0] at h1
    exact pop_int_none w (bk (bI 1)) (offI 1) (A 1) (c 1) h1
theorem pop_int_st (h : St w base bk X M K) (i : Nat) (hi : i = 0 ∨ i = 1) (ys : List Value) (x : Int) (h0 : X i = ys ++ [.int .i64 x]) (hlen : (X i).length ≤ 9223372036854775807) (hbase : base ≤ w.heap.size) :
    Calls Try.prog 8 #[.pointer (some ⟨bk (bI i), offI i, none⟩)] w fun e w' => e = .returned (.tuple #[.int .i64 x, .bool true]) ∧ StU w w base bk (fset X i ys) (fset M i (M i)) K w' := by
  obtain ⟨CS, A, c, h⟩ := h
  have hl : (X i).length = ys.length + 1 := by rw [h0]; simp
  rcases hi with rfl | rfl
  · have h1 := h.sl 0 (by decide)
    have ho := h.own 0 (by decide)
    rw [hl] at h1 ho
    rw [h0] at ho
    refine (pop_int_some w base (bk (bI 0)) (offI 0) (tyB (bI 0)) (CS (bI 0)) (A 0) ys.length (c 0) ys (M 0) x (h.cells _ (by decide)) rfl h1 (h.mo 0 (by decide)) ho (tyB_el _ 0 (by decide) (by decide)) (by omega)).mono ?_
    rintro e w' ⟨rfl, hP⟩
    have hQ := hP.q
    rw [← hl] at hQ
    exact ⟨rfl, St.step h 0 (by decide) rfl hQ hbase⟩
  · have h1 := h.sl 1 (by decide)
    have ho := h.own 1 (by decide)
    rw [hl] at h1 ho
    rw [h0] at ho
    refine (pop_int_some w base (bk (bI 1)) (offI 1) (tyB (bI 1)) (CS (bI 1)) (A 1) ys.length (c 1) ys (M 1) x (h.cells _ (by decide)) rfl h1 (h.mo 1 (by decide)) ho (tyB_el _ 1 (by decide) (by decide)) (by omega)).mono ?_
    rintro e w' ⟨rfl, hP⟩
    have hQ := hP.q
    rw [← hl] at hQ
    exact ⟨rfl, St.step h 1 (by decide) rfl hQ hbase⟩
theorem clear_int_st (h : St w base bk X M K) (i : Nat) (hi : i = 0 ∨ i = 1) (hbase : base ≤ w.heap.size) :
    Calls Try.prog 19 #[.pointer (some ⟨bk (bI i), offI i, none⟩)] w fun e w' => e = .returned (.tuple #[]) ∧ StU w w base bk (fset X i []) (fset M i 0) K w' := by
  obtain ⟨CS, A, c, h⟩ := h
  rcases hi with rfl | rfl
  · refine (clear_int w base (bk (bI 0)) (offI 0) (tyB (bI 0)) (CS (bI 0)) (A 0) (X 0).length (c 0) (X 0) (M 0) (h.cells _ (by decide)) (h.sl 0 (by decide)) (h.mo 0 (by decide)) (h.own 0 (by decide)) (tyB_el _ 0 (by decide) (by decide))).mono ?_
    rintro e w' ⟨rfl, hP⟩
    exact ⟨rfl, St.step h 0 (by decide) rfl hP.q hbase⟩
  · refine (clear_int w base (bk (bI 1)) (offI 1) (tyB (bI 1)) (CS (bI 1)) (A 1) (X 1).length (c 1) (X 1) (M 1) (h.cells _ (by decide)) (h.sl 1 (by decide)) (h.mo 1 (by decide)) (h.own 1 (by decide)) (tyB_el _ 1 (by decide) (by decide))).mono ?_
    rintro e w' ⟨rfl, hP⟩
    exact ⟨rfl, St.step h 1 (by decide) rfl hP.q hbase⟩
theorem len_int_st (h : St w base bk X M K) (i : Nat) (hi : i = 0 ∨ i = 1) :
    Calls Try.prog 9 #[.pointer (some ⟨bk (bI i), offI i, none⟩)] w fun e w' => e = .returned (.int .i64 ((X i).length : Int)) ∧ w = w' := by
  obtain ⟨CS, A, c, h⟩ := h
  rcases hi with rfl | rfl
  · exact len_int w (bk (bI 0)) (offI 0) (A 0) (X 0).length (c 0) ((h.cells (bI 0) (by decide)).cellv (h.sl 0 (by decide)))
  · exact len_int w (bk (bI 1)) (offI 1) (A 1) (X 1).length (c 1) ((h.cells (bI 1) (by decide)).cellv (h.sl 1 (by decide)))
theorem most_int_st (h : St w base bk X M K) (i : Nat) (hi : i = 0 ∨ i = 1) :
    Calls Try.prog 10 #[.pointer (some ⟨bk (bI i), offI i, none⟩)] w fun e w' => e = .returned (.int .i64 (M i)) ∧ w = w' := by
  obtain ⟨CS, A, c, h⟩ := h
  rcases hi with rfl | rfl
  · exact most_int w (bk (bI 0)) (offI 0) (M 0) ((h.cells (bI 0) (by decide)).cellv (h.mo 0 (by decide)))
  · exact most_int w (bk (bI 1)) (offI 1) (M 1) ((h.cells (bI 1) (by decide)).cellv (h.mo 1 (by decide)))
theorem push_ref_st (h : St w base bk X M K) (i : Nat) (hi : i = 2 ∨ i = 3) (x : Int) (hlen : ((X i).length + 1) * 8 ≤ 140737488355328) (hbase : base ≤ w.heap.size) :
    Calls Try.prog 11 #[.pointer (some ⟨bk (bI i), offI i, none⟩), .int .i64 x] w fun e w' => e = .returned (.tuple #[]) ∧ StU w w base bk (fset X i (X i ++ [.int .i64 x])) (fset M i (up (M i) (X i).length)) K w' := by
  obtain ⟨CS, A, c, h⟩ := h
  rcases hi with rfl | rfl
  · refine (push_ref w base (bk (bI 2)) (offI 2) (tyB (bI 2)) (CS (bI 2)) (A 2) (X 2).length (c 2) (X 2) (M 2) x (h.cells _ (by decide)) (h.sl 2 (by decide)) (h.mo 2 (by decide)) (h.own 2 (by decide)) (tyB_el _ 2 (by decide) (by decide)) hlen hbase).mono ?_
    rintro e w' ⟨rfl, hP⟩
    exact ⟨rfl, St.step h 2 (by decide) (by simp) hP.q hbase⟩
  · refine (push_ref w base (bk (bI 3)) (offI 3) (tyB (bI 3)) (CS (bI 3)) (A 3) (X 3).length (c 3) (X 3) (M 3) x (h.cells _ (by decide)) (h.sl 3 (by decide)) (h.mo 3 (by decide)) (h.own 3 (by decide)) (tyB_el _ 3 (by decide) (by decide)) hlen hbase).mono ?_
    rintro e w' ⟨rfl, hP⟩
    exact ⟨rfl, St.step h 3 (by decide) (by simp) hP.q hbase⟩
theorem popn_ref_st (h : St w base bk X M K) (i : Nat) (hi : i = 2 ∨ i = 3) (h0 : X i = []) :
    Calls Try.prog 15 #[.pointer (some ⟨bk (bI i), offI i, none⟩)] w fun e w' => e = .returned (.tuple #[.int .i64 0, .bool false]) ∧ w = w' := by
  obtain ⟨CS, A, c, h⟩ := h
  rcases hi with rfl | rfl
  · have h1 := (h.cells (bI 2) (by decide)).cellv (h.sl 2 (by decide))
    rw [h0] at h1
    exact pop_ref_none w (bk (bI 2)) (offI 2) (A 2) (c 2) h1
  · have h1 := (h.cells (bI 3) (by decide)).cellv (h.sl 3 (by decide))
    rw [h0] at h1
    exact pop_ref_none w (bk (bI 3)) (offI 3) (A 3) (c 3) h1
theorem pop_ref_st (h : St w base bk X M K) (i : Nat) (hi : i = 2 ∨ i = 3) (ys : List Value) (x : Int) (h0 : X i = ys ++ [.int .i64 x]) (hlen : (X i).length ≤ 9223372036854775807) (hbase : base ≤ w.heap.size) :
    Calls Try.prog 15 #[.pointer (some ⟨bk (bI i), offI i, none⟩)] w fun e w' => e = .returned (.tuple #[.int .i64 x, .bool true]) ∧ StU w w base bk (fset X i ys) (fset M i (M i)) K w' := by
  obtain ⟨CS, A, c, h⟩ := h
  have hl : (X i).length = ys.length + 1 := by rw [h0]; simp
  rcases hi with rfl | rfl
  · have h1 := h.sl 2 (by decide)
    have ho := h.own 2 (by decide)
    rw [hl] at h1 ho
    rw [h0] at ho
    refine (pop_ref_some w base (bk (bI 2)) (offI 2) (tyB (bI 2)) (CS (bI 2)) (A 2) ys.length (c 2) ys (M 2) x (h.cells _ (by decide)) rfl h1 (h.mo 2 (by decide)) ho (tyB_el _ 2 (by decide) (by decide)) (by omega)).mono ?_
    rintro e w' ⟨rfl, hP⟩
    have hQ := hP.q
    rw [← hl] at hQ
    exact ⟨rfl, St.step h 2 (by decide) rfl hQ hbase⟩
  · have h1 := h.sl 3 (by decide)
    have ho := h.own 3 (by decide)
    rw [hl] at h1 ho
    rw [h0] at ho
    refine (pop_ref_some w base (bk (bI 3)) (offI 3) (tyB (bI 3)) (CS (bI 3)) (A 3) ys.length (c 3) ys (M 3) x (h.cells _ (by decide)) rfl h1 (h.mo 3 (by decide)) ho (tyB_el _ 3 (by decide) (by decide)) (by omega)).mono ?_
    rintro e w' ⟨rfl, hP⟩
    have hQ := hP.q
    rw [← hl] at hQ
    exact ⟨rfl, St.step h 3 (by decide) rfl hQ hbase⟩
theorem clear_ref_st (h : St w base bk X M K) (i : Nat) (hi : i = 2 ∨ i = 3) (hbase : base ≤ w.heap.size) :
    Calls Try.prog 20 #[.pointer (some ⟨bk (bI i), offI i, none⟩)] w fun e w' => e = .returned (.tuple #[]) ∧ StU w w base bk (fset X i []) (fset M i 0) K w' := by
  obtain ⟨CS, A, c, h⟩ := h
  rcases hi with rfl | rfl
  · refine (clear_ref w base (bk (bI 2)) (offI 2) (tyB (bI 2)) (CS (bI 2)) (A 2) (X 2).length (c 2) (M 2) (h.cells _ (by decide)) (h.sl 2 (by decide)) (h.mo 2 (by decide))).mono ?_
    rintro e w' ⟨rfl, hC, hU⟩
    exact ⟨rfl, St.step h 2 (by decide) (n' := 0) rfl ⟨⟨none, 0, hC, World.ownsRow_nil _ _ _ _, fun _ _ h => by cases h⟩, hU.mono (fun _ _ h => .inl h)⟩ hbase⟩
  · refine (clear_ref w base (bk (bI 3)) (offI 3) (tyB (bI 3)) (CS (bI 3)) (A 3) (X 3).length (c 3) (M 3) (h.cells _ (by decide)) (h.sl 3 (by decide)) (h.mo 3 (by decide))).mono ?_
    rintro e w' ⟨rfl, hC, hU⟩
    exact ⟨rfl, St.step h 3 (by decide) (n' := 0) rfl ⟨⟨none, 0, hC, World.ownsRow_nil _ _ _ _, fun _ _ h => by cases h⟩, hU.mono (fun _ _ h => .inl h)⟩ hbase⟩
theorem len_ref_st (h : St w base bk X M K) (i : Nat) (hi : i = 2 ∨ i = 3) :
    Calls Try.prog 18 #[.pointer (some ⟨bk (bI i), offI i, none⟩)] w fun e w' => e = .returned (.int .i64 ((X i).length : Int)) ∧ w = w' := by
  obtain ⟨CS, A, c, h⟩ := h
  rcases hi with rfl | rfl
  · exact len_ref w (bk (bI 2)) (offI 2) (A 2) (X 2).length (c 2) ((h.cells (bI 2) (by decide)).cellv (h.sl 2 (by decide)))
  · exact len_ref w (bk (bI 3)) (offI 3) (A 3) (X 3).length (c 3) ((h.cells (bI 3) (by decide)).cellv (h.sl 3 (by decide)))
theorem most_ref_st (h : St w base bk X M K) (i : Nat) (hi : i = 2 ∨ i = 3) :
    Calls Try.prog 23 #[.pointer (some ⟨bk (bI i), offI i, none⟩)] w fun e w' => e = .returned (.int .i64 (M i)) ∧ w = w' := by
  obtain ⟨CS, A, c, h⟩ := h
  rcases hi with rfl | rfl
  · exact most_ref w (bk (bI 2)) (offI 2) (M 2) ((h.cells (bI 2) (by decide)).cellv (h.mo 2 (by decide)))
  · exact most_ref w (bk (bI 3)) (offI 3) (M 3) ((h.cells (bI 3) (by decide)).cellv (h.mo 3 (by decide)))
theorem push_str_st (h : St w base bk X M K) (i : Nat) (hi : i = 4) (x : ByteArray) (hlen : ((X i).length + 1) * 16 ≤ 140737488355328) (hbase : base ≤ w.heap.size) :
    Calls Try.prog 12 #[.pointer (some ⟨bk (bI i), offI i, none⟩), .string x] w fun e w' => e = .returned (.tuple #[]) ∧ StU w w base bk (fset X i (X i ++ [.string x])) (fset M i (up (M i) (X i).length)) K w' := by
  obtain ⟨CS, A, c, h⟩ := h
  rcases hi with rfl
  refine (push_str w base (bk (bI 4)) (offI 4) (tyB (bI 4)) (CS (bI 4)) (A 4) (X 4).length (c 4) (X 4) (M 4) x (h.cells _ (by decide)) (h.sl 4 (by decide)) (h.mo 4 (by decide)) (h.own 4 (by decide)) (tyB_el _ 4 (by decide) (by decide)) hlen hbase).mono ?_
  rintro e w' ⟨rfl, hP⟩
  exact ⟨rfl, St.step h 4 (by decide) (by simp) hP.q hbase⟩
theorem popn_str_st (h : St w base bk X M K) (i : Nat) (hi : i = 4) (h0 : X i = []) :
    Calls Try.prog 16 #[.pointer (some ⟨bk (bI i), offI i, none⟩)] w fun e w' => e = .returned (.tuple #[.string ByteArray.empty, .bool false]) ∧ w = w' := by
  obtain ⟨CS, A, c, h⟩ := h
  rcases hi with rfl
  have h1 := (h.cells (bI 4) (by decide)).cellv (h.sl 4 (by decide))
  rw [h0] at h1
  exact pop_str_none w (bk (bI 4)) (offI 4) (A 4) (c 4) h1
theorem pop_str_st (h : St w base bk X M K) (i : Nat) (hi : i = 4) (ys : List Value) (x : ByteArray) (h0 : X i = ys ++ [.string x]) (hlen : (X i).length ≤ 9223372036854775807) (hbase : base ≤ w.heap.size) :
    Calls Try.prog 16 #[.pointer (some ⟨bk (bI i), offI i, none⟩)] w fun e w' => e = .returned (.tuple #[.string x, .bool true]) ∧ StU w w base bk (fset X i ys) (fset M i (M i)) K w' := by
  obtain ⟨CS, A, c, h⟩ := h
  have hl : (X i).length = ys.length + 1 := by rw [h0]; simp
  rcases hi with rfl
  have h1 := h.sl 4 (by decide)
  have ho := h.own 4 (by decide)
  rw [hl] at h1 ho
  rw [h0] at ho
  refine (pop_str_some w base (bk (bI 4)) (offI 4) (tyB (bI 4)) (CS (bI 4)) (A 4) ys.length (c 4) ys (M 4) x (h.cells _ (by decide)) rfl h1 (h.mo 4 (by decide)) ho (tyB_el _ 4 (by decide) (by decide)) (by omega)).mono ?_
  rintro e w' ⟨rfl, hP⟩
  have hQ := hP.q
  rw [← hl] at hQ
  exact ⟨rfl, St.step h 4 (by decide) rfl hQ hbase⟩
theorem clear_str_st (h : St w base bk X M K) (i : Nat) (hi : i = 4) (hbase : base ≤ w.heap.size) :
    Calls Try.prog 21 #[.pointer (some ⟨bk (bI i), offI i, none⟩)] w fun e w' => e = .returned (.tuple #[]) ∧ StU w w base bk (fset X i []) (fset M i 0) K w' := by
  obtain ⟨CS, A, c, h⟩ := h
  rcases hi with rfl
  refine (clear_str w base (bk (bI 4)) (offI 4) (tyB (bI 4)) (CS (bI 4)) (A 4) (X 4).length (c 4) (X 4) (M 4) (h.cells _ (by decide)) (h.sl 4 (by decide)) (h.mo 4 (by decide)) (h.own 4 (by decide)) (tyB_el _ 4 (by decide) (by decide))).mono ?_
  rintro e w' ⟨rfl, hP⟩
  exact ⟨rfl, St.step h 4 (by decide) rfl hP.q hbase⟩
theorem most_str_st (h : St w base bk X M K) (i : Nat) (hi : i = 4) :
    Calls Try.prog 24 #[.pointer (some ⟨bk (bI i), offI i, none⟩)] w fun e w' => e = .returned (.int .i64 (M i)) ∧ w = w' := by
  obtain ⟨CS, A, c, h⟩ := h
  rcases hi with rfl
  exact most_str w (bk (bI 4)) (offI 4) (M 4) ((h.cells (bI 4) (by decide)).cellv (h.mo 4 (by decide)))
theorem push_row_st (h : St w base bk X M K) (i : Nat) (hi : i = 5) (B : Option Addr) (xn xc : Nat) (hlen : ((X i).length + 1) * 24 ≤ 140737488355328) (hbase : base ≤ w.heap.size) :
    Calls Try.prog 14 #[.pointer (some ⟨bk (bI i), offI i, none⟩), .slice B xn xc] w fun e w' => e = .returned (.tuple #[]) ∧ StU w w base bk (fset X i (X i ++ [.slice B xn xc])) (fset M i (up (M i) (X i).length)) K w' := by
  obtain ⟨CS, A, c, h⟩ := h
  rcases hi with rfl
  refine (push_row w base (bk (bI 5)) (offI 5) (tyB (bI 5)) (CS (bI 5)) (A 5) (X 5).length (c 5) (X 5) (M 5) B xn xc (h.cells _ (by decide)) (h.sl 5 (by decide)) (h.mo 5 (by decide)) (h.own 5 (by decide)) (tyB_el _ 5 (by decide) (by decide)) hlen hbase).mono ?_
  rintro e w' ⟨rfl, hP⟩
  exact ⟨rfl, St.step h 5 (by decide) (by simp) hP.q hbase⟩
theorem popn_row_st (h : St w base bk X M K) (i : Nat) (hi : i = 5) (h0 : X i = []) :
    Calls Try.prog 17 #[.pointer (some ⟨bk (bI i), offI i, none⟩)] w fun e w' => e = .returned (.tuple #[.slice none 0 0, .bool false]) ∧ w = w' := by
  obtain ⟨CS, A, c, h⟩ := h
  rcases hi with rfl
  have h1 := (h.cells (bI 5) (by decide)).cellv (h.sl 5 (by decide))
  rw [h0] at h1
  exact pop_row_none w (bk (bI 5)) (offI 5) (A 5) (c 5) h1
theorem pop_row_st (h : St w base bk X M K) (i : Nat) (hi : i = 5) (ys : List Value) (B : Option Addr) (xn xc : Nat) (h0 : X i = ys ++ [.slice B xn xc]) (hlen : (X i).length ≤ 9223372036854775807) (hbase : base ≤ w.heap.size) :
    Calls Try.prog 17 #[.pointer (some ⟨bk (bI i), offI i, none⟩)] w fun e w' => e = .returned (.tuple #[.slice B xn xc, .bool true]) ∧ StU w w base bk (fset X i ys) (fset M i (M i)) K w' := by
  obtain ⟨CS, A, c, h⟩ := h
  have hl : (X i).length = ys.length + 1 := by rw [h0]; simp
  rcases hi with rfl
  have h1 := h.sl 5 (by decide)
  have ho := h.own 5 (by decide)
  rw [hl] at h1 ho
  rw [h0] at ho
  refine (pop_row_some w base (bk (bI 5)) (offI 5) (tyB (bI 5)) (CS (bI 5)) (A 5) ys.length (c 5) ys (M 5) B xn xc (h.cells _ (by decide)) rfl h1 (h.mo 5 (by decide)) ho (tyB_el _ 5 (by decide) (by decide)) (by omega)).mono ?_
  rintro e w' ⟨rfl, hP⟩
  have hQ := hP.q
  rw [← hl] at hQ
  exact ⟨rfl, St.step h 5 (by decide) rfl hQ hbase⟩
theorem clear_row_st (h : St w base bk X M K) (i : Nat) (hi : i = 5) (hbase : base ≤ w.heap.size) :
    Calls Try.prog 22 #[.pointer (some ⟨bk (bI i), offI i, none⟩)] w fun e w' => e = .returned (.tuple #[]) ∧ StU w w base bk (fset X i []) (fset M i 0) K w' := by
  obtain ⟨CS, A, c, h⟩ := h
  rcases hi with rfl
  refine (clear_row w base (bk (bI 5)) (offI 5) (tyB (bI 5)) (CS (bI 5)) (A 5) (X 5).length (c 5) (X 5) (M 5) (h.cells _ (by decide)) (h.sl 5 (by decide)) (h.mo 5 (by decide)) (h.own 5 (by decide)) (tyB_el _ 5 (by decide) (by decide))).mono ?_
  rintro e w' ⟨rfl, hP⟩
  exact ⟨rfl, St.step h 5 (by decide) rfl hP.q hbase⟩
theorem len_row_st (h : St w base bk X M K) (i : Nat) (hi : i = 5) :
    Calls Try.prog 25 #[.pointer (some ⟨bk (bI i), offI i, none⟩)] w fun e w' => e = .returned (.int .i64 ((X i).length : Int)) ∧ w = w' := by
  obtain ⟨CS, A, c, h⟩ := h
  rcases hi with rfl
  exact len_row w (bk (bI 5)) (offI 5) (A 5) (X 5).length (c 5) ((h.cells (bI 5) (by decide)).cellv (h.sl 5 (by decide)))
end Go.Proofs.Ytpfhljcihfabbaa
