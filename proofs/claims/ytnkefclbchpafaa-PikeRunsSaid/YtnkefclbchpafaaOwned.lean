/-
  The walk of heronlaw11's owned: numbers that came out are their owner's; rows with room behind them.
-/
import Derived.Test.YtnkefclbchpafaaRight
import Derived.ArgAppend
import Derived.Deep.DeepAppendRoom
import Derived.Maps.AppendAt
namespace Go.Proofs.Ytnkefclbchpafaa
open Go.RowKit
set_option linter.unusedVariables false

theorem oinfo_int : (Try.prog.info? 3).map (fun i => (i.zero, i.size, i.bytes)) = some (some (.int .i64 0), 1, 8) := by kernel_rfl
theorem oinfo_slice : (Try.prog.info? 28).map (fun i => (i.zero, i.size, i.bytes)) = some (some (.slice none 0 0), 1, 24) := by kernel_rfl
theorem rep_more (n : Nat) (v : Int) : intv (List.replicate n v) ++ [.int .i64 v] = intv (List.replicate (n + 1) v) := by
  rw [List.replicate_succ', intv_append]
  rfl

/-- a row that came out: where, how many, the room -/
abbrev Row3 := Option Addr × Nat × Nat
def rowV (r : Row3) : Value := .slice r.1 r.2.1 r.2.2
/-- the row's numbers in the world -/
def Holds3 (w : World) (r : Row3) (xs : List Int) : Prop := w.ownsRow 0 3 1 (rowV r) r.2.1 (intv xs)
/-- all of its numbers are v -/
def AllV (w : World) (r : Row3) (v : Int) : Prop := Holds3 w r (List.replicate r.2.1 v)
def OfRows (rows : List Row3) : Nat → Prop := fun b => ∃ r ∈ rows, (rowV r).ownBlock = some b
structure RowsR (w : World) (rb : Nat) (rows : List Row3) : Prop where
  blk : Cells w rb 28 (rows.map rowV).toArray
  ok : ∀ r ∈ rows, ∃ xs, Holds3 w r xs
  apart : ∀ (i j : Nat) r s b, rows[i]? = some r → rows[j]? = some s → (rowV r).ownBlock = some b → (rowV s).ownBlock = some b → i = j
  few : rows.length ≤ 1000
  short : ∀ r ∈ rows, r.2.1 ≤ 1000000

theorem Holds3.len {w : World} {r : Row3} {xs : List Int} (h : Holds3 w r xs) : xs.length = r.2.1 := by have := h.1; simpa [intv] using this
theorem Holds3.cell {w : World} {r : Row3} {xs : List Int} (h : Holds3 w r xs) {k : Nat} (hk : k < r.2.1) : ∃ g x, r.1 = some ⟨g, 0, none⟩ ∧ xs[k]? = some x ∧ w.cell? ⟨g, k, none⟩ = some (.int .i64 x) ∧ w.frozen? ⟨g, k, none⟩ = false := by
  obtain ⟨A, n, c⟩ := r
  obtain ⟨g, cap, hv, _, _⟩ := World.ownsRow.form h (by simp only at hk ⊢; omega)
  unfold rowV at hv
  injection hv with e1 _ e3
  simp only at e1 e3 hk
  subst e1 e3
  obtain ⟨x, hx⟩ : ∃ x, xs[k]? = some x := ⟨_, List.getElem?_eq_getElem (by have := h.len; simp only at this; omega)⟩
  refine ⟨g, x, rfl, hx, ?_, World.ownsRow.frozenAt h k⟩
  rw [World.ownsRow.cellAt h k (by simp only; omega)]
  exact intv_at hx
theorem Holds3.set_ {w : World} {g n c : Nat} {xs : List Int} (h : Holds3 w (some ⟨g, 0, none⟩, n, c) xs) (k : Nat) (x : Int) : Holds3 (w.setCell ⟨g, k, none⟩ (.int .i64 x)) (some ⟨g, 0, none⟩, n, c) (xs.set k x) := by
  have h1 := (World.ownsRow.stored h k (.int .i64 x)).1
  unfold Holds3
  rw [show intv (xs.set k x) = (intv xs).set k (.int .i64 x) by simp [intv, List.map_set]]
  exact h1
theorem Holds3.far {w : World} {r : Row3} {xs : List Int} (h : Holds3 w r xs) (g k : Nat) (u : Value) (hg : (rowV r).ownBlock ≠ some g) : Holds3 (w.setCell ⟨g, k, none⟩ u) r xs := own_far h _ u hg
theorem Holds3.upd {F : Nat → Prop} {w w' : World} {r : Row3} {xs : List Int} (h : Holds3 w r xs) (hU : Upd F w w') (hF : ∀ k, (rowV r).ownBlock = some k → ¬ F k) : Holds3 w' r xs := own_upd h hU hF
theorem own_block_ne {w : World} {b1 b2 s1 s2 n1 n2 : Nat} {e1 e2 : TypeId} {v1 v2 : Value} {xs ys : List Value} (h1 : w.ownsRow b1 e1 s1 v1 n1 xs) (h2 : w.ownsRow b2 e2 s2 v2 n2 ys) (hne : e1 ≠ e2) : ∀ k, v2.ownBlock = some k → ¬ v1.ownBlock = some k := by
  intro k hk
  obtain ⟨cur, hc, _⟩ := own_cells h2 hk
  exact own_ne h1 hc hne
theorem Holds3.at_ {w : World} {g n c : Nat} {xs : List Int} {r : Row3} (h : Holds3 w r xs) (hr : (rowV r).ownBlock = some g) : ∃ n c, r = (some ⟨g, 0, none⟩, n, c) := by
  obtain ⟨A, n, c⟩ := r
  rcases h.2 with ⟨h0, _⟩ | ⟨g', cap, cur, hv, _⟩
  · rw [h0] at hr; cases hr
  · unfold rowV at hv hr
    injection hv with e1 _ _
    simp only at e1 hr
    subst e1
    injection hr with e
    simp only at e
    subst e
    exact ⟨n, c, rfl⟩

theorem RowsR.set_ {w : World} {rb g k : Nat} {x : Int} {rows : List Row3} (h : RowsR w rb rows) (hne : rb ≠ g) : RowsR (w.setCell ⟨g, k, none⟩ (.int .i64 x)) rb rows :=
  ⟨h.blk.far _ _ hne, fun r hr => by
    obtain ⟨xs, hx⟩ := h.ok r hr
    by_cases e : (rowV r).ownBlock = some g
    · obtain ⟨n, c, rfl⟩ := Holds3.at_ (n := 0) (c := 0) hx e
      exact ⟨_, hx.set_ k x⟩
    · exact ⟨xs, hx.far _ _ _ e⟩, h.apart, h.few, h.short⟩
theorem RowsR.ne {w : World} {rb g : Nat} {rows : List Row3} (h : RowsR w rb rows) {r : Row3} (hr : r ∈ rows) (hg : (rowV r).ownBlock = some g) : rb ≠ g := by
  obtain ⟨xs, hx⟩ := h.ok r hr
  intro e
  subst e
  exact own_ne hx h.blk (by decide) hg

/-- a slice of the own row, cut down again -/
theorem own_less {w : World} {base : Nat} {e : TypeId} {A : Option Addr} {m n c : Nat} {v : Int} (h : w.ownsRow base e 1 (.slice A m c) m (intv (List.replicate m v))) (hn : n ≤ m) : w.ownsRow base e 1 (.slice A n c) n (intv (List.replicate n v)) := by
  refine ⟨by simp [intv], ?_⟩
  rcases h.2 with ⟨h0, h1⟩ | ⟨g, cap, cur, hv, hb, hg, hnc, hcm, hcs, ht⟩
  · injection h0 with e1 e2 e3
    subst e1 e3
    exact .inl ⟨by congr 1; omega, by omega⟩
  · injection hv with e1 _ e3
    subst e1 e3
    refine .inr ⟨g, c, cur, rfl, hb, hg, by omega, hcm, hcs, ?_⟩
    have h2 := congrArg (List.take n) ht
    rw [List.take_take] at h2
    rw [show n * 1 = min n (m * 1) by omega, h2]
    simp [intv, List.take_replicate]
    omega

section
variable {P : Program} {w : World}
/-- append of one element to a row of the call's own: in place, or in a new block -/
theorem wpList_append_keep {ops : Array Oper} {rest : List Oper} {o : Oper} {a : Act} {Q : Exit → Act → World → Prop} (hgd : o.guard = none) (s x : Operand) (t : TypeId)
    (ho : o.op = .call { callee := .builtin .append, args := #[s, x], argTypes := #[t, t] })
    (e : TypeId) (i : TypeInfo) (z : Value) (bytes : Nat) (ht : P.underlying t = some (.slice e)) (hi : P.info? e = some i) (hz : i.zero = some z)
    (hsize : i.size = 1) (hby : i.bytes = bytes) (hzs : z.cells.size = 1)
    (A : Option Addr) (n cp : Nat) (xs : List Value) (hs : a.eval s = .slice A n cp) (hr : w.ownsRow 0 e 1 (.slice A n cp) n xs)
    (b : Addr) (c : Nat) (u : Value) (hx : a.eval x = .slice (some b) 1 c) (hu : w.cell? b = some u) (h1 : u.oneCell' = true)
    (h63 : n + 1 ≤ maxLen) (hbytes : (n + 1) * bytes ≤ 140737488355328)
    (h : ∀ A' c' w', w'.ownsRow 0 e 1 (.slice A' (n + 1) c') (n + 1) (xs ++ [u]) → ((A' = A ∧ c' = cp ∧ w.grownBy w' (Value.slice A n cp).ownBlock) ∨ (w.grownBy w' none ∧ ∀ k, (Value.slice A' (n + 1) c').ownBlock = some k → w.heap.size ≤ k)) →
      wpList P ops Q rest (a.put o.dst (.slice A' (n + 1) c')) w') : wpList P ops Q (o :: rest) a w := by
  have hnews : ∀ j v, ([u] : List Value)[j]? = some v → w.cell? (b.add j) = some v := by
    intro j v hv
    match j, hv with
    | 0, hv => injection hv with hv; subst hv; rw [show b.add 0 = b by unfold Addr.add; simp]; exact hu
  have hone : ∀ v ∈ ([u] : List Value), v.oneCell' = true := by intro v hv; simp at hv; subst hv; exact h1
  have key : ∃ A' c' w', (Builtin.append_ #[t, t] o.type #[.slice A n cp, .slice (some b) 1 c]).run P w = .ok (.slice A' (n + 1) c') w' ∧ w'.ownsRow 0 e 1 (.slice A' (n + 1) c') (n + 1) (xs ++ [u]) ∧ ((A' = A ∧ c' = cp ∧ w.grownBy w' (Value.slice A n cp).ownBlock) ∨ (w.grownBy w' none ∧ ∀ k, (Value.slice A' (n + 1) c').ownBlock = some k → w.heap.size ≤ k)) := by
    rcases hr.2 with ⟨h0, hn0⟩ | ⟨g, cap, cur, hv, _, hg, hnc, hcm, hcs, htk⟩
    · injection h0 with e1 _ e3
      subst e1 e3 hn0
      have hx0 : xs = [] := List.eq_nil_of_length_eq_zero (by simpa using hr.1)
      subst hx0
      obtain ⟨v', w', r1, r2, r3, _, _⟩ := run_append_own_at (P := P) w w.heap.size t o.type e i z 1 bytes ht hi hz hsize hby hzs (by decide) (.slice none 0 0) 0 [] (World.ownsRow_nil _ _ _ _) b 1 c [u] rfl hnews hone h63 hbytes (Nat.le_refl _)
      obtain ⟨A', c', rfl⟩ := own_shape r2
      exact ⟨A', c', w', r1, own_base r2 (fun _ _ => Nat.zero_le _), .inr ⟨r3, fun k hk => (r2.lt k hk).1⟩⟩
    · injection hv with e1 _ e3
      subst e1 e3
      rcases Nat.lt_or_ge n cp with hlt | hge
      · obtain ⟨w', r1, r2, r3⟩ := run_append_own_spare (P := P) w 0 t o.type e i 1 ht hi hsize g n cp xs hr b 1 c [u] rfl hnews hone (by omega)
        exact ⟨_, cp, w', r1, r2, .inl ⟨rfl, rfl, r3⟩⟩
      · obtain ⟨v', w', r1, r2, r3⟩ := run_append_arg_grows (P := P) w t o.type e i z 1 bytes ht hi hz hsize hby hzs (by decide) ⟨g, 0, none⟩ n cp xs (by simpa using hr.1) (fun j v hv => by
          have hj : j < xs.length := (List.getElem?_eq_some_iff.1 hv).1
          rw [add_lit_, Nat.zero_add, hr.cellAt j (by have := hr.1; omega)]
          exact hv) b 1 c [u] rfl hnews (by omega) h63 hbytes
        obtain ⟨A', c', rfl⟩ := own_shape r2
        exact ⟨A', c', w', r1, own_base r2 (fun _ _ => Nat.zero_le _), .inr ⟨r3, fun k hk => (r2.lt k hk).1⟩⟩
  refine wpList_plain hgd fun K hK => ?_
  obtain ⟨A', c', w', hrun, h2, h3⟩ := key
  unfold Oper.wp execOp
  simp only [ho, resolve, invoke, builtin, Sem.run_bind, Sem.run_pure, Result.andThen_ok, List.map_toArray, List.map_cons, List.map_nil, hs, hx, hrun]
  exact hK _ _ (h A' c' w' h2 h3)
end

theorem AllV.of {w : World} {r : Row3} {xs : List Int} {v : Int} (h : Holds3 w r xs) (hv : ∀ j, j < r.2.1 → xs[j]? = some v) : AllV w r v := by
  have e : xs = List.replicate r.2.1 v := List.ext_getElem? fun j => by
    by_cases hj : j < r.2.1
    · rw [hv j hj, List.getElem?_replicate, if_pos hj]
    · rw [List.getElem?_eq_none (by have := h.len; omega), List.getElem?_eq_none (by simp; omega)]
  unfold AllV
  rw [← e]
  exact h
theorem Holds3.step {w : World} {g n c k : Nat} {xs : List Int} {v : Int} (h : Holds3 w (some ⟨g, 0, none⟩, n, c) xs) (hk : k < n) (hd : ∀ j, j < k → xs[j]? = some v) : ∀ j, j < k + 1 → (xs.set k v)[j]? = some v := by
  intro j hj
  have hl := h.len
  simp only at hl
  by_cases e : j = k
  · subst e
    rw [List.getElem?_set_self (by omega)]
  · rw [List.getElem?_set_ne (by omega)]
    exact hd j (by omega)

set_option maxRecDepth 100000 in
set_option maxHeartbeats 4000000 in
theorem owned_any (w : World) (rb c : Nat) (rows : List Row3) (h : RowsR w rb rows) :
    Calls Try.prog 18 #[.slice (some ⟨rb, 0, none⟩) rows.length c] w fun e w' => e = .returned (.bool true) ∧ Upd (OfRows rows) w w' := by
  have hfew := h.few
  have HF := hideP (And.intro h.apart h.short)
  go_enter Try.func18, Try.ntmps18
  go_wp2_with fail
  go_loopg [3] rows.length (fun gk v3 wr => ∃ i : Nat, i + gk = rows.length ∧ v3 = .int .i64 (i : Int) ∧ RowsR wr rb rows ∧ Upd (OfRows rows) w wr ∧ ∀ j r, j < i → rows[j]? = some r → AllV wr r (-9 - (j : Int)))
  case atStart => exact ⟨0, by omega, rfl, h, Upd.refl _ _, fun j r hj => by omega⟩
  case round =>
    obtain ⟨i, hk, rfl, hR, hU, hW⟩ := hrel
    by_cases hlt : i < rows.length
    · obtain ⟨⟨A, n, cp⟩, hr⟩ : ∃ r, rows[i]? = some r := ⟨_, List.getElem?_eq_getElem hlt⟩
      have hci : (rows.map rowV).toArray[i]? = some (.slice A n cp) := by simp [hr, rowV]
      have il : (i : Int) < (rows.length : Int) := by omega
      have hm := List.mem_of_getElem? hr
      have hsh : n ≤ 1000000 := HF.out.2 _ hm
      have HR := hideP hr
      have HK := hideP hk
      have HM := hideP hm
      have HC := hideP hci
      clear hr hk hm hci
      go_wp2_with fail
      go_loopg [4] n (fun gk v4 wq => ∃ k : Nat, k + gk = n ∧ v4 = .int .i64 (k : Int) ∧ RowsR wq rb rows ∧ Upd (OfRows rows) w wq ∧ (∀ j r, j < i → rows[j]? = some r → AllV wq r (-9 - (j : Int))) ∧ ∃ xs, Holds3 wq (A, n, cp) xs ∧ ∀ j, j < k → xs[j]? = some (-9 - (i : Int)))
      case atStart =>
        obtain ⟨xs, hx⟩ := hR.ok _ HM.out
        exact ⟨0, by omega, rfl, hR, hU, hW, xs, hx, fun j hj => by omega⟩
      case round =>
        obtain ⟨k, hk, rfl, hRq, hUq, hWq, xs, hx, hd⟩ := hrel
        have b0 : wr.cell? ⟨rb, i, none⟩ = some (.slice A n cp) := hRq.blk.cellv HC.out
        by_cases hkn : k < n
        · obtain ⟨g, u, hg, hu, cg, fg⟩ := hx.cell (k := k) hkn
          simp only at hg
          subst hg
          have kn : (k : Int) < (n : Int) := by omega
          have HRq := hideP (hRq.set_ (k := k) (x := -9 - (i : Int)) (hRq.ne HM.out rfl))
          have HUq := hideP (hUq.setCell ⟨g, k, none⟩ (.int .i64 (-9 - (i : Int))) (fun _ => ⟨_, HM.out, rfl⟩))
          have HWq := hideP (fun (j : Nat) r (hj : j < i) (hr : rows[j]? = some r) => Holds3.far (hWq j r hj hr) g k (.int .i64 (-9 - (i : Int))) (fun e => by have := HF.out.1 j i r _ g hr HR.out e rfl; omega))
          have HXs := hideP (And.intro (hx.set_ k (-9 - (i : Int))) (hx.step hkn hd))
          clear hRq hUq hWq hx hd hu
          go_wp2_with fail
          go_roundg (n - (k + 1))
          case measure => omega
          case rel => exact ⟨k + 1, by omega, by go_num, HRq.out, HUq.out, HWq.out, _, HXs.out.1, HXs.out.2⟩
        · have kn : ¬ (k : Int) < (n : Int) := by omega
          have hkn2 : k = n := by omega
          have HRq := hideP hRq
          have HUq := hideP hUq
          have HWq := hideP hWq
          have HX := hideP (AllV.of (v := -9 - (i : Int)) hx (fun j hj => hd j (by simp only at hj; omega)))
          clear hRq hUq hWq hx hd
          go_wp2_with fail
          have hk := HK.out
          go_roundg (rows.length - (i + 1))
          case measure => omega
          case rel => exact ⟨i + 1, by omega, by go_num, HRq.out, HUq.out, fun j r hj hr => (by
            by_cases hji : j = i
            · subst hji
              rw [HR.out] at hr
              injection hr with hr
              subst hr
              exact HX.out
            · exact HWq.out j r (by omega) hr)⟩
    · have hie : i = rows.length := by omega
      clear hk
      subst hie
      have HR := hideP hR
      have HU := hideP hU
      have HALL := hideP (fun (j : Nat) (r : Row3) (hj : rows[j]? = some r) => hW j r (List.getElem?_eq_some_iff.1 hj).1 hj)
      clear hR hU hW
      obtain ⟨i0, hi0, hz0, hz1, hz2⟩ := info_parts oinfo_int
      obtain ⟨s0, hs0, hy0, hy1, hy2⟩ := info_parts oinfo_slice
      have hRB := hideP (fun (j : Nat) (r : Row3) (hj : rows[j]? = some r) => (show (rows.map rowV).toArray[j]? = some (rowV r) by simp [hj]))
      go_wp2_with fail
      obtain ⟨w1, hw1⟩ : ∃ w1, w1 = wr := ⟨_, rfl⟩
      rw [← hw1]
      rw [← hw1] at HR HU HALL
      clear hw1
      have HLT := hideP (fun (j : Nat) (r : Row3) (hj : rows[j]? = some r) (b : Nat) (hb : (rowV r).ownBlock = some b) => ((HALL.out j r hj).lt b hb).2)
      go_loopg [5, 6] rows.length (fun gk v5 v6 wr => ∃ (i : Nat) (A5 : Option Addr) (c5 : Nat) (L : List Value) (w2 : World), w2 = wr ∧ i + gk = rows.length ∧ v5 = .slice A5 (2 * i) c5 ∧ v6 = .int .i64 (i : Int) ∧ Upd (OfRows rows) w1 wr ∧
        wr.ownsRow w1.heap.size 28 1 (.slice A5 (2 * i) c5) (2 * i) L ∧ (∀ (j : Nat) r, rows[j]? = some r → AllV wr r (-9 - (j : Int))) ∧
        ∀ j, j < i → ∃ r A' n' c', rows[j]? = some r ∧ L[2 * j]? = some (.slice A' n' c') ∧ L[2 * j + 1]? = some (rowV r) ∧ n' ≤ 2000000 ∧ AllV wr (A', n', c') (-9 - (j : Int)) ∧ (A' = r.1 ∨ ∀ b, (Value.slice A' n' c').ownBlock = some b → w1.heap.size ≤ b))
      case atStart => exact ⟨0, none, 0, [], _, rfl, by omega, rfl, rfl, Upd.refl _ _, World.ownsRow_nil _ _ _ _, HALL.out, fun p hp => by omega⟩
      case round =>
        obtain ⟨i, A5, c5, L, w2, rfl, hk, rfl, rfl, hU2, o5, hAll, hL⟩ := hrel
        by_cases hlt : i < rows.length
        · obtain ⟨⟨A, n, cp⟩, hr⟩ : ∃ r, rows[i]? = some r := ⟨_, List.getElem?_eq_getElem hlt⟩
          have hrbn : ¬ OfRows rows rb := fun ⟨s, hs, hsb⟩ => HR.out.ne hs hsb rfl
          have b0 : w2.cell? ⟨rb, i, none⟩ = some (.slice A n cp) := (HR.out.blk.upd hU2 hrbn).cellv (hRB.out i _ hr)
          have il : (i : Int) < (rows.length : Int) := by omega
          have hsh : n ≤ 1000000 := HF.out.2 _ (List.mem_of_getElem? hr)
          have hV := hAll i _ hr
          have hlow := fun b hb => ((HALL.out i _ hr).lt b hb).2
          have HK := hideP hk
          have HRI := hideP hr
          have HU2 := hideP hU2
          have HO5 := hideP o5
          have HL := hideP hL
          have HAL := hideP hAll
          have HV := hideP hV
          clear hr hk hU2 o5 hL hAll hV hlow hrbn
          go_wp2_with fail
          go_loopg [7, 8] 20 (fun gk v7 v8 wr => ∃ (k : Nat) (A7 : Option Addr) (c7 : Nat), k + gk = 20 ∧ v8 = .int .i64 (k : Int) ∧ v7 = .slice A7 (n + k) c7 ∧ Upd (fun b => (rowV (A, n, cp)).ownBlock = some b) w2 wr ∧
            AllV wr (A, n, cp) (-9 - (i : Int)) ∧ AllV wr (A7, n + k, c7) (-9 - (i : Int)) ∧ ((A7 = A ∧ c7 = cp) ∨ ∀ b, (Value.slice A7 (n + k) c7).ownBlock = some b → w2.heap.size ≤ b))
          case atStart => exact ⟨0, A, cp, by omega, rfl, rfl, Upd.refl _ _, HV.out, HV.out, .inl ⟨rfl, rfl⟩⟩
          case round =>
            obtain ⟨k, A7, c7, hk, rfl, rfl, hU7, hA, o7, h7⟩ := hrel
            by_cases hk20 : k < 20
            · have k20 : (k : Int) < 20 := by omega
              have vw : IntKind.i64.wrap (-9 - (i : Int)) = -9 - (i : Int) := by rw [IntKind.wrap_i64]; omega
              have hsr := hU7.size
              have hNU := (Upd.refl Nob wr).alloc (.cells #[(.int .i64 (-9 - (i : Int)))] 3)
              have HU7 := hideP hU7
              have HA := hideP hA
              have HO7 := hideP o7
              have HX7 := hideP h7
              have hO7' := own_upd (F := Nob) o7 hNU (fun _ _ => not_nob)
              clear hU7 hA o7 h7 hNU
              go_wp2_with (at_builtin; refine wpList_append_keep rfl _ _ 28 rfl 3 i0 (.int .i64 0) 8 Try.underlying28 hi0 hz0 hz1 hz2 rfl A7 (n + k) c7 _ rfl hO7' ⟨wr.heap.size, 0, none⟩ 1 (.int .i64 (-9 - (i : Int))) rfl ?c1 rfl ?c2 ?c3 ?_)
              case c2 => unfold maxLen; omega
              case c3 => omega
              intro A8 c8 w8 o8 g8
              rw [rep_more] at o8
              have hB : (Value.slice A (n + k) cp).ownBlock = (rowV (A, n, cp)).ownBlock := by cases A <;> rfl
              have hlow := fun b hb => (HV.out.lt b hb).2
              have hA8 := own_upd (F := Nob) HA.out ((Upd.refl Nob wr).alloc (.cells #[(.int .i64 (-9 - (i : Int)))] 3)) (fun _ _ => not_nob)
              have hU8 := HU7.out.alloc (.cells #[(.int .i64 (-9 - (i : Int)))] 3)
              have hfin : Upd (fun b => (rowV (A, n, cp)).ownBlock = some b) w2 w8 ∧ AllV w8 (A, n, cp) (-9 - (i : Int)) ∧ ((A8 = A ∧ c8 = cp) ∨ ∀ b, (Value.slice A8 (n + k + 1) c8).ownBlock = some b → w2.heap.size ≤ b) := by
                rcases g8 with ⟨rfl, rfl, g8⟩ | ⟨g8, hfr⟩
                · rcases HX7.out with ⟨rfl, rfl⟩ | hge
                  · exact ⟨hU8.grown g8 (fun b hb _ => by rw [← hB]; exact hb), own_less o8 (show n ≤ n + k + 1 by omega), .inl ⟨rfl, rfl⟩⟩
                  · refine ⟨hU8.grown g8 (fun b hb hl => absurd hl (by have := hge b hb; omega)), own_upd hA8 ((Upd.refl (fun b => (Value.slice A8 (n + k) c8).ownBlock = some b) _).grown g8 (fun b hb _ => hb)) (fun b hb h => by have := hge b h; have := hlow b hb; omega), .inr fun b hb => ?_⟩
                    rcases A8 with _ | a8
                    · cases hb
                    · exact hge b hb
                · refine ⟨hU8.grown g8 (fun b hb _ => by cases hb), own_upd hA8 ((Upd.refl Nob _).grown g8 (fun b hb _ => by cases hb)) (fun _ _ => not_nob), .inr fun b hb => ?_⟩
                  have := hfr b hb
                  omega
              have HF8 := hideP hfin
              have HO8 := hideP o8
              clear hfin o8 g8 hA8 hU8 hO7' hB hlow
              go_wp2_with fail
              go_roundg (20 - (k + 1))
              case measure => omega
              case rel => exact ⟨k + 1, A8, c8, by omega, by go_num, rfl, HF8.out.1, HF8.out.2.1, HO8.out, HF8.out.2.2⟩
            · have k20 : ¬ (k : Int) < 20 := by omega
              obtain rfl : k = 20 := by omega
              have hsr := hU7.size
              have hrbn : ¬ (rowV (A, n, cp)).ownBlock = some rb := fun e => HR.out.ne (List.mem_of_getElem? HRI.out) e rfl
              have b0 : wr.cell? ⟨rb, i, none⟩ = some (.slice A n cp) := (World.cell?_of_block (hU7.block rb (Nat.lt_of_lt_of_le HR.out.blk.lt HU2.out.size) hrbn)).trans b0
              have HU7 := hideP hU7
              have HA := hideP hA
              have HO7 := hideP o7
              have HX7 := hideP h7
              have hrow : ∀ b, (Value.slice A5 (2 * i) c5).ownBlock = some b → ¬ (rowV (A, n, cp)).ownBlock = some b := fun b hb e => own_block_ne HO5.out HV.out (by decide) b e hb
              have HO5w := hideP (own_upd HO5.out HU7.out hrow)
              clear hU7 o7 h7 hA hrbn hrow
              go_wp2_with (at_builtin; refine wpList_append_own_at _ rfl _ _ 42 rfl w1.heap.size 28 s0 (.slice none 0 0) 1 24 Try.underlying42 hs0 hy0 hy1 hy2 rfl (by decide) _ _ _ rfl (HO5w.out.alloc _) ⟨wr.heap.size, 0, none⟩ 2 2 [.slice A7 (n + 20) c7, .slice A n cp] rfl rfl ?m1 ?m2 ?m3 ?m4 ?m5 ?_)
              case m2 => exact ⟨rfl, rfl⟩
              case m3 => unfold maxLen; omega
              case m4 => omega
              case m5 => have := HU2.out.size; simp; omega
              intro v9 w9 o9 g9 _ hat
              obtain ⟨A9, c9, rfl⟩ := own_shape o9
              have hUx : Upd (fun b => (Value.slice A5 (2 * i) c5).ownBlock = some b) wr w9 := ((Upd.refl (fun b => (Value.slice A5 (2 * i) c5).ownBlock = some b) wr).alloc (.cells #[.slice A7 (n + 20) c7, .slice A n cp] 28)).grown g9 (fun b hb _ => hb)
              have hU9 : Upd (OfRows rows) w1 w9 := (HU2.out.trans HU7.out (fun b hb h => ⟨_, List.mem_of_getElem? HRI.out, h⟩)).trans hUx (fun b hb h => absurd (HO5.out.lt b h).1 (by omega))
              have hAL9 : ∀ (j : Nat) r, rows[j]? = some r → AllV w9 r (-9 - (j : Int)) := fun j r hj => by
                have hr7 : AllV wr r (-9 - (j : Int)) := by
                  by_cases e : j = i
                  · subst e
                    rw [HRI.out] at hj
                    injection hj with hj
                    subst hj
                    exact HA.out
                  · exact own_upd (HAL.out j r hj) HU7.out (fun b hb h => e (HF.out.1 j i r _ b hj HRI.out hb h))
                exact own_upd hr7 hUx (own_block_ne HO5w.out hr7 (by decide))
              have hL9 : ∀ j, j < i + 1 → ∃ r A' n' c', rows[j]? = some r ∧ (L ++ [Value.slice A7 (n + 20) c7, Value.slice A n cp])[2 * j]? = some (.slice A' n' c') ∧ (L ++ [Value.slice A7 (n + 20) c7, Value.slice A n cp])[2 * j + 1]? = some (rowV r) ∧ n' ≤ 2000000 ∧ AllV w9 (A', n', c') (-9 - (j : Int)) ∧ (A' = r.1 ∨ ∀ b, (Value.slice A' n' c').ownBlock = some b → w1.heap.size ≤ b) := by
                intro j hj
                have hll : L.length = 2 * i := by have := HO5.out.1; omega
                by_cases h1 : j < i
                · obtain ⟨r, A', n', c', q1, q2, q3, q4, q5, q6⟩ := HL.out j h1
                  have q7 : AllV wr (A', n', c') (-9 - (j : Int)) := own_upd q5 HU7.out (fun b hb h => by
                    rcases q6 with q6 | q6
                    · refine absurd (HF.out.1 j i r _ b q1 HRI.out ?_ h) (by omega)
                      subst q6
                      obtain ⟨ra, rn, rc⟩ := r
                      simp only at hb
                      rcases ra with _ | ra
                      · cases hb
                      · exact hb
                    · have := q6 b hb
                      have := HLT.out i _ HRI.out b h
                      omega)
                  exact ⟨r, A', n', c', q1, by rw [List.getElem?_append_left (by omega)]; exact q2, by rw [List.getElem?_append_left (by omega)]; exact q3, q4, own_upd q7 hUx (own_block_ne HO5w.out q7 (by decide)), q6⟩
                · obtain rfl : j = i := by omega
                  refine ⟨(A, n, cp), A7, n + 20, c7, HRI.out, by rw [List.getElem?_append_right (by omega), hll, Nat.sub_self]; rfl, by rw [List.getElem?_append_right (by omega), hll, show 2 * j + 1 - 2 * j = 1 by omega]; rfl, by omega, own_upd HO7.out hUx (own_block_ne HO5w.out HO7.out (by decide)), ?_⟩
                  rcases HX7.out with ⟨h8, _⟩ | h8
                  · exact .inl h8
                  · exact .inr fun b hb => Nat.le_trans HU2.out.size (h8 b hb)
              have HU9 := hideP hU9
              have HO9 := hideP o9
              have HL9 := hideP hL9
              have HAL9 := hideP hAL9
              clear hU9 o9 hL9 hUx hAL9 g9 hat
              go_wp2_with fail
              have hk := HK.out
              go_roundg (rows.length - (i + 1))
              case measure => omega
              case rel => exact ⟨i + 1, A9, c9, _, w9, rfl, by omega, rfl, by go_num, HU9.out, HO9.out, HAL9.out, HL9.out⟩
        · have il : ¬ (i : Int) < (rows.length : Int) := by omega
          obtain rfl : i = rows.length := by omega
          have hLp : ∀ p, p < 2 * rows.length → ∃ A' n' c', L[p]? = some (.slice A' n' c') ∧ n' ≤ 2000000 ∧ AllV w2 (A', n', c') (-9 - ((p / 2 : Nat) : Int)) := by
            intro p hp
            obtain ⟨r, A', n', c', q1, q2, q3, q4, q5, q6⟩ := hL (p / 2) (by omega)
            by_cases h0 : p = 2 * (p / 2)
            · exact ⟨A', n', c', by rw [h0]; exact q2, q4, q5⟩
            · refine ⟨r.1, r.2.1, r.2.2, ?_, ?_, hAll (p / 2) r q1⟩
              · rw [show p = 2 * (p / 2) + 1 by omega]
                exact q3
              · have := HF.out.2 r (List.mem_of_getElem? q1)
                omega
          have HU2 := hideP hU2
          have HO5 := hideP o5
          have HL := hideP hLp
          clear hU2 o5 hL hk hAll hLp
          go_wp2_with fail
          go_loopg [9] (2 * rows.length) (fun gk v9 wr => ∃ p : Nat, p + gk = 2 * rows.length ∧ v9 = .int .i64 (p : Int) ∧ w2 = wr)
          case atStart => exact ⟨0, by omega, rfl, rfl⟩
          case round =>
            obtain ⟨p, hp, rfl, rfl⟩ := hrel
            by_cases hpl : p < 2 * rows.length
            · obtain ⟨A', n', c', g1, g2, g3⟩ := HL.out p hpl
              have cl : ∃ gl : Nat, A5 = some ⟨gl, 0, none⟩ ∧ w2.cell? ⟨gl, p, none⟩ = some (.slice A' n' c') := by
                obtain ⟨gl, cap, hv, _, _⟩ := HO5.out.form (by omega)
                injection hv with e1 _ _
                subst e1
                exact ⟨gl, rfl, (HO5.out.cellAt p (by omega)).trans g1⟩
              obtain ⟨gl, rfl, cl⟩ := cl
              have pl : (p : Int) < 2 * (rows.length : Int) := by omega
              have HG3 := hideP g3
              have HPp := hideP hp
              clear g1 g3 hp
              go_wp2_with fail
              go_loopg [10] n' (fun gk v10 wr => ∃ k : Nat, k + gk = n' ∧ v10 = .int .i64 (k : Int) ∧ w2 = wr)
              case atStart => exact ⟨0, by omega, rfl, rfl⟩
              case round =>
                obtain ⟨k, hk, rfl, rfl⟩ := hrel
                by_cases hkn : k < n'
                · obtain ⟨ag, x, hag, hx, hcx, _⟩ := HG3.out.cell (k := k) hkn
                  simp only at hag hx
                  subst hag
                  obtain rfl : (-9 - ((p / 2 : Nat) : Int)) = x := by
                    rw [List.getElem?_replicate, if_pos hkn] at hx
                    injection hx
                  have kn : (k : Int) < (n' : Int) := by omega
                  have q1 : (p : Int) / 2 = ((p / 2 : Nat) : Int) := by omega
                  have q2 : (p : Int).tdiv 2 = ((p / 2 : Nat) : Int) := by rw [Int.tdiv_eq_ediv_of_nonneg (by omega)]; omega
                  have hpb : p / 2 ≤ 1000 := by omega
                  have w1 : IntKind.i64.wrap ((p / 2 : Nat) : Int) = ((p / 2 : Nat) : Int) := by rw [IntKind.wrap_i64]; omega
                  generalize p / 2 = ph at *
                  clear hx
                  go_wp2_with fail
                  go_roundg (n' - (k + 1))
                  case measure => omega
                  case rel => exact ⟨k + 1, by omega, by go_num, rfl⟩
                · have kn : ¬ (k : Int) < (n' : Int) := by omega
                  go_wp2_with fail
                  have hp := HPp.out
                  go_roundg (2 * rows.length - (p + 1))
                  case measure => omega
                  case rel => exact ⟨p + 1, by omega, by go_num, rfl⟩
            · have pl : ¬ (p : Int) < 2 * (rows.length : Int) := by omega
              go_wp2_with fail
              go_ret
              exact ⟨rfl, HU.out.trans HU2.out (fun _ _ h => h)⟩
end Go.Proofs.Ytnkefclbchpafaa
