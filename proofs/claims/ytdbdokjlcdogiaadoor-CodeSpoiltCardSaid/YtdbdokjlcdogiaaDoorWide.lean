/-
  append of a slice that reads as a list, where the whole may be somewhat longer than what one argument may be: the bound is laid on the capacity that comes.
-/
import Derived.Test.YtdbdokjlcdogiaaDoorLaws
namespace Go.Proofs.YtdbdokjlcdogiaaDoor
open Go.RowKit
set_option linter.unusedVariables false

theorem cap_quarter {need old : Nat} (h : old < need) : 4 * Builtin.nextslicecap need old ≤ 5 * need + 4000 := by
  unfold Builtin.nextslicecap
  split
  · omega
  · split
    · omega
    · rw [growBy_four]
      repeat' split
      all_goals omega

section
variable {P : Program} {w : World}
theorem run_append_wide (base : Nat) (t ty e : TypeId) (i : TypeInfo) (z : Value) (bytes : Nat) (ht : P.underlying t = some (.slice e)) (hi : P.info? e = some i) (hz : i.zero = some z)
    (hsize : i.size = 1) (hby : i.bytes = bytes) (hzs : z.cells.size = 1)
    (v : Value) (n : Nat) (xs : List Value) (hown : w.ownsRow base e 1 v n xs)
    (S : Nat → Prop) (A : Option Addr) (m c : Nat) (news : List Value) (hr : Reads w S 1 A m news) (h1 : ∀ u ∈ news, u.oneCell' = true)
    (h63 : n + m ≤ maxLen) (hfit : (5 * (n + m) + 4000) * bytes ≤ 4 * 281474976710656) (hbase : base ≤ w.heap.size) :
    ∃ v' w', (Builtin.append_ #[t, t] ty #[v, .slice A m c]).run P w = .ok v' w' ∧ w'.ownsRow base e 1 v' (n + m) (xs ++ news) ∧ w.grownBy w' v.ownBlock ∧
      (v'.ownBlock = v.ownBlock ∨ v'.ownBlock = some w.heap.size) := by
  by_cases hm : m = 0
  · -- nothing is appended: no capacity is asked
    subst hm
    have hn : news = [] := List.eq_nil_of_length_eq_zero (by simpa using hr.1)
    subst hn
    rcases hown.2 with ⟨rfl, rfl⟩ | ⟨g, cap, cur, rfl, _, hg, hnc, _⟩
    · rcases A with _ | ad
      · exact ⟨_, w, by simp [Builtin.append_, run_underlying ht, sizeOf, typeInfo, hi, Builtin.lenOf, Builtin.firstCells], by simpa using hown, World.grownBy.refl w _, .inl rfl⟩
      · exact ⟨_, w, by simp [Builtin.append_, run_underlying ht, sizeOf, typeInfo, hi, Builtin.lenOf, Builtin.firstCells, loadCells, loadCellsFrom], by simpa using hown, World.grownBy.refl w _, .inl rfl⟩
    · rcases A with _ | ad
      · exact ⟨_, w, by simp [Builtin.append_, run_underlying ht, sizeOf, typeInfo, hi, Builtin.lenOf, Builtin.firstCells, hnc, storeCells], by simpa using hown, World.grownBy.refl w _, .inl rfl⟩
      · exact ⟨_, w, by simp [Builtin.append_, run_underlying ht, sizeOf, typeInfo, hi, Builtin.lenOf, Builtin.firstCells, hnc, storeCells, loadCells, loadCellsFrom], by simpa using hown, World.grownBy.refl w _, .inl rfl⟩
  obtain ⟨ad, rfl, _, _, hc⟩ := hr.2 (by omega)
  have hl := hr.1
  have htot : (xs ++ news).length = n + m := by rw [List.length_append, hown.1, hl]; omega
  have h9 : n + m ≤ 9223372036854775807 := by simp only [maxLen] at h63; omega
  -- a new row of whatever capacity owns both
  have fresh : ∀ old, old < n + m → (w.drew.alloc (.cells ((xs.toArray ++ news.toArray) ++ Builtin.zeroCells z.cells (grownCap w (n + m) old e - (n + m))) e)).ownsRow base e 1 (.slice (some ⟨w.heap.size, 0, none⟩) (n + m) (grownCap w (n + m) old e)) (n + m) (xs ++ news) := by
    intro old ho
    have q1 := grownCap_ge w (n + m) old e
    have q2 := grownCap_le_maxLen w (n + m) old e h63
    have sz : ((xs.toArray ++ news.toArray) ++ Builtin.zeroCells z.cells (grownCap w (n + m) old e - (n + m))).size = grownCap w (n + m) old e * 1 := by
      have := htot
      rw [List.length_append] at this
      simp only [Array.size_append, List.size_toArray, size_zeroCells, hzs]
      omega
    refine ⟨by omega, .inr ⟨_, _, _, rfl, hbase, heap_alloc_new w.drew _, q1, q2, sz, ?_⟩⟩
    have e1 : ((xs.toArray ++ news.toArray) ++ Builtin.zeroCells z.cells (grownCap w (n + m) old e - (n + m))).toList = (xs ++ news) ++ (Builtin.zeroCells z.cells (grownCap w (n + m) old e - (n + m))).toList := by simp
    rw [e1]
    exact List.take_left' (by omega)
  have gr : ∀ (o : Obj) (row : Option Nat), w.grownBy (w.drew.alloc o) row := fun o row => ⟨rfl, rfl, rfl, by simp, fun k hk _ => heap_alloc_old w.drew o hk⟩
  have room : ∀ old, old < n + m → Builtin.nextslicecap (n + m) old * i.bytes ≤ 281474976710656 := by
    intro old ho
    have h4 : 4 * (Builtin.nextslicecap (n + m) old * i.bytes) ≤ (5 * (n + m) + 4000) * i.bytes := by
      rw [← Nat.mul_assoc]
      exact Nat.mul_le_mul_right _ (cap_quarter ho)
    rw [hby] at h4 ⊢
    omega
  rcases hown.2 with ⟨rfl, rfl⟩ | ⟨g, cap, cur, rfl, hbg, hg, hnc, hcm, hcs, ht2⟩
  · have hx : xs = [] := List.eq_nil_of_length_eq_zero (by simpa using hown.1)
    subst hx
    have hn0 := room 0 (by omega)
    simp only [Nat.zero_add] at hn0
    rw [nextslicecap_zero (by omega)] at hn0
    have hrun := run_append_nil (P := P) w t ty e i z ht hi hz ad m c news (by rw [hl, hsize]) hc (by omega) (by omega) hn0
    have hf := fresh 0 (by omega)
    simp only [Nat.zero_add, List.nil_append, Array.empty_append] at hf ⊢
    exact ⟨_, _, hrun, hf, gr _ _, .inr rfl⟩
  · by_cases hroom : n + m ≤ cap
    · have hfit2 : n * i.size + news.length ≤ cur.size := by rw [hl, hcs, hsize]; omega
      have hrun := run_append_room (P := P) w t ty e i ht hi g n cap cur hg ad m c news (by rw [hl, hsize]) hc h1 hroom hfit2
      rw [hsize] at hrun hfit2
      refine ⟨_, _, hrun, ⟨by omega, .inr ⟨g, cap, _, rfl, hbg, setRow_heap w g cur _ e _ hg, hroom, hcm, ?_, ?_⟩⟩, ⟨rfl, rfl, rfl, by simp, fun k _ hk => setRow_other w g k _ (fun e => hk (by simp [Value.ownBlock, e]))⟩, .inl rfl⟩
      · simp only [List.size_toArray, List.length_append, List.length_take, List.length_drop, Array.length_toList]
        omega
      · have e2 : (xs ++ news).length = (n + m) * 1 := by omega
        rw [ht2, ← e2]
        exact List.take_left
    · have ho := hown.cells (g := g) rfl
      have hrun := run_append_grow (P := P) w t ty e i z ht hi hz ⟨g, 0, none⟩ n cap xs (by rw [hown.1, hsize]) ho ad m c news (by rw [hl, hsize]) hc (by omega) (by omega) (room cap (by omega))
      exact ⟨_, _, hrun, fresh cap (by omega), gr _ _, .inr rfl⟩

theorem wpList_append_wide {ops : Array Oper} {rest : List Oper} {o : Oper} {a : Act} {Q : Exit → Act → World → Prop} (hgd : o.guard = none) (s x : Operand) (t : TypeId)
    (ho : o.op = .call { callee := .builtin .append, args := #[s, x], argTypes := #[t, t] })
    (base : Nat) (e : TypeId) (i : TypeInfo) (z : Value) (bytes : Nat) (ht : P.underlying t = some (.slice e)) (hi : P.info? e = some i) (hz : i.zero = some z)
    (hsize : i.size = 1) (hby : i.bytes = bytes) (hzs : z.cells.size = 1)
    (v : Value) (n : Nat) (xs : List Value) (hs : a.eval s = v) (hown : w.ownsRow base e 1 v n xs)
    (S : Nat → Prop) (A : Option Addr) (m c : Nat) (news : List Value) (hx : a.eval x = .slice A m c) (hr : Reads w S 1 A m news) (h1 : ∀ u ∈ news, u.oneCell' = true)
    (h63 : n + m ≤ maxLen) (hfit : (5 * (n + m) + 4000) * bytes ≤ 4 * 281474976710656) (hbase : base ≤ w.heap.size)
    (h : ∀ v' w', w'.ownsRow base e 1 v' (n + m) (xs ++ news) → w.grownBy w' v.ownBlock → (v'.ownBlock = v.ownBlock ∨ v'.ownBlock = some w.heap.size) → wpList P ops Q rest (a.put o.dst v') w') : wpList P ops Q (o :: rest) a w := by
  refine wpList_plain hgd fun K hK => ?_
  obtain ⟨v', w', hrun, h2, h3, h4⟩ := run_append_wide (P := P) base t o.type e i z bytes ht hi hz hsize hby hzs v n xs hown S A m c news hr h1 h63 hfit hbase
  unfold Oper.wp execOp
  simp only [ho, resolve, invoke, builtin, Sem.run_bind, Sem.run_pure, Result.andThen_ok, List.map_toArray, List.map_cons, List.map_nil, hs, hx, hrun]
  exact hK _ _ (h v' w' h2 h3 h4)
end
end Go.Proofs.YtdbdokjlcdogiaaDoor
