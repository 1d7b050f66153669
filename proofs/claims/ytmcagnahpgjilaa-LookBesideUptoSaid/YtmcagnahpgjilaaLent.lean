/-
  The walks of the law's lent, kept: a text in memory of its own, with two marks behind it.
-/
import Derived.Test.YtmcagnahpgjilaaAwake
import Derived.Test.YtmcagnahpgjilaaLaws
namespace Go.Proofs.Ytmcagnahpgjilaa
open Go.RowKit
set_option linter.unusedVariables false

theorem info_int : (Try.prog.info? 3).map (fun i => (i.zero, i.size, i.bytes)) = some (some (.int .i64 0), 1, 8) := by kernel_rfl

/-- a row with the numbers ys and the two marks behind them -/
def marked (ys : List Int) : List Value := intv (ys ++ [-71, -72])
def LentPost (w : World) (xs : List Int) (n : Nat) (e : Ending) (w' : World) : Prop := ∃ g, e = .returned (.slice (some ⟨g, 0, none⟩) n (n + 2)) ∧ w'.ownsRow w.heap.size 3 1 (.slice (some ⟨g, 0, none⟩) (n + 2) (n + 2)) (n + 2) (marked xs) ∧ Upd Nob w w'

theorem zeros_two (xs : List Int) (n : Nat) : intv xs ++ (List.replicate (n + 2) (Value.int .i64 0)).drop (n * 1) = intv (xs ++ [0, 0]) := by
  rw [intv_append, List.drop_replicate, Nat.mul_one]
  congr 1
  rw [show n + 2 - n = 2 by omega]
  rfl
theorem mark_cells {w2 : World} {base g n : Nat} {xs : List Int} (hl : xs.length = n) (o2 : w2.ownsRow base 3 1 (.slice (some ⟨g, 0, none⟩) (n + 2) (n + 2)) (n + 2) (intv xs ++ (List.replicate (n + 2) (Value.int .i64 0)).drop (n * 1))) :
    w2.cell? ⟨g, n, none⟩ = some (.int .i64 0) ∧ w2.frozen? ⟨g, n, none⟩ = false ∧ w2.cell? ⟨g, n + 1, none⟩ = some (.int .i64 0) ∧ w2.frozen? ⟨g, n + 1, none⟩ = false := by
  rw [zeros_two] at o2
  refine ⟨?_, o2.frozenAt n, ?_, o2.frozenAt (n + 1)⟩
  · rw [o2.cellAt n (by omega), intv_append, List.getElem?_append_right (by simp [intv]; omega)]
    simp [intv, hl]
  · rw [o2.cellAt (n + 1) (by omega), intv_append, List.getElem?_append_right (by simp [intv]; omega)]
    simp [intv, hl]

set_option maxHeartbeats 1000000 in
theorem lent_any (w : World) (S : Nat → Prop) (A : Option Addr) (n c : Nat) (xs : List Int) (hx : TextR w S A n xs) :
    Calls Try.prog 9 #[.slice A n c] w (LentPost w xs n) := by
  obtain ⟨i0, hi0, hz0, hz1, hz2⟩ := info_parts info_int
  have hl := hx.len
  have hn := hx.n
  go_enter Try.func9, Try.ntmps9
  have hz : (madeCells (Value.int .i64 0).cells ((n + 2) * 1)).toList = List.replicate (n + 2) (.int .i64 0) := by
    have : (Value.int .i64 0).cells = #[Value.int .i64 0] := rfl
    rw [this, toList_madeCells_one, Nat.mul_one]
  have HZ := hide hz
  have HX := hide hx
  clear hz hx
  go_wp2_with (first
    | (at_make; refine wpList_make_full w rfl (.tmp 6) (.tmp 6) 22 rfl w.heap.size 3 i0 (.int .i64 0) 1 Try.underlying22 hi0 hz0 hz1 .i64 .i64 ((n : Int) + 2) ((n : Int) + 2) (n + 2) rfl rfl (by omega) (by omega) (by rw [hz2]; omega) (by unfold maxLen; omega) (Nat.le_refl _) ?_; intro w1 o1 hg1; rw [HZ.out] at o1; have hr1 := HX.out.r.upd ((Upd.refl Nob w).grown hg1 (by simp)) (fun _ _ => not_nob))
    | ((with_reducible show wpList _ _ _ _ _ _); refine wpList_copy_reads rfl (.tmp 8) (.tmp 9) 22 22 rfl w.heap.size 3 i0 1 Try.underlying22 hi0 hz1 w.heap.size (n + 2) (n + 2) _ rfl o1 S A n c (intv xs) rfl hr1 (intv_one xs) (by omega) ?_; intro w2 o2 hg2; obtain ⟨a0, a1, a2, a3⟩ := mark_cells hl o2))
  go_ret
  have hbs : w.heap.size < w2.heap.size := (o2.lt _ rfl).2
  have hd : intv xs ++ (List.replicate (n + 2) (Value.int .i64 0)).drop (n * 1) = intv (xs ++ [0, 0]) := zeros_two xs n
  rw [hd] at o2
  have o3 := (((o2.stored n (.int .i64 (-71))).1.stored (n + 1) (.int .i64 (-72))).1)
  have e3 : ((intv (xs ++ [0, 0])).set n (.int .i64 (-71))).set (n + 1) (.int .i64 (-72)) = marked xs := by
    have hil : (intv xs).length = n := by simp [intv, hl]
    unfold marked
    rw [intv_append, intv_append, List.set_append_right _ _ (by omega), List.set_append_right _ _ (by omega), hil]
    simp [intv]
  rw [e3] at o3
  refine ⟨_, rfl, o3, ?_⟩
  refine ((((Upd.refl Nob w).grown hg1 (by simp)).grown hg2 ?_).setCell _ _ ?_).setCell _ _ ?_
  · intro k hk hlt; injection hk with hk; omega
  · intro hlt; simp at hlt
  · intro hlt; simp at hlt

/-- the marked row's first n numbers read as a list -/
theorem marked_reads {w : World} {base g n : Nat} {ys : List Int} (hl : ys.length = n) (o : w.ownsRow base 3 1 (.slice (some ⟨g, 0, none⟩) (n + 2) (n + 2)) (n + 2) (marked ys)) :
    Reads w (fun k => k = g) 1 (some ⟨g, 0, none⟩) n (intv ys) := by
  refine ⟨by simp [intv, hl], fun hn => ⟨_, rfl, (o.lt g rfl).2, rfl, fun j u hj => ?_⟩⟩
  rw [add_lit_, Nat.zero_add]
  have hjl : j < n := by have := (List.getElem?_eq_some_iff.1 hj).1; simpa [intv, hl] using this
  rw [o.cellAt j (by omega)]
  unfold marked
  rw [intv_append, List.getElem?_append_left (by simp [intv, hl]; omega)]
  exact hj
theorem marked_marks {w : World} {base g n : Nat} {ys : List Int} (hl : ys.length = n) (o : w.ownsRow base 3 1 (.slice (some ⟨g, 0, none⟩) (n + 2) (n + 2)) (n + 2) (marked ys)) :
    w.cell? ⟨g, n, none⟩ = some (.int .i64 (-71)) ∧ w.cell? ⟨g, n + 1, none⟩ = some (.int .i64 (-72)) := by
  unfold marked at o
  refine ⟨?_, ?_⟩
  · rw [o.cellAt n (by omega), intv_append, List.getElem?_append_right (by simp [intv]; omega)]
    simp [intv, hl]
  · rw [o.cellAt (n + 1) (by omega), intv_append, List.getElem?_append_right (by simp [intv]; omega)]
    simp [intv, hl]

set_option maxHeartbeats 1000000 in
theorem kept_any (w : World) (base g : Nat) (S : Nat → Prop) (A : Option Addr) (n c : Nat) (xs : List Int) (hx : TextR w S A n xs) (o : w.ownsRow base 3 1 (.slice (some ⟨g, 0, none⟩) (n + 2) (n + 2)) (n + 2) (marked xs)) :
    Calls Try.prog 11 #[.slice (some ⟨g, 0, none⟩) n (n + 2), .slice A n c] w fun e w' => e = .returned (.bool true) ∧ ∃ q, w' = w.drewN q := by
  have hl := hx.len
  have hn := hx.n
  have hr := marked_reads hl o
  obtain ⟨m0, m1⟩ := marked_marks hl o
  go_enter Try.func11, Try.ntmps11
  go_wp2
  go_loopg [6] n (fun gk v6 wr => ∃ k q : Nat, k + gk = n ∧ v6 = .int .i64 (k : Int) ∧ wr = w.drewN q)
  case atStart => exact ⟨0, 0, by omega, rfl, rfl⟩
  case round =>
    obtain ⟨k, q, hk, rfl, rfl⟩ := hrel
    by_cases hlt : k < n
    · obtain ⟨ad, x, rfl, hxk, hcu⟩ := hx.r.int1 hlt
      obtain ⟨bd, y, e1, hyk, hcv⟩ := hr.int1 hlt
      injection e1 with e1
      subst e1
      rw [hxk] at hyk
      injection hyk with hyk
      subst hyk
      rw [add_lit_, Nat.zero_add] at hcv
      have H1 := hide hx
      have H2 := hide hr
      clear hx hr hxk
      go_wp2
      go_quiet (fail)
      go_wp2
      go_roundg (n - (k + 1))
      case measure => omega
      case rel => exact ⟨k + 1, _, by omega, by go_num, by first | rfl | rw [World.drewN_drewN]⟩
    · have hkn : k = n := by omega
      clear hk
      subst hkn
      go_wp2
      go_ret
      exact ⟨rfl, q, rfl⟩
end Go.Proofs.Ytmcagnahpgjilaa
