/-
  What the stack of a visit of pike leaves of the run.
-/
import Derived.Test.YtnkefclbchpafaaPut
import Derived.Test.YtnkefclbchpafaaFits
import Derived.Test.YtnkefclbchpafaaLkAt
import Derived.Test.YtnkefclbchpafaaStackP
import Derived.Test.YtnkefclbchpafaaRefCheck
namespace Go.Proofs.Ytnkefclbchpafaa
open Go.RowKit
set_option linter.unusedVariables false

theorem own_take {w : World} {base e n m size c : Nat} {A : Option Addr} {xs : List Value} (h : w.ownsRow base e size (.slice A n c) n xs) (hm : m ≤ n) : w.ownsRow base e size (.slice A m c) m (xs.take (m * size)) := by
  rcases h.2 with ⟨h', hn⟩ | ⟨g', cap', cur, h', hb, hg, hnc, hcm, hcs, ht⟩
  · injection h' with h1 h2 h3
    subst h1; subst h3
    obtain rfl : m = 0 := by omega
    exact ⟨by simp, .inl ⟨rfl, rfl⟩⟩
  · injection h' with h1 h2 h3
    subst h1; subst h3
    have hms : m * size ≤ n * size := Nat.mul_le_mul_right size hm
    refine ⟨?_, .inr ⟨g', c, cur, rfl, hb, hg, by omega, hcm, hcs, ?_⟩⟩
    · rw [List.length_take, h.1, Nat.min_eq_left hms]
    · rw [← ht, List.take_take, Nat.min_eq_left hms]

section
variable {w wr wa w9 : World} {n0 e0 b sb sg : Nat} {O O' NO NO' : Option Nat} {A : Option Addr} {c : Nat} {is : List PInst} {st : Int} {m : Nat} {T : Option Addr} {tc : Nat} {text : List Int} {j : Nat} {s : VSt}
/-- the stack grows: the run is as it was -/
theorem stk_grow {LA LA' : Option Addr} {n n' lc lc' : Nat} {xs : List Value} (h : PkR wr n0 e0 b sb sg O' NO' A c is st m T tc text j s) (hn0 : n0 ≤ w.heap.size) (hup : PkUpd b sb sg O O' NO NO' w wr)
    (hrow : wr.ownsRow w.heap.size 108 2 (.slice LA n lc) n xs) (hdis : ∀ k, (Value.slice LA n lc).ownBlock = some k → NO' ≠ some k)
    (hUa : Upd Nob wr wa) (hg : wa.grownBy w9 (Value.slice LA n lc).ownBlock) (hat : (Value.slice LA' n' lc').ownBlock = (Value.slice LA n lc).ownBlock ∨ ∃ k, (Value.slice LA' n' lc').ownBlock = some k ∧ wr.heap.size ≤ k) :
    PkR w9 n0 e0 b sb sg O' NO' A c is st m T tc text j s ∧ PkUpd b sb sg O O' NO NO' w w9 ∧ CapKeep sg O' O' wr w9 ∧ (∀ k, (Value.slice LA' n' lc').ownBlock = some k → NO' ≠ some k) := by
  obtain ⟨f1, f2, f3, f4, f5, f6, f7⟩ := h.facts
  have hU : Upd (fun k => (Value.slice LA n lc).ownBlock = some k) wr w9 := (hUa.mono (fun _ _ h => absurd h not_nob)).grown hg (fun k hk _ => hk)
  have hbk : ∀ k, (Value.slice LA n lc).ownBlock = some k → ∃ cur, Cells wr k 108 cur := fun k hk => by
    obtain ⟨cur, hC, -⟩ := own_cells hrow hk
    exact ⟨cur, hC⟩
  obtain ⟨SA, sc, ats, L, hSt, hO, hL⟩ := h.set_
  obtain ⟨N, nc, xs2, FA, fn, fc, wh, hC, hN, hNO, hT, hF⟩ := h.rest
  have hen := h.en
  have hi : ∀ k, IntB wr k → ¬ (Value.slice LA n lc).ownBlock = some k := fun k hk e => by
    obtain ⟨cur, hC⟩ := hbk k e
    exact hC.not_int (by decide) hk
  have hNlt : ∀ k, NO' = some k → k < wr.heap.size := fun k hk => (hN.lt k (hNO.trans hk)).2
  refine ⟨h.far hU (own_ne hrow hC (by decide)) (own_ne hrow hSt.blk (by decide)) ?_ ?_ (fun k hk e => hdis k e hk) hi ?_, ⟨hup.upd.trans hU (fun k hk e => ?_), hup.own, hup.nown⟩, ⟨hU.size, fun k hk hik h1 h2 => ⟨hU.block k hk (hi k hik), h2⟩⟩, ?_⟩
  · obtain ⟨cg, hcg, -⟩ := own_cells hSt.at_ rfl
    exact own_ne hrow hcg (by decide)
  · intro k hk
    obtain ⟨co, hco, -⟩ := own_cells hSt.own (hO.trans hk)
    exact own_ne hrow hco (by decide)
  · intro k hk e
    have := (hrow.lt k e).1
    omega
  · have := (hrow.lt k e).1
    omega
  · intro k hk
    rcases hat with e | ⟨k1, e, hk1⟩
    · exact hdis k (e.symm.trans hk)
    · rw [e] at hk
      injection hk with hk
      subst hk
      intro e2
      have := hNlt _ e2
      omega
/-- a block of threads that is not the next row's is none of what a step may turn -/
theorem PkR.thr_fp (h : PkR w n0 e0 b sb sg O NO A c is st m T tc text j s) {x : Nat} {cs : Array Value} (hx : Cells w x 108 cs) (hn : NO ≠ some x) : ¬ Fp b sb sg O NO x := by
  obtain ⟨SA, sc, ats, L, hSt, hO, hL⟩ := h.set_
  obtain ⟨N, nc, xs2, FA, fn, fc, wh, hC, hN, hNO, hT, hF⟩ := h.rest
  rintro (e | e | e | e | e)
  · exact Cells.ne_ hx hC (by decide) e
  · exact Cells.ne_ hx hSt.blk (by decide) e
  · obtain ⟨cg, hcg, -⟩ := own_cells hSt.at_ rfl
    exact Cells.ne_ hx hcg (by decide) e
  · obtain ⟨co, hco, -⟩ := own_cells hSt.own (hO.trans e)
    exact Cells.ne_ hx hco (by decide) rfl
  · exact hn e
theorem PkR.nlt (h : PkR w n0 e0 b sb sg O NO A c is st m T tc text j s) {k : Nat} (hk : NO = some k) : k < w.heap.size := by
  obtain ⟨N, nc, xs2, FA, fn, fc, wh, hC, hN, hNO, hT, hF⟩ := h.rest
  exact (hN.lt k (hNO.trans hk)).2
/-- what the stack holds behind a step of the run -/
theorem stk_step {O4 NO4 : Option Nat} {w4 : World} {LA : Option Addr} {n lc : Nat} {xs : List Value} {base : Nat} (h : PkR wr n0 e0 b sb sg O' NO' A c is st m T tc text j s) (hUP : PkUpd b sb sg O' O4 NO' NO4 wr w4)
    (hrow : wr.ownsRow base 108 2 (.slice LA n lc) n xs) (hdis : ∀ k, (Value.slice LA n lc).ownBlock = some k → NO' ≠ some k) :
    w4.ownsRow base 108 2 (.slice LA n lc) n xs ∧ (∀ k, (Value.slice LA n lc).ownBlock = some k → NO4 ≠ some k) := by
  refine ⟨own_upd hrow hUP.upd (fun k hk => ?_), fun k hk e => ?_⟩
  · obtain ⟨cur, hC, -⟩ := own_cells hrow hk
    exact h.thr_fp hC (hdis k hk)
  · rcases hUP.nown with h1 | ⟨k1, h1, h2⟩
    · exact hdis k hk (h1 ▸ e)
    · rw [h1] at e
      injection e with e
      subst e
      have := (hrow.lt k1 hk).2
      omega
theorem PkUpd.out {w1 : World} {F : Nat → Prop} (h : PkUpd b sb sg O O' NO NO' w wr) (hU : Upd F wr w1) (hF : ∀ k, k < w.heap.size → ¬ F k) : PkUpd b sb sg O O' NO NO' w w1 :=
  ⟨h.upd.trans hU (fun k hk e => absurd e (hF k hk)), h.own, h.nown⟩
end
end Go.Proofs.Ytnkefclbchpafaa
