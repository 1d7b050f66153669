/-
  RunC, ParS, put together.
-/
import Derived.Test.YtlaofcgllchedaaZ30Begin7
import Derived.Test.YtlaofcgllchedaaZ31Behind2
import Derived.Test.YtlaofcgllchedaaZ27ParP
import Derived.Test.YtlaofcgllchedaaZ28ParL
import Derived.Test.YtlaofcgllchedaaZ29TabN

/-
  What heronref06's begin, behind, choose, decide do, along a run.
-/
namespace Go.Proofs.Ytlaofcgllchedaa
set_option linter.unusedVariables false

def ConCl (F : Fx) (S : Nat → Prop) (cl : Nat) : Cl → WSt → WSt → Prop
  | .B n p c, s, s' => Con F S cl 28 n p c s s'
  | .K n p c, s, s' => ∀ s0 : WSt, s0.bg n p = false → s = { s0 with bg := mark2 s0.bg n p } → Con F S cl 28 n p c s0 s'
  | .A ms p c, s, s' => ConA F S cl p c ms s s'
  | .C n p c, s, s' => Con F S cl 42 n p c s s'
  | .D n p c, s, s' => Con F S cl 43 n p c s s'
  | .H n p c, s, s' => Con F S cl 37 n p c s s'
theorem run_con {F : Fx} {S : Nat → Prop} {cl : Nat} {E : Env} (hk : Tk F S cl) (hc : ∀ rs p, E.cls rs p = fitsB rs F.xs p) (ha : ∀ a p, E.asr a p = holdsB a (lookAt F.xs (p : Int))) {at_ : Nat} (hat : at_ = F.at_) {k : Cl} {s s' : WSt} (h : Run E F.l at_ k s s') : ConCl F S cl k s s' := by
  have hfl : ∀ rs p, fitsB rs F.xs p = true → p < F.xs.length := fun rs p h => by
    unfold fitsB at h
    cases hx : F.xs[p]? with
    | none => rw [hx] at h; cases h
    | some c => exact (List.getElem?_eq_some_iff.1 hx).1
  subst hat
  induction h with
  | Bmet n p c s hb => exact begin_met hk hb
  | Bgo n p c s s' hb _ ih => exact ih s hb rfl
  | K1 n p c s s' x hx hkd _ ih => intro s0 hb e; subst e; exact begin_1 hk hb hx hkd ih
  | K2y n p c s s' x hx hkd he _ ih =>
    intro s0 hb e
    subst e
    rw [hc] at he
    exact begin_2y hk hb hx hkd (hfl _ _ he) he ih
  | K2n n p c s x hx hkd he =>
    intro s0 hb e
    subst e
    rw [hc] at he
    by_cases hlt : p < F.xs.length
    · exact begin_2n hk hb hx hkd hlt he
    · exact begin_2e hk hb hx hkd hlt
  | K3y n p c s s' x hx hkd he _ ih => intro s0 hb e; subst e; exact begin_3y hk hb hx hkd (by rw [← ha]; exact he) ih
  | K3n n p c s x hx hkd he => intro s0 hb e; subst e; exact begin_3n hk hb hx hkd (by rw [← ha]; exact he)
  | K4 n p c s s' x hx hkd h0 _ ih =>
    intro s0 hb e
    subst e
    rcases hkd with hkd | hkd
    · exact begin_4 hk hb hx hkd h0 ih
    · exact begin_102 hk hb hx hkd h0 ih
  | K5 n p c s s' x hx hkd _ ih => intro s0 hb e; subst e; exact begin_5 hk hb hx hkd ih
  | K7 n p c s s' x hx hkd h0 _ ih => intro s0 hb e; subst e; exact begin_7 hk hb hx hkd h0 ih
  | Kq n p c s s' x hx hkd _ ih => intro s0 hb e; subst e; exact begin_103 hk hb hx hkd ih
  | Ks n p c s s' x hx hkd _ ih => intro s0 hb e; subst e; exact begin_101 hk hb hx hkd ih
  | A0 p c s => exact rfl
  | A1 m r p c s s1 s2 _ _ ih1 ih2 => exact ⟨s1, ih1, ih2⟩
  | Cy n p c s s1 s2 x hx h0 hz _ _ ih1 ih2 => exact choose_y hk hx h0 hz ih1 ih2
  | Cn n p c s s1 s2 x hx h0 hz _ _ ih1 ih2 => exact choose_n hk hx h0 hz ih1 ih2
  | Dmet n p c s hb => exact decide_met hk hb
  | Dgo n p c s s' hb _ ih => exact decide_go hk hb ih
  | Hmet n p c s x hx hu he => exact behind_met hk hx hu he
  | Hend n p c s x hx hu he => exact behind_end hk hx hu he
  | H4 n p c s s' x m y hx hu hy hkd hlt _ ih => exact behind_4 hk hx hu hy hkd hlt ih
  | H4e n p c s s' x m y hx hu hy hkd hlt _ ih => exact behind_4e hk hx hu hy hkd hlt ih
  | H7 n p c s s' x m y hx hu hy hkd _ ih => exact behind_7 hk hx hu hy hkd ih
  | Hl n p c s s' x m y hx hu hy hkd _ ih =>
    rcases hkd with hkd | hkd
    · exact behind_101 hk hx hu hy hkd ih
    · exact behind_102 hk hx hu hy hkd ih
  | Ho n p c s s' x m y hx hu hy hkd _ ih =>
    rcases hkd with hkd | hkd
    · exact behind_5 hk hx hu hy hkd ih
    · exact behind_103 hk hx hu hy hkd ih
end Go.Proofs.Ytlaofcgllchedaa

/-
  heronref06.Parses' walker as it stands ahead of begin.
-/
namespace Go.Proofs.Ytlaofcgllchedaa
open Go.RowKit
set_option linter.unusedVariables false

theorem own_head {w : World} {base e size n c : Nat} {A : Option Addr} {xs : List Value} (h : w.ownsRow base e size (.slice A n c) n xs) (hn : 0 < n) : ∃ g, A = some ⟨g, 0, none⟩ := by
  rcases h.2 with ⟨hv, h0⟩ | ⟨g, cap, cur, hv, -⟩
  · omega
  · injection hv with hv
    exact ⟨g, hv⟩
theorem NodeAt.weaken {w : World} {S S' : Nat → Prop} {tg i : Nat} {x : PN} (h : NodeAt w S tg i x) (hS : ∀ b, S b → S' b) : NodeAt w S' tg i x := by
  obtain ⟨RA, rc, SA, sc, h1, h2, h3, h4⟩ := h
  exact ⟨RA, rc, SA, sc, h1, h2.weaken_ hS, h3.weaken hS, h4⟩
theorem cntE_none (n : Nat) : cntE n (fun _ => false) = 0 := by simp [cntE]
theorem par_ready {t : Tree} {xs : List Int} {an : Nat} {w4 w5 w6 w8 : World} {base0 tb tg lc eb wb tc bc dc : Nat} {S0 D : Nat → Prop} {TA BA DA : Option Addr} {bgb dcb : Nat → Nat}
    (hT : TabR w4 base0 tb S0 D (unfT t []).1 (some ⟨tg, 0, none⟩) lc) (hok : TabOk t) (hx : TextR w4 (fun b => b < w4.heap.size) TA xs.length xs) (h64 : xs.length ≤ 64)
    (hE : Cells w5 eb 4 (rowC noMark (xs.length + 1))) (heb : w4.heap.size ≤ eb) (hwb : w4.heap.size ≤ wb) (hew : eb ≠ wb) (hU45 : Upd Nob w4 w5)
    (hM : Mks w5 w6 wb xs.length (unfT t []).1.length (unfT t []).1.length (.pointer (some ⟨tb, 0, none⟩)) (.slice TA xs.length tc) (.int .i64 (an : Nat)) (.slice (some ⟨eb, 0, none⟩) (xs.length + 1) (xs.length + 1)) (.slice none 0 0) BA DA bc dc bgb dcb)
    (hU68 : Upd Nob w6 w8) :
    ∃ (F : Fx) (S : Nat → Prop), F.wb = wb ∧ F.base = w8.heap.size ∧ F.l = (unfT t []).1 ∧ F.xs = xs ∧ F.at_ = an ∧ Rd F S w8 ∧ WkR F w8 st0 none 0 ∧ Tk F S (2 * grtT t + 2).toNat ∧ (∀ b, w6.heap.size ≤ b → ¬ MutF F b) ∧ ∀ b, MutF F b → w4.heap.size ≤ b := by
  have hlp := hok.lt
  obtain ⟨bo, rfl⟩ := own_head hM.bo (by omega)
  obtain ⟨dk, rfl⟩ := own_head hM.dk (by omega)
  have s45 := hU45.size
  have s56 := hM.upd.size
  have s68 := hU68.size
  have ub := own_upd hM.bo hU68 (fun _ _ => not_nob)
  have ud := own_upd hM.dk hU68 (fun _ _ => not_nob)
  obtain ⟨curB, cB, -⟩ := own_cells ub (g := bo) rfl
  obtain ⟨curD, cD, -⟩ := own_cells ud (g := dk) rfl
  have cW := hM.wk.upd hU68 not_nob
  have htb : tb < w4.heap.size := hT.size
  have htw : tb ≠ wb := by omega
  have U46 : Upd Nob w4 w6 := (hU45.mono (fun _ _ h => absurd h not_nob)).trans hM.upd (fun b hb e => by omega)
  have U48 : Upd Nob w4 w8 := U46.trans hU68 (fun _ _ h => h)
  have cE := (hE.upd hM.upd hew).upd hU68 not_nob
  have ebl : eb < w5.heap.size := hE.lt
  have hwl := hM.lo
  let F : Fx := { wb := wb, tb := tb, tg := tg, lc := lc, TA := TA, tc := tc, bo := bo, bc := bc, dk := dk, dkc := dc, bgb := bgb, dcb := dcb, eb := eb, ec := xs.length + 1, l := (unfT t []).1, xs := xs, at_ := an, base := w8.heap.size }
  let S : Nat → Prop := fun b => b < w4.heap.size ∨ b = bo ∨ b = dk
  have cG : ∀ i, i < (unfT t []).1.length → Cells w8 (bgb i) 4 (rowC noMark (xs.length + 1)) := fun i hi => (hM.bg i hi).1.upd hU68 not_nob
  have cH : ∀ i, i < (unfT t []).1.length → Cells w8 (dcb i) 4 (rowC noMark (xs.length + 1)) := fun i hi => (hM.dg i hi).1.upd hU68 not_nob
  have hlo : ∀ b, MutF F b → w4.heap.size ≤ b := fun b hb => by
    rcases hb with e | e | ⟨n, hn, rfl⟩ | ⟨n, hn, rfl⟩
    · rw [e]; exact hwb
    · rw [e]; exact heb
    · have := (hM.bg n hn).2; show w4.heap.size ≤ bgb n; omega
    · have := (hM.dg n hn).2; show w4.heap.size ≤ dcb n; omega
  have hlt : ∀ b, MutF F b → b < w6.heap.size := fun b hb => by
    rcases hb with e | e | ⟨n, hn, rfl⟩ | ⟨n, hn, rfl⟩
    · rw [e]; show wb < w6.heap.size; omega
    · rw [e]; show eb < w6.heap.size; omega
    · exact (hM.bg n hn).1.lt
    · exact (hM.dg n hn).1.lt
  have hrow : ∀ (g : Nat) (cur : Array Value), Cells w8 g 40 cur → ¬ MutF F g := fun g cur hc hb => by
    rcases hb with e | e | ⟨n, hn, e⟩ | ⟨n, hn, e⟩
    · exact Cells.ne_ hc cW (by decide) e
    · exact Cells.ne_ hc cE (by decide) e
    · exact Cells.ne_ hc (cG n hn) (by decide) e
    · exact Cells.ne_ hc (cH n hn) (by decide) e
  have hSlt : ∀ b, S b → b < w8.heap.size := fun b hb => by
    rcases hb with hb | rfl | rfl
    · have := U48.size; omega
    · exact cB.lt
    · exact cD.lt
  have hdis : Dis F S := ⟨fun b hb => by have := hlt b hb; show b < w8.heap.size; omega, fun b hb => ⟨hSlt b hb, by
      rcases hb with hb | rfl | rfl
      · intro hm; have := hlo b hm; omega
      · exact hrow _ _ cB
      · exact hrow _ _ cD⟩, hM.bb, hM.dd, hM.bd, fun i hi => by have := (hM.bg i hi).2; show bgb i ≠ eb; omega, fun i hi => by have := (hM.dg i hi).2; show dcb i ≠ eb; omega⟩
  have hg0 := hok.g0
  have hg1 := hok.g1
  have hll := hok.len
  refine ⟨F, S, rfl, rfl, rfl, rfl, rfl, ?_, ?_, ?_, fun b hb hm => by have := hlt b hm; omega, hlo⟩
  · exact ⟨hT.tab.upd U48 not_nob, fun i x hxi => ((hT.node hxi).upd U48 (fun _ _ => not_nob) (hT.lo_own tg rfl).2 (hT.lo_own tg rfl).2).weaken (fun b hb => .inl hb),
      fun n hn => (ub.cellAt n (by show n < (unfT t []).1.length * 1; have : n < (unfT t []).1.length := hn; omega)).trans (rowsV_at bgb xs.length hn),
      fun n hn => (ud.cellAt n (by show n < (unfT t []).1.length * 1; have : n < (unfT t []).1.length := hn; omega)).trans (rowsV_at dcb xs.length hn),
      ⟨(hx.upd U48 (fun _ _ => not_nob)).r.weaken (fun b hb => .inl hb), hx.i, hx.n⟩, .inl htb, .inl (hT.lo_own tg rfl).2, .inr (.inl rfl), .inr (.inr rfl), hSlt, Nat.le_refl _, by show (unfT t []).1.length ≤ 100000; omega, h64⟩
  · exact ⟨cW, fun n hn => cG n hn, fun n hn => cH n hn, cE, ⟨[], rfl, World.ownsRow_nil _ _ _ _, fun i p c g k hi => by simp [st0] at hi⟩, (cntE_none _).symm⟩
  · refine ⟨hdis, fun i x hxi h7 => ?_, fun i x hxi => (hok.all i x hxi).sub, fun i x hxi => ?_, by omega, by omega⟩
    · obtain ⟨a, b⟩ := (hok.all i x hxi).ix h7
      exact ⟨a, by omega⟩
    · have h := hok.all i x hxi
      exact ⟨h.n0, h.n1, h.up, h.few⟩
end Go.Proofs.Ytlaofcgllchedaa
