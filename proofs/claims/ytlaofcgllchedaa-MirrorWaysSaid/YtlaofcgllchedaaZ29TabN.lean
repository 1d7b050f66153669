/-
  WkC, TabN, put together.
-/
import Derived.Test.YtlaofcgllchedaaZ19Wk
import Derived.Test.YtlaofcgllchedaaZ23UnfO

/-
  The contracts of heronref06's walker; the walks of decide and choose.
-/
namespace Go.Proofs.Ytlaofcgllchedaa
open Go.RowKit
set_option linter.unusedVariables false

/-- what holds of the row of nodes, besides -/
structure Tk (F : Fx) (S : Nat → Prop) (cl : Nat) : Prop where
  dis : Dis F S
  ix : ∀ (i : Nat) (x : PN), F.l[i]? = some x → x.kind = 7 → 0 ≤ x.ix ∧ 2 * x.ix + 1 < (cl : Int)
  sub : ∀ (i : Nat) (x : PN), F.l[i]? = some x → ∀ s ∈ x.subs, s < F.l.length
  nth : ∀ (i : Nat) (x : PN), F.l[i]? = some x → 0 ≤ x.nth ∧ x.nth ≤ 1000000 ∧ x.up < F.l.length ∧ x.subs.length ≤ 1000000
  cl2 : 2 ≤ cl
  clm : cl ≤ 4000
def Con (F : Fx) (S : Nat → Prop) (cl : Nat) (fn : Nat) (n p : Nat) (c : List Int) (s s' : WSt) : Prop :=
  n < F.l.length → p ≤ F.xs.length → c.length = cl → ∀ (w : World) (OA : Option Addr) (oc : Nat) (CA : Option Addr) (cc : Nat), Rd F S w → WkR F w s OA oc → CapR w F OA CA c →
    Calls Try.prog fn #[.pointer (some ⟨F.wb, 0, none⟩), .int .i64 (n : Int), .int .i64 (p : Int), .slice CA cl cc] w (Ans F w s' OA)
theorem WkR.lo {F : Fx} {w : World} {s : WSt} {OA : Option Addr} {oc : Nat} (h : WkR F w s OA oc) : ∀ b, OA.map (·.block) = some b → F.base ≤ b := fun b hb => (h.out.lo hb).1
theorem WkR.mark_d {F : Fx} {S : Nat → Prop} {w : World} {s : WSt} {OA : Option Addr} {oc n p : Nat} (hd : Dis F S) (h : WkR F w s OA oc) (hn : n < F.l.length) : Nx F w { s with dc := mark2 s.dc n p } OA (w.setCell ⟨F.dcb n, p, none⟩ (.bool true)) OA oc := by
  have hm : MutF F (F.dcb n) := .inr (.inr (.inr ⟨n, hn, rfl⟩))
  have hU := (Upd.refl (fun b => b = F.dcb n) w).setCell ⟨F.dcb n, p, none⟩ (.bool true) (fun _ => rfl)
  have hwk : F.wb ≠ F.dcb n := Cells.ne_ h.wk (h.dc n hn) (by decide)
  refine ⟨⟨h.wk.upd hU hwk, fun i hi => (h.bg i hi).upd hU (hd.bd i n hi hn), fun i hi => ?_, h.en.upd hU (fun e => hd.de n hn e.symm), h.out.upd hU (fun b hb e => by have := hd.lt _ hm; omega), h.cnt⟩, hU.mono (fun b _ e => .inl (by subst e; exact hm)), .inl rfl⟩
  by_cases e : i = n
  · subst e
    have := (h.dc i hi).set_ p (.bool true)
    rwa [rowC_set (b := s.dc i) (b' := mark2 s.dc i p i) (by simp [mark2]) (fun q hq => by simp [mark2, hq])] at this
  · have : mark2 s.dc n p i = s.dc i := by funext q; simp [mark2, e]
    show Cells _ _ _ (rowC (mark2 s.dc n p i) _)
    rw [this]
    exact (h.dc i hi).upd hU (fun k => e (hd.dd i n hi hn k))
theorem WkR.mark_b {F : Fx} {S : Nat → Prop} {w : World} {s : WSt} {OA : Option Addr} {oc n p : Nat} (hd : Dis F S) (h : WkR F w s OA oc) (hn : n < F.l.length) : Nx F w { s with bg := mark2 s.bg n p } OA (w.setCell ⟨F.bgb n, p, none⟩ (.bool true)) OA oc := by
  have hm : MutF F (F.bgb n) := .inr (.inr (.inl ⟨n, hn, rfl⟩))
  have hU := (Upd.refl (fun b => b = F.bgb n) w).setCell ⟨F.bgb n, p, none⟩ (.bool true) (fun _ => rfl)
  have hwk : F.wb ≠ F.bgb n := Cells.ne_ h.wk (h.bg n hn) (by decide)
  refine ⟨⟨h.wk.upd hU hwk, fun i hi => ?_, fun i hi => (h.dc i hi).upd hU (fun e => hd.bd n i hn hi e.symm), h.en.upd hU (fun e => hd.be n hn e.symm), h.out.upd hU (fun b hb e => by have := hd.lt _ hm; omega), h.cnt⟩, hU.mono (fun b _ e => .inl (by subst e; exact hm)), .inl rfl⟩
  by_cases e : i = n
  · subst e
    have := (h.bg i hi).set_ p (.bool true)
    rwa [rowC_set (b := s.bg i) (b' := mark2 s.bg i p i) (by simp [mark2]) (fun q hq => by simp [mark2, hq])] at this
  · have : mark2 s.bg n p i = s.bg i := by funext q; simp [mark2, e]
    show Cells _ _ _ (rowC (mark2 s.bg n p i) _)
    rw [this]
    exact (h.bg i hi).upd hU (fun k => e (hd.bb i n hi hn k))
set_option maxHeartbeats 1000000 in
theorem decide_met {F : Fx} {S : Nat → Prop} {cl n p : Nat} {c : List Int} {s : WSt} (hk : Tk F S cl) (hb : s.dc n p = true) : Con F S cl 43 n p c s s := by
  intro hn hp hc w OA oc CA cc hR hW hC
  have c4 := hW.wk.cellv (i := 0 + 4) rfl
  have d4 := hR.dk n hn
  have e4 : w.cell? ⟨F.dcb n, p, none⟩ = some (.bool true) := by rw [← hb]; exact (hW.dc n hn).cellv (rowC_at _ (by omega))
  obtain ⟨M, hM⟩ : ∃ M, F.xs.length + 1 = M := ⟨_, rfl⟩
  rw [hM] at d4
  have g1 : (n : Int) < (F.l.length : Int) := by omega
  have g2 : (p : Int) < (M : Int) := by omega
  have HW := hideP hW
  clear hW hM hC hR
  go_enter Try.func43, Try.ntmps43
  go_wp2_with fail
  try simp only [Exit.inBlock, Exit.then]
  refine bodyPost_ret (results_none rfl _ _ _) rfl ?_
  exact ⟨rfl, OA, oc, .of_upd HW.out (Upd.refl _ _)⟩
set_option maxHeartbeats 1000000 in
theorem decide_go {F : Fx} {S : Nat → Prop} {cl n p : Nat} {c : List Int} {s s' : WSt} (hk : Tk F S cl) (hb : s.dc n p = false) (hcon : Con F S cl 42 n p c { s with dc := mark2 s.dc n p } s') : Con F S cl 43 n p c s s' := by
  intro hn hp hc w OA oc CA cc hR hW hC
  have c4 := hW.wk.cellv (i := 0 + 4) rfl
  have d4 := hR.dk n hn
  have e4 : w.cell? ⟨F.dcb n, p, none⟩ = some (.bool false) := by rw [← hb]; exact (hW.dc n hn).cellv (rowC_at _ (by omega))
  have f4 := (hW.dc n hn).frozen p
  have hN := hW.mark_d (p := p) hk.dis hn
  have HN := hideP hN
  have HC := hideP (hcon hn hp hc _ OA oc CA cc (hR.mut hk.dis hW.lo hN.upd) hN.wk (hC.nx hN))
  obtain ⟨M, hM⟩ : ∃ M, F.xs.length + 1 = M := ⟨_, rfl⟩
  rw [hM] at d4
  have g1 : (n : Int) < (F.l.length : Int) := by omega
  have g2 : (p : Int) < (M : Int) := by omega
  clear hW hM hC hR hN hcon
  go_enter Try.func43, Try.ntmps43
  go_wp2_with (go_at_call 42; refine HC.out.mono ?_; rintro e w3 ⟨rfl, OA', oc', hX⟩)
  go_end0
  exact ⟨rfl, OA', oc', HN.out.trans hX⟩
/-- a node's eight cells, where it stands -/
theorem node_cells {w : World} {S : Nat → Prop} {tg n : Nat} {x : PN} (h : NodeAt w S tg n x) : ∃ RA rc SA sc,
    w.cell? ⟨tg, n * 8, none⟩ = some (.int .i64 x.kind) ∧ w.cell? ⟨tg, n * 8 + 1, none⟩ = some (.int .i64 x.asr) ∧ w.cell? ⟨tg, n * 8 + 2, none⟩ = some (.int .i64 x.ix) ∧ w.cell? ⟨tg, n * 8 + 3, none⟩ = some (.slice RA x.rs.length rc) ∧ w.cell? ⟨tg, n * 8 + 4, none⟩ = some (.slice SA x.subs.length sc) ∧
    w.cell? ⟨tg, n * 8 + 5, none⟩ = some (.bool x.lz) ∧ w.cell? ⟨tg, n * 8 + 6, none⟩ = some (.int .i64 x.up) ∧ w.cell? ⟨tg, n * 8 + 7, none⟩ = some (.int .i64 x.nth) ∧
    RangesR w S RA x.rs.length x.rs ∧ Reads w S 1 SA x.subs.length (intv (x.subs.map fun (s : Nat) => (s : Int))) ∧ In64 x.asr ∧ In64 x.ix := by
  obtain ⟨RA, rc, SA, sc, h1, h2, h3, h4, h5⟩ := h
  exact ⟨RA, rc, SA, sc, h1 0 _ rfl, h1 1 _ rfl, h1 2 _ rfl, h1 3 _ rfl, h1 4 _ rfl, h1 5 _ rfl, h1 6 _ rfl, h1 7 _ rfl, h2, h3, h4, h5⟩
/-- the first of a node's Subs -/
theorem sub_first {w : World} {S : Nat → Prop} {SA : Option Addr} {x : PN} (h : Reads w S 1 SA x.subs.length (intv (x.subs.map fun (s : Nat) => (s : Int)))) (h0 : x.subs ≠ []) : ∃ sa, SA = some sa ∧ sa.block < w.heap.size ∧ S sa.block ∧ w.cell? sa = some (.int .i64 (subW x : Nat)) := by
  obtain ⟨s, r, e⟩ := List.exists_cons_of_ne_nil h0
  obtain ⟨ad, hA, hb, hs, hc⟩ := h.2 (by rw [e]; simp)
  have c0 := hc 0 (.int .i64 (s : Int)) (by rw [e]; simp [intv])
  rw [show ad.add 0 = ad by simp [Addr.add]] at c0
  exact ⟨ad, hA, hb, hs, by rw [c0]; simp [subW, e]⟩
set_option maxRecDepth 100000 in
set_option maxHeartbeats 2000000 in
theorem choose_y {F : Fx} {S : Nat → Prop} {cl n p : Nat} {c : List Int} {s s1 s2 : WSt} {x : PN} (hk : Tk F S cl) (hx : F.l[n]? = some x) (h0 : x.subs ≠ []) (hz : x.lz = true)
    (hc1 : Con F S cl 37 n p c s s1) (hc2 : Con F S cl 28 (subW x) p c s1 s2) : Con F S cl 42 n p c s s2 := by
  intro hn hp hc w OA oc CA cc hR hW hC
  obtain ⟨RA, rc, SA, sc, q0, q1, q2, q3, q4, q5, q6, q7, -, hsub, -, -⟩ := node_cells (hR.node n x hx)
  have HZ := hideP hz
  clear hz
  have c0 := hW.wk.cellv (i := 0) rfl
  have t0 := hR.tab.cellv (i := 0) rfl
  have g1 : (n : Int) < (F.l.length : Int) := by omega
  have hAl : Upd Nob w (w.alloc (.cells (pnCells x RA rc SA sc) 77)) := (Upd.refl Nob w).alloc _
  have HX := hideP (Cells.new w 77 (pnCells x RA rc SA sc))
  have HR := hideP (hR.upd hAl (fun _ _ => not_nob))
  have HN := hideP (Nx.of_upd hW hAl)
  have HC := hideP (hC.nx (Nx.of_upd hW hAl))
  obtain ⟨sa, rfl, hsb, hsS, hs0⟩ := sub_first (hsub.upd hAl (fun _ _ => not_nob)) h0
  have HS0 := hideP hs0
  have hsl := hk.sub n x hx (subW x) (by obtain ⟨a, r, e⟩ := List.exists_cons_of_ne_nil h0; simp [subW, e])
  have hpos : 0 < x.subs.length := List.length_pos_iff.2 h0
  have hposI : (0 : Int) < (x.subs.length : Int) := by omega
  have hlt := hR.lt _ hR.stg
  have hba := hR.base
  have hnm : ¬ Mut F OA w.heap.size := fun hm => by
    rcases hm with hm | hm
    · have := hk.dis.lt _ hm; omega
    · have := (hW.out.lo hm).2; omega
  have HNM := hideP hnm
  have HLO := hideP hW.lo
  clear hR hW hC hsub hs0 hnm
  go_enter Try.func42, Try.ntmps42
  go_upto_region 1 with fail
  change Code.wp _ _ _ _ (w.alloc (.cells (pnCells x RA rc (some sa) sc) 77))
  generalize w.alloc (.cells (pnCells x RA rc (some sa) sc) 77) = wa at *
  clear c0 t0 q0 q1 q2 q3 q4 q5 q6 q7
  have y5 := HX.out.cellv (i := 0 + 5) (v := .bool true) (by rw [← HZ.out]; rfl)
  have y4 := HX.out.cellv (i := 0 + 4) (v := .slice (some sa) x.subs.length sc) rfl
  have z0 := HS0.out
  go_upto_region 3 with (go_at_call 37; refine (hc1 hn hp hc wa OA oc CA cc HR.out HN.out.wk HC.out).mono ?_; rintro e wb ⟨rfl, OA1, oc1, hX1⟩)
  have HX1 := hideP hX1
  have HC1 := hideP (HC.out.nx hX1)
  have HR1 := hideP (HR.out.mut hk.dis HLO.out hX1.upd)
  have hY := HX.out.upd hX1.upd HNM.out
  clear y5 y4 z0
  have y4 := hY.cellv (i := 0 + 4) (v := .slice (some sa) x.subs.length sc) rfl
  have z0 := (hX1.upd.cell (p := sa) hsb (fun hm => by
    have := hk.dis.s _ hsS
    rcases hm with hm | hm
    · exact this.2 hm
    · have := HLO.out _ hm; omega)).trans HS0.out
  clear hX1
  go_wp2_with (go_at_call 28; refine (hc2 hsl hp hc wb OA1 oc1 CA cc HR1.out HX1.out.wk HC1.out).mono ?_; rintro e wc ⟨rfl, OA2, oc2, hX2⟩)
  refine bodyPost_ret (results_none rfl _ _ _) rfl ?_
  exact ⟨rfl, OA2, oc2, (HN.out.trans HX1.out).trans hX2⟩
set_option maxRecDepth 100000 in
set_option maxHeartbeats 2000000 in
theorem choose_n {F : Fx} {S : Nat → Prop} {cl n p : Nat} {c : List Int} {s s1 s2 : WSt} {x : PN} (hk : Tk F S cl) (hx : F.l[n]? = some x) (h0 : x.subs ≠ []) (hz : x.lz = false)
    (hc1 : Con F S cl 28 (subW x) p c s s1) (hc2 : Con F S cl 37 n p c s1 s2) : Con F S cl 42 n p c s s2 := by
  intro hn hp hc w OA oc CA cc hR hW hC
  obtain ⟨RA, rc, SA, sc, q0, q1, q2, q3, q4, q5, q6, q7, -, hsub, -, -⟩ := node_cells (hR.node n x hx)
  have HZ := hideP hz
  clear hz
  have c0 := hW.wk.cellv (i := 0) rfl
  have t0 := hR.tab.cellv (i := 0) rfl
  have g1 : (n : Int) < (F.l.length : Int) := by omega
  have hAl : Upd Nob w (w.alloc (.cells (pnCells x RA rc SA sc) 77)) := (Upd.refl Nob w).alloc _
  have HX := hideP (Cells.new w 77 (pnCells x RA rc SA sc))
  have HR := hideP (hR.upd hAl (fun _ _ => not_nob))
  have HN := hideP (Nx.of_upd hW hAl)
  have HC := hideP (hC.nx (Nx.of_upd hW hAl))
  obtain ⟨sa, rfl, hsb, hsS, hs0⟩ := sub_first (hsub.upd hAl (fun _ _ => not_nob)) h0
  have HS0 := hideP hs0
  have hsl := hk.sub n x hx (subW x) (by obtain ⟨a, r, e⟩ := List.exists_cons_of_ne_nil h0; simp [subW, e])
  have hpos : 0 < x.subs.length := List.length_pos_iff.2 h0
  have hposI : (0 : Int) < (x.subs.length : Int) := by omega
  have hlt := hR.lt _ hR.stg
  have hba := hR.base
  have hnm : ¬ Mut F OA w.heap.size := fun hm => by
    rcases hm with hm | hm
    · have := hk.dis.lt _ hm; omega
    · have := (hW.out.lo hm).2; omega
  have HNM := hideP hnm
  have HLO := hideP hW.lo
  clear hR hW hC hsub hs0 hnm
  go_enter Try.func42, Try.ntmps42
  go_upto_region 1 with fail
  change Code.wp _ _ _ _ (w.alloc (.cells (pnCells x RA rc (some sa) sc) 77))
  generalize w.alloc (.cells (pnCells x RA rc (some sa) sc) 77) = wa at *
  clear c0 t0 q0 q1 q2 q3 q4 q5 q6 q7
  have y5 := HX.out.cellv (i := 0 + 5) (v := .bool false) (by rw [← HZ.out]; rfl)
  have y4 := HX.out.cellv (i := 0 + 4) (v := .slice (some sa) x.subs.length sc) rfl
  have z0 := HS0.out
  go_upto_region 5 with (go_at_call 28; refine (hc1 hsl hp hc wa OA oc CA cc HR.out HN.out.wk HC.out).mono ?_; rintro e wb ⟨rfl, OA1, oc1, hX1⟩)
  have HX1 := hideP hX1
  have HC1 := hideP (HC.out.nx hX1)
  have HR1 := hideP (HR.out.mut hk.dis HLO.out hX1.upd)
  have hY := HX.out.upd hX1.upd HNM.out
  clear y5 y4 z0
  have y4 := hY.cellv (i := 0 + 4) (v := .slice (some sa) x.subs.length sc) rfl
  have z0 := (hX1.upd.cell (p := sa) hsb (fun hm => by
    have := hk.dis.s _ hsS
    rcases hm with hm | hm
    · exact this.2 hm
    · have := HLO.out _ hm; omega)).trans HS0.out
  clear hX1
  go_wp2_with (go_at_call 37; refine (hc2 hn hp hc wb OA1 oc1 CA cc HR1.out HX1.out.wk HC1.out).mono ?_; rintro e wc ⟨rfl, OA2, oc2, hX2⟩)
  go_end0
  exact ⟨rfl, OA2, oc2, (HN.out.trans HX1.out).trans hX2⟩
end Go.Proofs.Ytlaofcgllchedaa

/-
  The row of nodes, made, as it is read.
-/
namespace Go.Proofs.Ytlaofcgllchedaa
open Go.RowKit
set_option linter.unusedVariables false

theorem TabR.node {w : World} {base tb g tc : Nat} {S D : Nat → Prop} {l : List PN} (h : TabR w base tb S D l (some ⟨g, 0, none⟩) tc) {i : Nat} {x : PN} (hx : l[i]? = some x) : NodeAt w (fun b => b < w.heap.size) g i x := by
  obtain ⟨qs, hq, ho, hn⟩ := h.row
  have hi := (List.getElem?_eq_some_iff.1 hx).1
  obtain ⟨q, hqi⟩ : ∃ q, qs[i]? = some q := ⟨_, List.getElem?_eq_getElem (by omega)⟩
  obtain ⟨⟨h1, h2, h3, h4⟩, -⟩ := hn i x q hx hqi
  obtain ⟨cur, hc, ht⟩ := own_cells ho (g := g) rfl
  refine ⟨q.1.1, q.1.2, q.2.1, q.2.2, fun j v hv => ?_, h1.lower_, Reads.weaken (Reads.of_own h2) (fun b hb => ?_), h3, h4⟩
  · have hj : j < 8 := by
      have := (Array.getElem?_eq_some_iff.1 hv).1
      exact this
    have hf := flatN_at l qs i x q hx hqi j hj
    rw [← ht, List.getElem?_take, if_pos (by omega)] at hf
    refine hc.cellv ?_
    rw [← Array.getElem?_toList, hf]
    rw [← Array.getElem?_toList] at hv
    exact hv
  · obtain ⟨cur, hc, -⟩ := own_cells h2 hb
    exact hc.lt
end Go.Proofs.Ytlaofcgllchedaa
