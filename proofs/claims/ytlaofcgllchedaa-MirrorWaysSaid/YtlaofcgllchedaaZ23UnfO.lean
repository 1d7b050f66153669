/-
  RepO, UnfO, put together.
-/
import Derived.Test.YtlaofcgllchedaaZ22RepR

/-
  The walk of heronref06's Tree.repeat. Printed by tools/mkRepeat.py.
-/
namespace Go.Proofs.Ytlaofcgllchedaa
open Go.RowKit
set_option linter.unusedVariables false

theorem repT_star {f : Uf} {mn mx : Int} {lz : Bool} (h : mx < 0) (h0 : mn = 0) (l : List PN) : repT f mn mx lz l = putT (bareN 101 [(f l).2] lz) (f l).1 := by
  unfold repT
  rw [if_pos ⟨h, h0⟩]
set_option maxRecDepth 100000 in
set_option maxHeartbeats 8000000 in
theorem rep_star {base tb : Nat} {S : Nat → Prop} {t x : Tree} {f : Uf} {u : UT} (hF : UnfC base tb S x f) (hg : GoodF f u) (hx0 : t.subs[0]? = some x) (hmx : t.mx < 0) (hmn : t.mn = 0) : ∀ (D : Nat → Prop) (w : World) (l : List PN) (TA : Option Addr) (tc : Nat) (cs : Array Value), TabR w base tb S D l TA tc → NodeR w S cs t → (repT f t.mn t.mx t.lz l).1.length ≤ 90000 → Calls Try.prog 35 #[.pointer (some ⟨tb, 0, none⟩), .agg cs] w (TAns base tb S D w TA (repT f t.mn t.mx t.lz l)) := by
  intro D w l TA tc cs hT hN hlen
  obtain ⟨RA, rc, SA, sc, rfl, -⟩ := hN.top
  have htb := hT.size
  have hfl := hg.len l
  rw [repT_star hmx hmn] at hlen ⊢
  have hpl := putT_len (bareN 101 [(f l).2] t.lz) (f l).1
  have hfle : (f l).1.length ≤ 89999 := by omega
  have hsb : ∀ s ∈ (bareN 101 [(f l).2] t.lz).subs, s < (f l).1.length := by simp [bareN]; exact hfl.2
  have HMN := hideP hmn
  clear hpl hlen hmn
  have hpos : 0 < t.subs.length := (List.getElem?_eq_some_iff.1 hx0).1
  have hposI : (0 : Int) < (t.subs.length : Int) := by omega
  obtain ⟨ad, g, o, x', PA, pc, QA, qc, rfl, hadd, hSg, hgl, hx, hX, hlx, hcs⟩ := NodeR.sub hN.open_.2.2 hpos
  have hxe : x = x' := by rw [hx0] at hx; injection hx
  subst hxe
  have hA1 : Upd Nob w (w.alloc (.cells #[.int .i64 t.kind, .slice RA t.rs.length rc, .int .i64 t.am, .slice (some ad) t.subs.length sc, .int .i64 t.mn, .int .i64 t.mx, .bool t.lz, .int .i64 t.ix, .string t.nm] 30)) := (Upd.refl Nob w).alloc _
  have hA2 : Upd Nob w ((w.alloc (.cells #[.int .i64 t.kind, .slice RA t.rs.length rc, .int .i64 t.am, .slice (some ad) t.subs.length sc, .int .i64 t.mn, .int .i64 t.mx, .bool t.lz, .int .i64 t.ix, .string t.nm] 30)).alloc (.cells #[.int .i64 x.kind, .slice PA x.rs.length pc, .int .i64 x.am, .slice QA x.subs.length qc, .int .i64 x.mn, .int .i64 x.mx, .bool x.lz, .int .i64 x.ix, .string x.nm] 30)) := hA1.alloc _
  have hz1 : (w.alloc (.cells #[.int .i64 t.kind, .slice RA t.rs.length rc, .int .i64 t.am, .slice (some ad) t.subs.length sc, .int .i64 t.mn, .int .i64 t.mx, .bool t.lz, .int .i64 t.ix, .string t.nm] 30)).heap.size = w.heap.size + 1 := World.size_alloc _ _
  have C3 := (Cells.new w 30 #[.int .i64 t.kind, .slice RA t.rs.length rc, .int .i64 t.am, .slice (some ad) t.subs.length sc, .int .i64 t.mn, .int .i64 t.mx, .bool t.lz, .int .i64 t.ix, .string t.nm]).upd ((Upd.refl Nob _).alloc (.cells #[.int .i64 x.kind, .slice PA x.rs.length pc, .int .i64 x.am, .slice QA x.subs.length qc, .int .i64 x.mn, .int .i64 x.mx, .bool x.lz, .int .i64 x.ix, .string x.nm] 30)) not_nob
  have C5 := Cells.new (w.alloc (.cells #[.int .i64 t.kind, .slice RA t.rs.length rc, .int .i64 t.am, .slice (some ad) t.subs.length sc, .int .i64 t.mn, .int .i64 t.mx, .bool t.lz, .int .i64 t.ix, .string t.nm] 30)) 30 #[.int .i64 x.kind, .slice PA x.rs.length pc, .int .i64 x.am, .slice QA x.subs.length qc, .int .i64 x.mn, .int .i64 x.mx, .bool x.lz, .int .i64 x.ix, .string x.nm]
  rw [hz1] at C5
  obtain ⟨e0, e1, e2, e3, e4, e5, e6, e7, e8⟩ := nineN (Cells.new w 30 #[.int .i64 t.kind, .slice RA t.rs.length rc, .int .i64 t.am, .slice (some ad) t.subs.length sc, .int .i64 t.mn, .int .i64 t.mx, .bool t.lz, .int .i64 t.ix, .string t.nm])
  obtain ⟨p0, p1, p2, p3, p4, p5, p6, p7, p8⟩ := sub_cells (fun j v hv => (hA1.cell (p := ⟨g, o + j, none⟩) hgl not_nob).trans (hcs j v hv))
  have HA0 := hideP (TNx.of_upd hT hA2)
  have HT := hideP hT
  have HNX := hideP (hX.upd_ hA2 (fun _ _ => not_nob))
  have hn3 : ¬ TabF tb TA w.heap.size := fun h => by
    rcases h with h | h
    · omega
    · have := (hT.lo_own _ h).2; omega
  have hn5 : ¬ TabF tb TA (w.heap.size + 1) := fun h => by
    rcases h with h | h
    · omega
    · have := (hT.lo_own _ h).2; omega
  have HN3 := hideP hn3
  have HN5 := hideP hn5
  have HF := hideP hF
  have HC3 := hideP C3
  have HC5 := hideP C5
  unfold nodeCells at HNX ⊢
  clear hT hN hX hcs hx hlx hA1 hA2 hn3 hn5 hF C3 C5 hx0
  go_enter Try.func35, Try.ntmps35
  go_upto_region 1 with fail
  generalize w.alloc (.cells #[.int .i64 t.kind, .slice RA t.rs.length rc, .int .i64 t.am, .slice (some ad) t.subs.length sc, .int .i64 t.mn, .int .i64 t.mx, .bool t.lz, .int .i64 t.ix, .string t.nm] 30) = wa at *
  go_upto_region 2 with fail
  generalize wa.alloc (.cells #[.int .i64 x.kind, .slice PA x.rs.length pc, .int .i64 x.am, .slice QA x.subs.length qc, .int .i64 x.mn, .int .i64 x.mx, .bool x.lz, .int .i64 x.ix, .string x.nm] 30) = wb at *
  clear e0 e1 e2 e3 e4 e5 e6 e7 e8 p0 p1 p2 p3 p4 p5 p6 p7 p8 hadd hz1
  generalize w.heap.size + 1 = xb5 at *
  generalize hxb : w.heap.size = xb3 at *
  have HXB := hideP hxb
  clear hxb
  obtain ⟨e0, e1, e2, e3, e4, e5, e6, e7, e8⟩ := nineN HC3.out
  have SPP := hideP (show ∀ w' : World, Cells w' xb5 30 #[.int .i64 x.kind, .slice PA x.rs.length pc, .int .i64 x.am, .slice QA x.subs.length qc, .int .i64 x.mn, .int .i64 x.mx, .bool x.lz, .int .i64 x.ix, .string x.nm] → Cells w' xb3 30 #[.int .i64 t.kind, .slice RA t.rs.length rc, .int .i64 t.am, .slice (some ad) t.subs.length sc, .int .i64 t.mn, .int .i64 t.mx, .bool t.lz, .int .i64 t.ix, .string t.nm] → (fun (w' : World) => w'.cell? ⟨xb5, 0, none⟩ = some (.int .i64 x.kind) ∧ w'.cell? ⟨xb5, 1, none⟩ = some (.slice PA x.rs.length pc) ∧ w'.cell? ⟨xb5, 2, none⟩ = some (.int .i64 x.am) ∧ w'.cell? ⟨xb5, 3, none⟩ = some (.slice QA x.subs.length qc) ∧ w'.cell? ⟨xb5, 4, none⟩ = some (.int .i64 x.mn) ∧ w'.cell? ⟨xb5, 5, none⟩ = some (.int .i64 x.mx) ∧ w'.cell? ⟨xb5, 6, none⟩ = some (.bool x.lz) ∧ w'.cell? ⟨xb5, 7, none⟩ = some (.int .i64 x.ix) ∧ w'.cell? ⟨xb5, 8, none⟩ = some (.string x.nm) ∧ w'.cell? ⟨xb3, 0 + 6, none⟩ = some (.bool t.lz)) w' from fun w' h5 h3 => ⟨h5.cellv rfl, h5.cellv rfl, h5.cellv rfl, h5.cellv rfl, h5.cellv rfl, h5.cellv rfl, h5.cellv rfl, h5.cellv rfl, h5.cellv rfl, h3.cellv rfl⟩)
  have hd1 : decide (t.mx < 0) = true := decide_eq_true hmx
  have hd2 : (t.mn == 0) = true := by rw [HMN.out]; rfl
  go_upto_region 3 with fail
  clear e0 e1 e2 e3 e4 e5 e6 e7 e8
  have hUd := (Upd.refl Nob wb).drew
  have HD3 := hideP (fun (l' : List PN) (w' : World) (T' : Option Addr) (c' : Nat) (h : TNx base tb S D wb.drew TA l' w' T' c') => (HC3.out.upd hUd not_nob).upd h.upd HN3.out)
  have HD5 := hideP (fun (l' : List PN) (w' : World) (T' : Option Addr) (c' : Nat) (h : TNx base tb S D wb.drew TA l' w' T' c') => (HC5.out.upd hUd not_nob).upd h.upd HN5.out)
  have HTD := hideP (HA0.out.tab.upd hUd)
  have htd := HTD.out.size
  have HAL := hideP (fun (w1 : World) (T1 : Option Addr) (c1 : Nat) (h : TNx base tb S D wb.drew TA (f l).1 w1 T1 c1) => h.trans (TNx.of_upd h.tab ((Upd.refl Nob w1).alloc (.cells #[.int .i64 ((f l).2 : Int)] 3))) htd)
  refine rep_reg3 _ wb tb xb3 xb5 (f l).2 (f l).1.length t.lz (.int .i64 x.kind) (.slice PA x.rs.length pc) (.int .i64 x.am) (.slice QA x.subs.length qc) (.int .i64 x.mn) (.int .i64 x.mx) (.bool x.lz) (.int .i64 x.ix) (.string x.nm) (fun w1 => ∃ T1 c1, TNx base tb S D wb.drew TA (f l).1 w1 T1 c1) (fun w1 w3 => ∃ T3 c3, TNx base tb S D wb.drew TA (putT (bareN 101 [(f l).2] t.lz) (f l).1).1 w3 T3 c3) _ _ _ _ _ _ _ _ _ _ _ _ _ _ _ _ _ _ _ _ _ _ _ _ _ _ _ _ _ _ _ _ _ _ _ _ _ _ _ _ _ _ _ _ _ _ _ _ _ _ _ _ _ _ _ _ _ _ _ _ _ _ _ _ _ _ _ _ _ _ _ _ _ _ _ _ _ _ _ _ _ (SPP.out _ HC5.out HC3.out) ?_ ?_ ?_ ?_ ?_
  · refine (HF.out D wb.drew l TA tc _ HTD.out (HNX.out.upd_ hUd (fun _ _ => not_nob)) (by omega)).mono ?_
    rintro e w1 ⟨rfl, T1, c1, h1⟩
    exact ⟨rfl, T1, c1, h1⟩
  · rintro w1 ⟨T1, c1, h1⟩
    have h2 := HAL.out w1 T1 c1 h1
    exact ⟨SPP.out _ (HD5.out _ _ _ _ h1) (HD3.out _ _ _ _ h1), SPP.out _ (HD5.out _ _ _ _ h2) (HD3.out _ _ _ _ h2)⟩
  · rintro w1 ⟨T1, c1, h1⟩
    have h2 := HAL.out w1 T1 c1 h1
    refine (put_any (x := bareN 101 [(f l).2] t.lz) (q := ((none, 0), (some ⟨w1.heap.size, 0, none⟩, 1))) h2.tab (bare_node (one_own (f l).2 h1.tab.base_le)) (fun b hb hd => by have := h1.tab.d b hd; simp [Value.ownBlock] at hb; omega) hsb (by omega) (by simp [bareN])).mono ?_
    rintro e w3 ⟨rfl, T3, c3, h3⟩
    exact ⟨rfl, T3, c3, h2.trans h3 htd⟩
  · rintro w1 w3 ⟨T1, c1, h1⟩ ⟨T3, c3, h3⟩
    exact SPP.out _ (HD5.out _ _ _ _ h3) (HD3.out _ _ _ _ h3)
  · intro _ _ _ _ _ _ _ _ _ w1 w3 h1 h3
    obtain ⟨T3, c3, h3⟩ := h3
    have HH3 := hideP h3
    clear h1 h3
    go_wp2_with fail
    go_ret
    exact ⟨rfl, T3, c3, (HA0.out.trans (TNx.of_upd HA0.out.tab hUd) (by rw [HXB.out]; exact htb)).trans HH3.out (by rw [HXB.out]; exact htb)⟩
/-- a row of ints grew, that is newer than the start -/
theorem TNx.growO {base tb : Nat} {S D1 D : Nat → Prop} {w w1 w2 : World} {l : List PN} {TA T1 : Option Addr} {c1 : Nat} {v : Value} (h : TNx base tb S D1 w TA l w1 T1 c1) (ht : TabR w2 base tb S D l T1 c1) (hg : ∀ b, v.ownBlock = some b → w.heap.size ≤ b) (hU : Upd (fun b => v.ownBlock = some b) w1 w2) : TNx base tb S D w TA l w2 T1 c1 :=
  ⟨ht, h.upd.trans hU (fun b hb e => by have := hg b e; omega), h.new⟩
theorem times_len {f : Uf} {u : UT} (hg : GoodF f u) (n : Nat) (l : List PN) : l.length ≤ (timesT f n l).1.length := (times_good hg n l).1.len
theorem intv_snoc (ss : List Nat) (a : Nat) : intv (ss.map fun (s : Nat) => (s : Int)) ++ [.int .i64 (a : Int)] = intv ((ss ++ [a]).map fun (s : Nat) => (s : Int)) := by simp [intv]
theorem repT_same {f : Uf} {mn mx : Int} {lz : Bool} {N : Nat} (h : ¬ mx < 0) (h0 : ¬ mn < mx) (hN : mn = (N : Int)) (l : List PN) : repT f mn mx lz l = rowT (timesT f N l).2 (timesT f N l).1 := by
  unfold repT
  rw [if_neg (by omega)]
  simp only [if_neg h, if_neg h0]
  rw [show mn.toNat = N by omega]
theorem repT_opt {f : Uf} {mn mx : Int} {lz : Bool} {N K : Nat} (h : ¬ mx < 0) (h0 : mn < mx) (hN : mn = (N : Int)) (hK : mx - mn = (K : Int)) (l : List PN) : repT f mn mx lz l = rowT ((timesT f N l).2 ++ [(optT f lz K (timesT f N l).1).2]) (optT f lz K (timesT f N l).1).1 := by
  unfold repT
  rw [if_neg (by omega)]
  simp only [if_neg h, if_pos h0]
  rw [show mn.toNat = N by omega, show (mx - mn).toNat = K by omega]
theorem repT_plus {f : Uf} {mn mx : Int} {lz : Bool} {N : Nat} (h : mx < 0) (hN : mn = (N : Int) + 1) (l : List PN) : repT f mn mx lz l = rowT ((timesT f N l).2 ++ [(putT (bareN 102 [(f (timesT f N l).1).2] lz) (f (timesT f N l).1).1).2]) (putT (bareN 102 [(f (timesT f N l).1).2] lz) (f (timesT f N l).1).1).1 := by
  unfold repT
  rw [if_neg (by omega)]
  simp only [if_pos h]
  rw [show (mn - 1).toNat = N by omega]
set_option maxRecDepth 100000 in
set_option maxHeartbeats 8000000 in
theorem rep_same {base tb : Nat} {S : Nat → Prop} {t x : Tree} {f : Uf} {u : UT} (hF : UnfC base tb S x f) (hg : GoodF f u) (hx0 : t.subs[0]? = some x) (hmx : ¬ t.mx < 0) (hmn : 0 ≤ t.mn) (hmn2 : t.mn ≤ 1000) (hmm : ¬ t.mn < t.mx) : ∀ (D : Nat → Prop) (w : World) (l : List PN) (TA : Option Addr) (tc : Nat) (cs : Array Value), TabR w base tb S D l TA tc → NodeR w S cs t → (repT f t.mn t.mx t.lz l).1.length ≤ 90000 → Calls Try.prog 35 #[.pointer (some ⟨tb, 0, none⟩), .agg cs] w (TAns base tb S D w TA (repT f t.mn t.mx t.lz l)) := by
  intro D w l TA tc cs hT hN hlen
  obtain ⟨RA, rc, SA, sc, rfl, -⟩ := hN.top
  have htb := hT.size
  have hfl := hg.len l
  obtain ⟨N, hN0⟩ : ∃ N : Nat, t.mn = (N : Int) := ⟨t.mn.toNat, by omega⟩
  obtain ⟨q, hq⟩ : ∃ q, timesT f N l = q := ⟨_, rfl⟩
  rw [repT_same hmx hmm hN0, hq] at hlen ⊢
  have hrl := rowT_len q.2 q.1
  have hql : q.1.length ≤ 90000 := by omega
  obtain ⟨i0, hi0, hz0, hz1, hz2⟩ := info_parts oinfo_int
  have HN0 := hideP hN0
  have HQ := hideP hq
  have hN1 : N ≤ 1000 := by omega
  have HMM := hideP hmm
  clear hrl hlen hN0 hq hmm
  have hpos : 0 < t.subs.length := (List.getElem?_eq_some_iff.1 hx0).1
  have hposI : (0 : Int) < (t.subs.length : Int) := by omega
  obtain ⟨ad, g, o, x', PA, pc, QA, qc, rfl, hadd, hSg, hgl, hx, hX, hlx, hcs⟩ := NodeR.sub hN.open_.2.2 hpos
  have hxe : x = x' := by rw [hx0] at hx; injection hx
  subst hxe
  have hA1 : Upd Nob w (w.alloc (.cells #[.int .i64 t.kind, .slice RA t.rs.length rc, .int .i64 t.am, .slice (some ad) t.subs.length sc, .int .i64 t.mn, .int .i64 t.mx, .bool t.lz, .int .i64 t.ix, .string t.nm] 30)) := (Upd.refl Nob w).alloc _
  have hA2 : Upd Nob w ((w.alloc (.cells #[.int .i64 t.kind, .slice RA t.rs.length rc, .int .i64 t.am, .slice (some ad) t.subs.length sc, .int .i64 t.mn, .int .i64 t.mx, .bool t.lz, .int .i64 t.ix, .string t.nm] 30)).alloc (.cells #[.int .i64 x.kind, .slice PA x.rs.length pc, .int .i64 x.am, .slice QA x.subs.length qc, .int .i64 x.mn, .int .i64 x.mx, .bool x.lz, .int .i64 x.ix, .string x.nm] 30)) := hA1.alloc _
  have hz1 : (w.alloc (.cells #[.int .i64 t.kind, .slice RA t.rs.length rc, .int .i64 t.am, .slice (some ad) t.subs.length sc, .int .i64 t.mn, .int .i64 t.mx, .bool t.lz, .int .i64 t.ix, .string t.nm] 30)).heap.size = w.heap.size + 1 := World.size_alloc _ _
  have C3 := (Cells.new w 30 #[.int .i64 t.kind, .slice RA t.rs.length rc, .int .i64 t.am, .slice (some ad) t.subs.length sc, .int .i64 t.mn, .int .i64 t.mx, .bool t.lz, .int .i64 t.ix, .string t.nm]).upd ((Upd.refl Nob _).alloc (.cells #[.int .i64 x.kind, .slice PA x.rs.length pc, .int .i64 x.am, .slice QA x.subs.length qc, .int .i64 x.mn, .int .i64 x.mx, .bool x.lz, .int .i64 x.ix, .string x.nm] 30)) not_nob
  have C5 := Cells.new (w.alloc (.cells #[.int .i64 t.kind, .slice RA t.rs.length rc, .int .i64 t.am, .slice (some ad) t.subs.length sc, .int .i64 t.mn, .int .i64 t.mx, .bool t.lz, .int .i64 t.ix, .string t.nm] 30)) 30 #[.int .i64 x.kind, .slice PA x.rs.length pc, .int .i64 x.am, .slice QA x.subs.length qc, .int .i64 x.mn, .int .i64 x.mx, .bool x.lz, .int .i64 x.ix, .string x.nm]
  rw [hz1] at C5
  obtain ⟨e0, e1, e2, e3, e4, e5, e6, e7, e8⟩ := nineN (Cells.new w 30 #[.int .i64 t.kind, .slice RA t.rs.length rc, .int .i64 t.am, .slice (some ad) t.subs.length sc, .int .i64 t.mn, .int .i64 t.mx, .bool t.lz, .int .i64 t.ix, .string t.nm])
  obtain ⟨p0, p1, p2, p3, p4, p5, p6, p7, p8⟩ := sub_cells (fun j v hv => (hA1.cell (p := ⟨g, o + j, none⟩) hgl not_nob).trans (hcs j v hv))
  have HA0 := hideP (TNx.of_upd hT hA2)
  have HT := hideP hT
  have HNX := hideP (hX.upd_ hA2 (fun _ _ => not_nob))
  have hn3 : ¬ TabF tb TA w.heap.size := fun h => by
    rcases h with h | h
    · omega
    · have := (hT.lo_own _ h).2; omega
  have hn5 : ¬ TabF tb TA (w.heap.size + 1) := fun h => by
    rcases h with h | h
    · omega
    · have := (hT.lo_own _ h).2; omega
  have HN3 := hideP hn3
  have HN5 := hideP hn5
  have HF := hideP hF
  have HC3 := hideP C3
  have HC5 := hideP C5
  unfold nodeCells at HNX ⊢
  clear hT hN hX hcs hx hlx hA1 hA2 hn3 hn5 hF C3 C5 hx0
  go_enter Try.func35, Try.ntmps35
  go_upto_region 1 with fail
  generalize w.alloc (.cells #[.int .i64 t.kind, .slice RA t.rs.length rc, .int .i64 t.am, .slice (some ad) t.subs.length sc, .int .i64 t.mn, .int .i64 t.mx, .bool t.lz, .int .i64 t.ix, .string t.nm] 30) = wa at *
  go_upto_region 2 with fail
  generalize wa.alloc (.cells #[.int .i64 x.kind, .slice PA x.rs.length pc, .int .i64 x.am, .slice QA x.subs.length qc, .int .i64 x.mn, .int .i64 x.mx, .bool x.lz, .int .i64 x.ix, .string x.nm] 30) = wb at *
  clear e0 e1 e2 e3 e4 e5 e6 e7 e8 p0 p1 p2 p3 p4 p5 p6 p7 p8 hadd hz1
  generalize w.heap.size + 1 = xb5 at *
  generalize hxb : w.heap.size = xb3 at *
  have HXB := hideP hxb
  clear hxb
  obtain ⟨e0, e1, e2, e3, e4, e5, e6, e7, e8⟩ := nineN HC3.out
  have SPP := hideP (show ∀ w' : World, Cells w' xb5 30 #[.int .i64 x.kind, .slice PA x.rs.length pc, .int .i64 x.am, .slice QA x.subs.length qc, .int .i64 x.mn, .int .i64 x.mx, .bool x.lz, .int .i64 x.ix, .string x.nm] → Cells w' xb3 30 #[.int .i64 t.kind, .slice RA t.rs.length rc, .int .i64 t.am, .slice (some ad) t.subs.length sc, .int .i64 t.mn, .int .i64 t.mx, .bool t.lz, .int .i64 t.ix, .string t.nm] → (fun (w' : World) => w'.cell? ⟨xb5, 0, none⟩ = some (.int .i64 x.kind) ∧ w'.cell? ⟨xb5, 1, none⟩ = some (.slice PA x.rs.length pc) ∧ w'.cell? ⟨xb5, 2, none⟩ = some (.int .i64 x.am) ∧ w'.cell? ⟨xb5, 3, none⟩ = some (.slice QA x.subs.length qc) ∧ w'.cell? ⟨xb5, 4, none⟩ = some (.int .i64 x.mn) ∧ w'.cell? ⟨xb5, 5, none⟩ = some (.int .i64 x.mx) ∧ w'.cell? ⟨xb5, 6, none⟩ = some (.bool x.lz) ∧ w'.cell? ⟨xb5, 7, none⟩ = some (.int .i64 x.ix) ∧ w'.cell? ⟨xb5, 8, none⟩ = some (.string x.nm) ∧ w'.cell? ⟨xb3, 0 + 6, none⟩ = some (.bool t.lz)) w' from fun w' h5 h3 => ⟨h5.cellv rfl, h5.cellv rfl, h5.cellv rfl, h5.cellv rfl, h5.cellv rfl, h5.cellv rfl, h5.cellv rfl, h5.cellv rfl, h5.cellv rfl, h3.cellv rfl⟩)
  have hd1 : decide (t.mx < 0) = false := decide_eq_false hmx
  go_wp2_with fail
  have HBB := hideP HA0.out.tab.base_le
  have HDL := hideP HA0.out.tab.d
  clear e0 e1 e2 e3 e4 e5 e6 e7 e8
  go_loopg [6, 8] N (fun gk v6 v8 wr => ∃ (m : Nat) (li : List PN) (ss : List Nat) (LA : Option Addr) (lc : Nat) (Ti : Option Addr) (ci : Nat), m + gk = N ∧ v8 = .int .i64 (m : Int) ∧ v6 = .slice LA m lc ∧ ss.length = m ∧ ((timesT f gk li).1 = q.1 ∧ ss ++ (timesT f gk li).2 = q.2) ∧ TNx base tb S (fun b => D b ∨ LA.map (·.block) = some b) wb TA li wr Ti ci ∧ wr.ownsRow base 3 1 (.slice LA m lc) m (intv (ss.map fun (s : Nat) => (s : Int))) ∧ (∀ s ∈ ss, s < li.length) ∧ (∀ b, LA.map (·.block) = some b → wb.heap.size ≤ b))
  case atStart => exact ⟨0, l, [], none, 0, TA, tc, by omega, rfl, rfl, rfl, ⟨by rw [HQ.out], by rw [HQ.out]; rfl⟩, (TNx.of_upd HA0.out.tab (Upd.refl _ _)).weakD (fun b hb => hb.resolve_right (by simp)), World.ownsRow_nil _ _ _ _, by simp, by simp⟩
  case round =>
    obtain ⟨m, li, ss, LA, lc, Ti, ci, hk2, rfl, rfl, hsl, hqq, hX, hO, hss, hfr⟩ := hrel
    have HK := hideP hk2
    have HSL := hideP hsl
    have HQQ := hideP hqq
    have HX := hideP hX
    have HO := hideP hO
    have HSS := hideP hss
    have HFR := hideP hfr
    have htw := HA0.out.tab.size
    have c3 := HC3.out.upd hX.upd HN3.out
    have c5 := HC5.out.upd hX.upd HN5.out
    have HC3r := hideP c3
    have HC5r := hideP c5
    have HNr := hideP (HNX.out.upd_ hX.upd HA0.out.tab.notF)
    obtain ⟨e0, e1, e2, e3, e4, e5, e6, e7, e8⟩ := nineN c3
    obtain ⟨p0, p1, p2, p3, p4, p5, p6, p7, p8⟩ := nineN c5
    clear hk2 hsl hqq hX hO hss hfr c3 c5
    by_cases hlt : m < N
    · have q1 : (m : Int) < t.mn := by have := HN0.out; omega
      obtain ⟨k, hk⟩ : ∃ k, gk = k + 1 := ⟨gk - 1, by have := HK.out; omega⟩
      subst hk
      have hQ2 := HQQ.out
      rw [show timesT f (k + 1) li = ((timesT f k (f li).1).1, (f li).2 :: (timesT f k (f li).1).2) from rfl] at hQ2
      have HQQ := hideP hQ2
      have hfi := hg.len li
      have htl := times_len hg k (f li).1
      rw [hQ2.1] at htl
      have HLI := hideP hfi
      have hm := HK.out
      have HF2 := hideP (HF.out _ wr li Ti ci _ HX.out.tab HNr.out (by omega))
      clear hQ2 hfi htl
      go_wp2_with (first | (go_at_call 26; refine HF2.out.mono ?_; rintro e w3 ⟨rfl, T3, c3, hX3⟩; have HX3 := hideP hX3; have HO3 := hideP (hX3.own HX.out.tab HO.out); have hb3 := hX3.tab.base_le; clear hX3) | (at_builtin; refine wpList_append_own_at _ rfl _ _ 22 rfl base 3 i0 (.int .i64 0) 1 8 Try.underlying22 hi0 hz0 hz1 hz2 rfl (by decide) (.slice LA m lc) m (intv (ss.map fun (s : Nat) => (s : Int))) rfl (HO3.out.alloc _) ⟨w3.heap.size, 0, none⟩ 1 1 [(.int .i64 ((f li).2 : Int))] rfl rfl ?d1 ?d2 ?d3 ?d4 ?d5 ?_))
      case d1 => exact World.news_of_block (cs := #[(.int .i64 ((f li).2 : Int))]) (t := 3) (fr := (0, 0)) (heap_alloc_new _ _)
      case d2 => first | rfl | exact ⟨rfl⟩ | trivial | (intro u hu; simp at hu; subst hu; rfl) | simp
      case d3 => unfold maxLen; omega
      case d4 => omega
      case d5 => simp; omega
      intro v4 w4 o4 g4 hb4 hat
      obtain ⟨A4, c4, rfl⟩ := own_shape o4
      rw [intv_snoc] at o4
      have hU4 : Upd (fun b => (Value.slice LA m lc).ownBlock = some b) w3 w4 := ((Upd.refl (fun b => (Value.slice LA m lc).ownBlock = some b) w3).alloc _).grown g4 (fun b hb _ => hb)
      have hnew : ∀ b, A4.map (·.block) = some b → LA.map (·.block) = some b ∨ b = w3.heap.size + 1 := fun b hb => by
        rcases hat with hx | hx
        · rw [slice_own.2 hb] at hx
          exact .inl (slice_own.1 hx.symm)
        · rw [slice_own.2 hb] at hx
          simp at hx
          exact .inr hx
      have hs3 := HX3.out.upd.size
      have hsr := HX.out.upd.size
      have hs4 := hU4.size
      have hT4 := HX3.out.tab.grow (D' := fun b => D b ∨ A4.map (·.block) = some b) HO3.out (fun b hb => .inr (slice_own.1 hb)) hU4 (fun b hb => by
        rcases hb with hb | hb
        · exact ⟨.inl (.inl hb), by have := HX3.out.tab.d b (.inl hb); omega⟩
        · refine ⟨?_, (o4.lt b (slice_own.2 hb)).2⟩
          rcases hnew b hb with h | h
          · exact .inl (.inr h)
          · exact .inr (by omega))
      have HX4 := hideP ((HX.out.trans HX3.out htw).growO hT4 (fun b hb => HFR.out b (slice_own.1 hb)) hU4)
      have HO4 := hideP o4
      have HNEW := hideP hnew
      clear o4 g4 hb4 hat hU4 hT4 hnew HX3 HO3
      clear e0 e1 e2 e3 e4 e5 e6 e7 e8 p0 p1 p2 p3 p4 p5 p6 p7 p8
      go_wp2_with fail
      have hmk := HK.out
      go_roundg k
      case measure => omega
      case rel => exact ⟨m + 1, (f li).1, ss ++ [(f li).2], A4, c4, T3, c3, by omega, by go_num, rfl, by simp [HSL.out], ⟨HQQ.out.1, by rw [← HQQ.out.2]; simp⟩, HX4.out, HO4.out, fun s hs => by
          rcases List.mem_append.1 hs with hs | hs
          · have := HSS.out s hs
            have := HLI.out.1
            omega
          · obtain rfl : s = (f li).2 := by simpa using hs
            exact HLI.out.2, fun b hb => by
          rcases HNEW.out b hb with h | h
          · exact HFR.out b h
          · omega⟩
    · have q1 : ¬ (m : Int) < t.mn := by have := HN0.out; omega
      obtain rfl : gk = 0 := by have := HK.out; omega
      obtain ⟨hq1, hq2⟩ := HQQ.out
      have hqa : li = q.1 := hq1
      have hqb : ss = q.2 := by simpa [timesT] using hq2
      clear hq1 hq2 HQQ
      subst hqa
      subst hqb
      have hmN : m = N := by have := HK.out; omega
      subst hmN
      have HW := hideP (HX.out.weakD (D' := D) (fun b hb => .inl hb))
      have HDD := hideP (show ∀ b, (Value.slice LA m lc).ownBlock = some b → ¬ D b from fun b hb hd => by
        have := HFR.out b (slice_own.1 hb)
        have := HDL.out b hd
        omega)
      have HR := hideP (row_any (ss := q.2) (A := LA) (c := lc) HW.out.tab (by rw [HSL.out]; exact HO.out) (by rw [HSL.out]; exact HDD.out) HSS.out (by omega) (by rw [HSL.out]; omega))
      have hd3 := HMM.out
      rw [HSL.out] at HR
      clear p0 p1 p2 p3 p4 p5 p6 p7 p8
      go_wp2_with (go_at_call 55; refine HR.out.mono ?_; rintro e w5 ⟨rfl, T5, c5, hX5⟩)
      go_ret
      exact ⟨rfl, T5, c5, (HA0.out.trans HW.out (by rw [HXB.out]; exact htb)).trans hX5 (by rw [HXB.out]; exact htb)⟩
set_option maxRecDepth 100000 in
set_option maxHeartbeats 8000000 in
theorem rep_opt {base tb : Nat} {S : Nat → Prop} {t x : Tree} {f : Uf} {u : UT} (hF : UnfC base tb S x f) (hg : GoodF f u) (hx0 : t.subs[0]? = some x) (hmx : ¬ t.mx < 0) (hmn : 0 ≤ t.mn) (hmn2 : t.mx ≤ 1000) (hmm : t.mn < t.mx) : ∀ (D : Nat → Prop) (w : World) (l : List PN) (TA : Option Addr) (tc : Nat) (cs : Array Value), TabR w base tb S D l TA tc → NodeR w S cs t → (repT f t.mn t.mx t.lz l).1.length ≤ 90000 → Calls Try.prog 35 #[.pointer (some ⟨tb, 0, none⟩), .agg cs] w (TAns base tb S D w TA (repT f t.mn t.mx t.lz l)) := by
  intro D w l TA tc cs hT hN hlen
  obtain ⟨RA, rc, SA, sc, rfl, -⟩ := hN.top
  have htb := hT.size
  have hfl := hg.len l
  obtain ⟨N, hN0⟩ : ∃ N : Nat, t.mn = (N : Int) := ⟨t.mn.toNat, by omega⟩
  obtain ⟨K, hK0⟩ : ∃ K : Nat, t.mx - t.mn = (K : Int) := ⟨(t.mx - t.mn).toNat, by omega⟩
  obtain ⟨q, hq⟩ : ∃ q, timesT f N l = q := ⟨_, rfl⟩
  obtain ⟨lr, n2, hr⟩ : ∃ lr n2, optT f t.lz K q.1 = (lr, n2) := ⟨_, _, rfl⟩
  rw [repT_opt hmx hmm hN0 hK0, hq, hr] at hlen ⊢
  have hrl := rowT_len (q.2 ++ [n2]) lr
  have hgo := (opt_good t.lz hg K (by omega)).len q.1
  rw [hr] at hgo
  have hll : lr.length ≤ 90000 := Nat.le_trans hrl.1 hlen
  have hgo1 : q.1.length ≤ lr.length := hgo.1
  have hql : q.1.length ≤ 90000 := by omega
  have HLE2 := hideP hll
  have HLE := hideP (show q.1.length ≤ lr.length ∧ n2 < lr.length from hgo)
  obtain ⟨i0, hi0, hz0, hz1, hz2⟩ := info_parts oinfo_int
  have HN0 := hideP hN0
  have HQ := hideP hq
  have HR0 := hideP hr
  have hN1 : N ≤ 1000 := by omega
  have hkw : IntKind.i64.wrap (t.mx - t.mn) = (K : Int) := by rw [IntKind.wrap_i64]; omega
  have hk1 : 0 < K ∧ K ≤ 1000 := by omega
  have HKW := hideP hkw
  have HK1 := hideP hk1
  have HMM := hideP hmm
  clear hrl hlen hN0 hq hr hmm hkw hk1 hgo hgo1 hll hK0
  have hpos : 0 < t.subs.length := (List.getElem?_eq_some_iff.1 hx0).1
  have hposI : (0 : Int) < (t.subs.length : Int) := by omega
  obtain ⟨ad, g, o, x', PA, pc, QA, qc, rfl, hadd, hSg, hgl, hx, hX, hlx, hcs⟩ := NodeR.sub hN.open_.2.2 hpos
  have hxe : x = x' := by rw [hx0] at hx; injection hx
  subst hxe
  have hA1 : Upd Nob w (w.alloc (.cells #[.int .i64 t.kind, .slice RA t.rs.length rc, .int .i64 t.am, .slice (some ad) t.subs.length sc, .int .i64 t.mn, .int .i64 t.mx, .bool t.lz, .int .i64 t.ix, .string t.nm] 30)) := (Upd.refl Nob w).alloc _
  have hA2 : Upd Nob w ((w.alloc (.cells #[.int .i64 t.kind, .slice RA t.rs.length rc, .int .i64 t.am, .slice (some ad) t.subs.length sc, .int .i64 t.mn, .int .i64 t.mx, .bool t.lz, .int .i64 t.ix, .string t.nm] 30)).alloc (.cells #[.int .i64 x.kind, .slice PA x.rs.length pc, .int .i64 x.am, .slice QA x.subs.length qc, .int .i64 x.mn, .int .i64 x.mx, .bool x.lz, .int .i64 x.ix, .string x.nm] 30)) := hA1.alloc _
  have hz1 : (w.alloc (.cells #[.int .i64 t.kind, .slice RA t.rs.length rc, .int .i64 t.am, .slice (some ad) t.subs.length sc, .int .i64 t.mn, .int .i64 t.mx, .bool t.lz, .int .i64 t.ix, .string t.nm] 30)).heap.size = w.heap.size + 1 := World.size_alloc _ _
  have C3 := (Cells.new w 30 #[.int .i64 t.kind, .slice RA t.rs.length rc, .int .i64 t.am, .slice (some ad) t.subs.length sc, .int .i64 t.mn, .int .i64 t.mx, .bool t.lz, .int .i64 t.ix, .string t.nm]).upd ((Upd.refl Nob _).alloc (.cells #[.int .i64 x.kind, .slice PA x.rs.length pc, .int .i64 x.am, .slice QA x.subs.length qc, .int .i64 x.mn, .int .i64 x.mx, .bool x.lz, .int .i64 x.ix, .string x.nm] 30)) not_nob
  have C5 := Cells.new (w.alloc (.cells #[.int .i64 t.kind, .slice RA t.rs.length rc, .int .i64 t.am, .slice (some ad) t.subs.length sc, .int .i64 t.mn, .int .i64 t.mx, .bool t.lz, .int .i64 t.ix, .string t.nm] 30)) 30 #[.int .i64 x.kind, .slice PA x.rs.length pc, .int .i64 x.am, .slice QA x.subs.length qc, .int .i64 x.mn, .int .i64 x.mx, .bool x.lz, .int .i64 x.ix, .string x.nm]
  rw [hz1] at C5
  obtain ⟨e0, e1, e2, e3, e4, e5, e6, e7, e8⟩ := nineN (Cells.new w 30 #[.int .i64 t.kind, .slice RA t.rs.length rc, .int .i64 t.am, .slice (some ad) t.subs.length sc, .int .i64 t.mn, .int .i64 t.mx, .bool t.lz, .int .i64 t.ix, .string t.nm])
  obtain ⟨p0, p1, p2, p3, p4, p5, p6, p7, p8⟩ := sub_cells (fun j v hv => (hA1.cell (p := ⟨g, o + j, none⟩) hgl not_nob).trans (hcs j v hv))
  have HA0 := hideP (TNx.of_upd hT hA2)
  have HT := hideP hT
  have HNX := hideP (hX.upd_ hA2 (fun _ _ => not_nob))
  have hn3 : ¬ TabF tb TA w.heap.size := fun h => by
    rcases h with h | h
    · omega
    · have := (hT.lo_own _ h).2; omega
  have hn5 : ¬ TabF tb TA (w.heap.size + 1) := fun h => by
    rcases h with h | h
    · omega
    · have := (hT.lo_own _ h).2; omega
  have HN3 := hideP hn3
  have HN5 := hideP hn5
  have HF := hideP hF
  have HC3 := hideP C3
  have HC5 := hideP C5
  unfold nodeCells at HNX ⊢
  clear hT hN hX hcs hx hlx hA1 hA2 hn3 hn5 hF C3 C5 hx0
  go_enter Try.func35, Try.ntmps35
  go_upto_region 1 with fail
  generalize w.alloc (.cells #[.int .i64 t.kind, .slice RA t.rs.length rc, .int .i64 t.am, .slice (some ad) t.subs.length sc, .int .i64 t.mn, .int .i64 t.mx, .bool t.lz, .int .i64 t.ix, .string t.nm] 30) = wa at *
  go_upto_region 2 with fail
  generalize wa.alloc (.cells #[.int .i64 x.kind, .slice PA x.rs.length pc, .int .i64 x.am, .slice QA x.subs.length qc, .int .i64 x.mn, .int .i64 x.mx, .bool x.lz, .int .i64 x.ix, .string x.nm] 30) = wb at *
  clear e0 e1 e2 e3 e4 e5 e6 e7 e8 p0 p1 p2 p3 p4 p5 p6 p7 p8 hadd hz1
  generalize w.heap.size + 1 = xb5 at *
  generalize hxb : w.heap.size = xb3 at *
  have HXB := hideP hxb
  clear hxb
  obtain ⟨e0, e1, e2, e3, e4, e5, e6, e7, e8⟩ := nineN HC3.out
  have SPP := hideP (show ∀ w' : World, Cells w' xb5 30 #[.int .i64 x.kind, .slice PA x.rs.length pc, .int .i64 x.am, .slice QA x.subs.length qc, .int .i64 x.mn, .int .i64 x.mx, .bool x.lz, .int .i64 x.ix, .string x.nm] → Cells w' xb3 30 #[.int .i64 t.kind, .slice RA t.rs.length rc, .int .i64 t.am, .slice (some ad) t.subs.length sc, .int .i64 t.mn, .int .i64 t.mx, .bool t.lz, .int .i64 t.ix, .string t.nm] → (fun (w' : World) => w'.cell? ⟨xb5, 0, none⟩ = some (.int .i64 x.kind) ∧ w'.cell? ⟨xb5, 1, none⟩ = some (.slice PA x.rs.length pc) ∧ w'.cell? ⟨xb5, 2, none⟩ = some (.int .i64 x.am) ∧ w'.cell? ⟨xb5, 3, none⟩ = some (.slice QA x.subs.length qc) ∧ w'.cell? ⟨xb5, 4, none⟩ = some (.int .i64 x.mn) ∧ w'.cell? ⟨xb5, 5, none⟩ = some (.int .i64 x.mx) ∧ w'.cell? ⟨xb5, 6, none⟩ = some (.bool x.lz) ∧ w'.cell? ⟨xb5, 7, none⟩ = some (.int .i64 x.ix) ∧ w'.cell? ⟨xb5, 8, none⟩ = some (.string x.nm) ∧ w'.cell? ⟨xb3, 0 + 6, none⟩ = some (.bool t.lz)) w' from fun w' h5 h3 => ⟨h5.cellv rfl, h5.cellv rfl, h5.cellv rfl, h5.cellv rfl, h5.cellv rfl, h5.cellv rfl, h5.cellv rfl, h5.cellv rfl, h5.cellv rfl, h3.cellv rfl⟩)
  have hd1 : decide (t.mx < 0) = false := decide_eq_false hmx
  go_wp2_with fail
  have HBB := hideP HA0.out.tab.base_le
  have HDL := hideP HA0.out.tab.d
  clear e0 e1 e2 e3 e4 e5 e6 e7 e8
  go_loopg [6, 8] N (fun gk v6 v8 wr => ∃ (m : Nat) (li : List PN) (ss : List Nat) (LA : Option Addr) (lc : Nat) (Ti : Option Addr) (ci : Nat), m + gk = N ∧ v8 = .int .i64 (m : Int) ∧ v6 = .slice LA m lc ∧ ss.length = m ∧ ((timesT f gk li).1 = q.1 ∧ ss ++ (timesT f gk li).2 = q.2) ∧ TNx base tb S (fun b => D b ∨ LA.map (·.block) = some b) wb TA li wr Ti ci ∧ wr.ownsRow base 3 1 (.slice LA m lc) m (intv (ss.map fun (s : Nat) => (s : Int))) ∧ (∀ s ∈ ss, s < li.length) ∧ (∀ b, LA.map (·.block) = some b → wb.heap.size ≤ b))
  case atStart => exact ⟨0, l, [], none, 0, TA, tc, by omega, rfl, rfl, rfl, ⟨by rw [HQ.out], by rw [HQ.out]; rfl⟩, (TNx.of_upd HA0.out.tab (Upd.refl _ _)).weakD (fun b hb => hb.resolve_right (by simp)), World.ownsRow_nil _ _ _ _, by simp, by simp⟩
  case round =>
    obtain ⟨m, li, ss, LA, lc, Ti, ci, hk2, rfl, rfl, hsl, hqq, hX, hO, hss, hfr⟩ := hrel
    have HK := hideP hk2
    have HSL := hideP hsl
    have HQQ := hideP hqq
    have HX := hideP hX
    have HO := hideP hO
    have HSS := hideP hss
    have HFR := hideP hfr
    have htw := HA0.out.tab.size
    have c3 := HC3.out.upd hX.upd HN3.out
    have c5 := HC5.out.upd hX.upd HN5.out
    have HC3r := hideP c3
    have HC5r := hideP c5
    have HNr := hideP (HNX.out.upd_ hX.upd HA0.out.tab.notF)
    obtain ⟨e0, e1, e2, e3, e4, e5, e6, e7, e8⟩ := nineN c3
    obtain ⟨p0, p1, p2, p3, p4, p5, p6, p7, p8⟩ := nineN c5
    clear hk2 hsl hqq hX hO hss hfr c3 c5
    by_cases hlt : m < N
    · have q1 : (m : Int) < t.mn := by have := HN0.out; omega
      obtain ⟨k, hk⟩ : ∃ k, gk = k + 1 := ⟨gk - 1, by have := HK.out; omega⟩
      subst hk
      have hQ2 := HQQ.out
      rw [show timesT f (k + 1) li = ((timesT f k (f li).1).1, (f li).2 :: (timesT f k (f li).1).2) from rfl] at hQ2
      have HQQ := hideP hQ2
      have hfi := hg.len li
      have htl := times_len hg k (f li).1
      rw [hQ2.1] at htl
      have HLI := hideP hfi
      have hm := HK.out
      have HF2 := hideP (HF.out _ wr li Ti ci _ HX.out.tab HNr.out (by omega))
      clear hQ2 hfi htl
      go_wp2_with (first | (go_at_call 26; refine HF2.out.mono ?_; rintro e w3 ⟨rfl, T3, c3, hX3⟩; have HX3 := hideP hX3; have HO3 := hideP (hX3.own HX.out.tab HO.out); have hb3 := hX3.tab.base_le; clear hX3) | (at_builtin; refine wpList_append_own_at _ rfl _ _ 22 rfl base 3 i0 (.int .i64 0) 1 8 Try.underlying22 hi0 hz0 hz1 hz2 rfl (by decide) (.slice LA m lc) m (intv (ss.map fun (s : Nat) => (s : Int))) rfl (HO3.out.alloc _) ⟨w3.heap.size, 0, none⟩ 1 1 [(.int .i64 ((f li).2 : Int))] rfl rfl ?d1 ?d2 ?d3 ?d4 ?d5 ?_))
      case d1 => exact World.news_of_block (cs := #[(.int .i64 ((f li).2 : Int))]) (t := 3) (fr := (0, 0)) (heap_alloc_new _ _)
      case d2 => first | rfl | exact ⟨rfl⟩ | trivial | (intro u hu; simp at hu; subst hu; rfl) | simp
      case d3 => unfold maxLen; omega
      case d4 => omega
      case d5 => simp; omega
      intro v4 w4 o4 g4 hb4 hat
      obtain ⟨A4, c4, rfl⟩ := own_shape o4
      rw [intv_snoc] at o4
      have hU4 : Upd (fun b => (Value.slice LA m lc).ownBlock = some b) w3 w4 := ((Upd.refl (fun b => (Value.slice LA m lc).ownBlock = some b) w3).alloc _).grown g4 (fun b hb _ => hb)
      have hnew : ∀ b, A4.map (·.block) = some b → LA.map (·.block) = some b ∨ b = w3.heap.size + 1 := fun b hb => by
        rcases hat with hx | hx
        · rw [slice_own.2 hb] at hx
          exact .inl (slice_own.1 hx.symm)
        · rw [slice_own.2 hb] at hx
          simp at hx
          exact .inr hx
      have hs3 := HX3.out.upd.size
      have hsr := HX.out.upd.size
      have hs4 := hU4.size
      have hT4 := HX3.out.tab.grow (D' := fun b => D b ∨ A4.map (·.block) = some b) HO3.out (fun b hb => .inr (slice_own.1 hb)) hU4 (fun b hb => by
        rcases hb with hb | hb
        · exact ⟨.inl (.inl hb), by have := HX3.out.tab.d b (.inl hb); omega⟩
        · refine ⟨?_, (o4.lt b (slice_own.2 hb)).2⟩
          rcases hnew b hb with h | h
          · exact .inl (.inr h)
          · exact .inr (by omega))
      have HX4 := hideP ((HX.out.trans HX3.out htw).growO hT4 (fun b hb => HFR.out b (slice_own.1 hb)) hU4)
      have HO4 := hideP o4
      have HNEW := hideP hnew
      clear o4 g4 hb4 hat hU4 hT4 hnew HX3 HO3
      clear e0 e1 e2 e3 e4 e5 e6 e7 e8 p0 p1 p2 p3 p4 p5 p6 p7 p8
      go_wp2_with fail
      have hmk := HK.out
      go_roundg k
      case measure => omega
      case rel => exact ⟨m + 1, (f li).1, ss ++ [(f li).2], A4, c4, T3, c3, by omega, by go_num, rfl, by simp [HSL.out], ⟨HQQ.out.1, by rw [← HQQ.out.2]; simp⟩, HX4.out, HO4.out, fun s hs => by
          rcases List.mem_append.1 hs with hs | hs
          · have := HSS.out s hs
            have := HLI.out.1
            omega
          · obtain rfl : s = (f li).2 := by simpa using hs
            exact HLI.out.2, fun b hb => by
          rcases HNEW.out b hb with h | h
          · exact HFR.out b h
          · omega⟩
    · have q1 : ¬ (m : Int) < t.mn := by have := HN0.out; omega
      obtain rfl : gk = 0 := by have := HK.out; omega
      obtain ⟨hq1, hq2⟩ := HQQ.out
      have hqa : li = q.1 := hq1
      have hqb : ss = q.2 := by simpa [timesT] using hq2
      clear hq1 hq2 HQQ
      subst hqa
      subst hqb
      have hmN : m = N := by have := HK.out; omega
      subst hmN
      have HW := hideP (HX.out.weakD (D' := D) (fun b hb => .inl hb))
      have HDD := hideP (show ∀ b, (Value.slice LA m lc).ownBlock = some b → ¬ D b from fun b hb hd => by
        have := HFR.out b (slice_own.1 hb)
        have := HDL.out b hd
        omega)
      have hd3 := HMM.out
      have hkw := HKW.out
      have HOP := hideP (opt_any HF.out hg t.lz K HK1.out.1 HK1.out.2 _ wr q.1 Ti ci _ HX.out.tab HNr.out (by rw [HR0.out]; exact HLE2.out))
      rw [HR0.out] at HOP
      have hm3 : m ≤ 1000 := hN1
      go_upto_region 16 with (first | (go_at_call 54; refine HOP.out.mono ?_; rintro e w3 ⟨rfl, T3, c3, hX3⟩; have HX3 := hideP hX3; have HO3 := hideP (hX3.own HX.out.tab HO.out); have hb3 := hX3.tab.base_le; clear hX3) | (at_builtin; refine wpList_append_own_at _ rfl _ _ 22 rfl base 3 i0 (.int .i64 0) 1 8 Try.underlying22 hi0 hz0 hz1 hz2 rfl (by decide) (.slice LA m lc) m (intv (q.2.map fun (s : Nat) => (s : Int))) rfl (HO3.out.alloc _) ⟨w3.heap.size, 0, none⟩ 1 1 [(.int .i64 (n2 : Int))] rfl rfl ?d1 ?d2 ?d3 ?d4 ?d5 ?_))
      case d1 => exact World.news_of_block (cs := #[(.int .i64 (n2 : Int))]) (t := 3) (fr := (0, 0)) (heap_alloc_new _ _)
      case d2 => first | rfl | exact ⟨rfl⟩ | trivial | (intro u hu; simp at hu; subst hu; rfl) | simp
      case d3 => unfold maxLen; omega
      case d4 => omega
      case d5 => simp; omega
      intro v4 w4 o4 g4 hb4 hat
      obtain ⟨A4, c4, rfl⟩ := own_shape o4
      rw [intv_snoc] at o4
      have hU4 : Upd (fun b => (Value.slice LA m lc).ownBlock = some b) w3 w4 := ((Upd.refl (fun b => (Value.slice LA m lc).ownBlock = some b) w3).alloc _).grown g4 (fun b hb _ => hb)
      have hnew : ∀ b, A4.map (·.block) = some b → LA.map (·.block) = some b ∨ b = w3.heap.size + 1 := fun b hb => by
        rcases hat with hx | hx
        · rw [slice_own.2 hb] at hx
          exact .inl (slice_own.1 hx.symm)
        · rw [slice_own.2 hb] at hx
          simp at hx
          exact .inr hx
      have hs3 := HX3.out.upd.size
      have hsr := HX.out.upd.size
      have hs4 := hU4.size
      have hT4 := HX3.out.tab.grow (D' := D) HO3.out (fun b hb => .inr (slice_own.1 hb)) hU4 (fun b hb => ⟨.inl (.inl hb), by have := HX3.out.tab.d b (.inl hb); omega⟩)
      have HX4 := hideP ((HX.out.trans HX3.out htw).growO hT4 (fun b hb => HFR.out b (slice_own.1 hb)) hU4)
      have hD4 : ∀ b, (Value.slice A4 (m + 1) c4).ownBlock = some b → ¬ D b := fun b hb hd => by
        have h1 := HDL.out b hd
        rcases hnew b (slice_own.1 hb) with h | h
        · have := HFR.out b h
          omega
        · omega
      have hsl4 : (q.2 ++ [n2]).length = m + 1 := by simp [HSL.out]
      have HR := hideP (row_any (ss := q.2 ++ [n2]) (A := A4) (c := c4) HX4.out.tab (by rw [hsl4]; exact o4) (by rw [hsl4]; exact hD4) (fun s hs => by
          rcases List.mem_append.1 hs with hs | hs
          · have := HSS.out s hs
            have := HLE.out.1
            omega
          · obtain rfl : s = n2 := by simpa using hs
            exact HLE.out.2) HLE2.out (by rw [hsl4]; omega))
      rw [hsl4] at HR
      clear o4 hb4 hat hU4 hT4 hnew HX3 HO3 hD4 hsl4
      clear p0 p1 p2 p3 p4 p5 p6 p7 p8 g4
      go_wp2_with (go_at_call 55; refine HR.out.mono ?_; rintro e w5 ⟨rfl, T5, c5, hX5⟩)
      go_ret
      exact ⟨rfl, T5, c5, (HA0.out.trans HX4.out (by rw [HXB.out]; exact htb)).trans hX5 (by rw [HXB.out]; exact htb)⟩
set_option maxRecDepth 100000 in
set_option maxHeartbeats 8000000 in
theorem rep_plus {base tb : Nat} {S : Nat → Prop} {t x : Tree} {f : Uf} {u : UT} (hF : UnfC base tb S x f) (hg : GoodF f u) (hx0 : t.subs[0]? = some x) (hmx : t.mx < 0) (hmn : 1 ≤ t.mn) (hmn2 : t.mn ≤ 1000) : ∀ (D : Nat → Prop) (w : World) (l : List PN) (TA : Option Addr) (tc : Nat) (cs : Array Value), TabR w base tb S D l TA tc → NodeR w S cs t → (repT f t.mn t.mx t.lz l).1.length ≤ 90000 → Calls Try.prog 35 #[.pointer (some ⟨tb, 0, none⟩), .agg cs] w (TAns base tb S D w TA (repT f t.mn t.mx t.lz l)) := by
  intro D w l TA tc cs hT hN hlen
  obtain ⟨RA, rc, SA, sc, rfl, -⟩ := hN.top
  have htb := hT.size
  have hfl := hg.len l
  obtain ⟨N, hN0⟩ : ∃ N : Nat, t.mn = (N : Int) + 1 := ⟨(t.mn - 1).toNat, by omega⟩
  obtain ⟨q, hq⟩ : ∃ q, timesT f N l = q := ⟨_, rfl⟩
  obtain ⟨lr, n2, hr⟩ : ∃ lr n2, putT (bareN 102 [(f q.1).2] t.lz) (f q.1).1 = (lr, n2) := ⟨_, _, rfl⟩
  rw [repT_plus hmx hN0, hq, hr] at hlen ⊢
  have hrl := rowT_len (q.2 ++ [n2]) lr
  have hpl := putT_len (bareN 102 [(f q.1).2] t.lz) (f q.1).1
  rw [hr] at hpl
  have hp1 : lr.length = (f q.1).1.length + 1 := hpl.1
  have hp2 : n2 = (f q.1).1.length := hpl.2
  have hll : lr.length ≤ 90000 := Nat.le_trans hrl.1 hlen
  have hfq := hg.len q.1
  have hql : q.1.length ≤ 90000 := by omega
  have hfl2 : (f q.1).1.length ≤ 89999 := by omega
  have hsb : ∀ s ∈ (bareN 102 [(f q.1).2] t.lz).subs, s < (f q.1).1.length := by simp [bareN]; exact hfq.2
  have HLE2 := hideP hll
  have HLE := hideP (show q.1.length ≤ lr.length ∧ n2 < lr.length by omega)
  obtain ⟨i0, hi0, hz0, hz1, hz2⟩ := info_parts oinfo_int
  have HN0 := hideP hN0
  have HQ := hideP hq
  have HR0 := hideP hr
  have hN1 : N ≤ 1000 := by omega
  have hkw : IntKind.i64.wrap (t.mn - 1) = (N : Int) := by rw [IntKind.wrap_i64]; omega
  have hd2 : (t.mn == 0) = false := by simp; omega
  have hd22 : ¬ t.mn = 0 := by omega
  clear hrl hlen hN0 hq hr hpl hp1 hp2 hfq hll
  have hpos : 0 < t.subs.length := (List.getElem?_eq_some_iff.1 hx0).1
  have hposI : (0 : Int) < (t.subs.length : Int) := by omega
  obtain ⟨ad, g, o, x', PA, pc, QA, qc, rfl, hadd, hSg, hgl, hx, hX, hlx, hcs⟩ := NodeR.sub hN.open_.2.2 hpos
  have hxe : x = x' := by rw [hx0] at hx; injection hx
  subst hxe
  have hA1 : Upd Nob w (w.alloc (.cells #[.int .i64 t.kind, .slice RA t.rs.length rc, .int .i64 t.am, .slice (some ad) t.subs.length sc, .int .i64 t.mn, .int .i64 t.mx, .bool t.lz, .int .i64 t.ix, .string t.nm] 30)) := (Upd.refl Nob w).alloc _
  have hA2 : Upd Nob w ((w.alloc (.cells #[.int .i64 t.kind, .slice RA t.rs.length rc, .int .i64 t.am, .slice (some ad) t.subs.length sc, .int .i64 t.mn, .int .i64 t.mx, .bool t.lz, .int .i64 t.ix, .string t.nm] 30)).alloc (.cells #[.int .i64 x.kind, .slice PA x.rs.length pc, .int .i64 x.am, .slice QA x.subs.length qc, .int .i64 x.mn, .int .i64 x.mx, .bool x.lz, .int .i64 x.ix, .string x.nm] 30)) := hA1.alloc _
  have hz1 : (w.alloc (.cells #[.int .i64 t.kind, .slice RA t.rs.length rc, .int .i64 t.am, .slice (some ad) t.subs.length sc, .int .i64 t.mn, .int .i64 t.mx, .bool t.lz, .int .i64 t.ix, .string t.nm] 30)).heap.size = w.heap.size + 1 := World.size_alloc _ _
  have C3 := (Cells.new w 30 #[.int .i64 t.kind, .slice RA t.rs.length rc, .int .i64 t.am, .slice (some ad) t.subs.length sc, .int .i64 t.mn, .int .i64 t.mx, .bool t.lz, .int .i64 t.ix, .string t.nm]).upd ((Upd.refl Nob _).alloc (.cells #[.int .i64 x.kind, .slice PA x.rs.length pc, .int .i64 x.am, .slice QA x.subs.length qc, .int .i64 x.mn, .int .i64 x.mx, .bool x.lz, .int .i64 x.ix, .string x.nm] 30)) not_nob
  have C5 := Cells.new (w.alloc (.cells #[.int .i64 t.kind, .slice RA t.rs.length rc, .int .i64 t.am, .slice (some ad) t.subs.length sc, .int .i64 t.mn, .int .i64 t.mx, .bool t.lz, .int .i64 t.ix, .string t.nm] 30)) 30 #[.int .i64 x.kind, .slice PA x.rs.length pc, .int .i64 x.am, .slice QA x.subs.length qc, .int .i64 x.mn, .int .i64 x.mx, .bool x.lz, .int .i64 x.ix, .string x.nm]
  rw [hz1] at C5
  obtain ⟨e0, e1, e2, e3, e4, e5, e6, e7, e8⟩ := nineN (Cells.new w 30 #[.int .i64 t.kind, .slice RA t.rs.length rc, .int .i64 t.am, .slice (some ad) t.subs.length sc, .int .i64 t.mn, .int .i64 t.mx, .bool t.lz, .int .i64 t.ix, .string t.nm])
  obtain ⟨p0, p1, p2, p3, p4, p5, p6, p7, p8⟩ := sub_cells (fun j v hv => (hA1.cell (p := ⟨g, o + j, none⟩) hgl not_nob).trans (hcs j v hv))
  have HA0 := hideP (TNx.of_upd hT hA2)
  have HT := hideP hT
  have HNX := hideP (hX.upd_ hA2 (fun _ _ => not_nob))
  have hn3 : ¬ TabF tb TA w.heap.size := fun h => by
    rcases h with h | h
    · omega
    · have := (hT.lo_own _ h).2; omega
  have hn5 : ¬ TabF tb TA (w.heap.size + 1) := fun h => by
    rcases h with h | h
    · omega
    · have := (hT.lo_own _ h).2; omega
  have HN3 := hideP hn3
  have HN5 := hideP hn5
  have HF := hideP hF
  have HC3 := hideP C3
  have HC5 := hideP C5
  unfold nodeCells at HNX ⊢
  clear hT hN hX hcs hx hlx hA1 hA2 hn3 hn5 hF C3 C5 hx0
  go_enter Try.func35, Try.ntmps35
  go_upto_region 1 with fail
  generalize w.alloc (.cells #[.int .i64 t.kind, .slice RA t.rs.length rc, .int .i64 t.am, .slice (some ad) t.subs.length sc, .int .i64 t.mn, .int .i64 t.mx, .bool t.lz, .int .i64 t.ix, .string t.nm] 30) = wa at *
  go_upto_region 2 with fail
  generalize wa.alloc (.cells #[.int .i64 x.kind, .slice PA x.rs.length pc, .int .i64 x.am, .slice QA x.subs.length qc, .int .i64 x.mn, .int .i64 x.mx, .bool x.lz, .int .i64 x.ix, .string x.nm] 30) = wb at *
  clear e0 e1 e2 e3 e4 e5 e6 e7 e8 p0 p1 p2 p3 p4 p5 p6 p7 p8 hadd hz1
  generalize w.heap.size + 1 = xb5 at *
  generalize hxb : w.heap.size = xb3 at *
  have HXB := hideP hxb
  clear hxb
  obtain ⟨e0, e1, e2, e3, e4, e5, e6, e7, e8⟩ := nineN HC3.out
  have SPP := hideP (show ∀ w' : World, Cells w' xb5 30 #[.int .i64 x.kind, .slice PA x.rs.length pc, .int .i64 x.am, .slice QA x.subs.length qc, .int .i64 x.mn, .int .i64 x.mx, .bool x.lz, .int .i64 x.ix, .string x.nm] → Cells w' xb3 30 #[.int .i64 t.kind, .slice RA t.rs.length rc, .int .i64 t.am, .slice (some ad) t.subs.length sc, .int .i64 t.mn, .int .i64 t.mx, .bool t.lz, .int .i64 t.ix, .string t.nm] → (fun (w' : World) => w'.cell? ⟨xb5, 0, none⟩ = some (.int .i64 x.kind) ∧ w'.cell? ⟨xb5, 1, none⟩ = some (.slice PA x.rs.length pc) ∧ w'.cell? ⟨xb5, 2, none⟩ = some (.int .i64 x.am) ∧ w'.cell? ⟨xb5, 3, none⟩ = some (.slice QA x.subs.length qc) ∧ w'.cell? ⟨xb5, 4, none⟩ = some (.int .i64 x.mn) ∧ w'.cell? ⟨xb5, 5, none⟩ = some (.int .i64 x.mx) ∧ w'.cell? ⟨xb5, 6, none⟩ = some (.bool x.lz) ∧ w'.cell? ⟨xb5, 7, none⟩ = some (.int .i64 x.ix) ∧ w'.cell? ⟨xb5, 8, none⟩ = some (.string x.nm) ∧ w'.cell? ⟨xb3, 0 + 6, none⟩ = some (.bool t.lz)) w' from fun w' h5 h3 => ⟨h5.cellv rfl, h5.cellv rfl, h5.cellv rfl, h5.cellv rfl, h5.cellv rfl, h5.cellv rfl, h5.cellv rfl, h5.cellv rfl, h5.cellv rfl, h3.cellv rfl⟩)
  have hd1 : decide (t.mx < 0) = true := decide_eq_true hmx
  go_wp2_with fail
  have HBB := hideP HA0.out.tab.base_le
  have HDL := hideP HA0.out.tab.d
  clear e0 e1 e2 e3 e4 e5 e6 e7 e8
  go_loopg [6, 8] N (fun gk v6 v8 wr => ∃ (m : Nat) (li : List PN) (ss : List Nat) (LA : Option Addr) (lc : Nat) (Ti : Option Addr) (ci : Nat), m + gk = N ∧ v8 = .int .i64 (m : Int) ∧ v6 = .slice LA m lc ∧ ss.length = m ∧ ((timesT f gk li).1 = q.1 ∧ ss ++ (timesT f gk li).2 = q.2) ∧ TNx base tb S (fun b => D b ∨ LA.map (·.block) = some b) wb TA li wr Ti ci ∧ wr.ownsRow base 3 1 (.slice LA m lc) m (intv (ss.map fun (s : Nat) => (s : Int))) ∧ (∀ s ∈ ss, s < li.length) ∧ (∀ b, LA.map (·.block) = some b → wb.heap.size ≤ b))
  case atStart => exact ⟨0, l, [], none, 0, TA, tc, by omega, rfl, rfl, rfl, ⟨by rw [HQ.out], by rw [HQ.out]; rfl⟩, (TNx.of_upd HA0.out.tab (Upd.refl _ _)).weakD (fun b hb => hb.resolve_right (by simp)), World.ownsRow_nil _ _ _ _, by simp, by simp⟩
  case round =>
    obtain ⟨m, li, ss, LA, lc, Ti, ci, hk2, rfl, rfl, hsl, hqq, hX, hO, hss, hfr⟩ := hrel
    have HK := hideP hk2
    have HSL := hideP hsl
    have HQQ := hideP hqq
    have HX := hideP hX
    have HO := hideP hO
    have HSS := hideP hss
    have HFR := hideP hfr
    have htw := HA0.out.tab.size
    have c3 := HC3.out.upd hX.upd HN3.out
    have c5 := HC5.out.upd hX.upd HN5.out
    have HC3r := hideP c3
    have HC5r := hideP c5
    have HNr := hideP (HNX.out.upd_ hX.upd HA0.out.tab.notF)
    obtain ⟨e0, e1, e2, e3, e4, e5, e6, e7, e8⟩ := nineN c3
    obtain ⟨p0, p1, p2, p3, p4, p5, p6, p7, p8⟩ := nineN c5
    clear hk2 hsl hqq hX hO hss hfr c3 c5
    by_cases hlt : m < N
    · have q1 : (m : Int) < (N : Int) := by omega
      obtain ⟨k, hk⟩ : ∃ k, gk = k + 1 := ⟨gk - 1, by have := HK.out; omega⟩
      subst hk
      have hQ2 := HQQ.out
      rw [show timesT f (k + 1) li = ((timesT f k (f li).1).1, (f li).2 :: (timesT f k (f li).1).2) from rfl] at hQ2
      have HQQ := hideP hQ2
      have hfi := hg.len li
      have htl := times_len hg k (f li).1
      rw [hQ2.1] at htl
      have HLI := hideP hfi
      have hm := HK.out
      have HF2 := hideP (HF.out _ wr li Ti ci _ HX.out.tab HNr.out (by omega))
      clear hQ2 hfi htl
      go_wp2_with (first | (go_at_call 26; refine HF2.out.mono ?_; rintro e w3 ⟨rfl, T3, c3, hX3⟩; have HX3 := hideP hX3; have HO3 := hideP (hX3.own HX.out.tab HO.out); have hb3 := hX3.tab.base_le; clear hX3) | (at_builtin; refine wpList_append_own_at _ rfl _ _ 22 rfl base 3 i0 (.int .i64 0) 1 8 Try.underlying22 hi0 hz0 hz1 hz2 rfl (by decide) (.slice LA m lc) m (intv (ss.map fun (s : Nat) => (s : Int))) rfl (HO3.out.alloc _) ⟨w3.heap.size, 0, none⟩ 1 1 [(.int .i64 ((f li).2 : Int))] rfl rfl ?d1 ?d2 ?d3 ?d4 ?d5 ?_))
      case d1 => exact World.news_of_block (cs := #[(.int .i64 ((f li).2 : Int))]) (t := 3) (fr := (0, 0)) (heap_alloc_new _ _)
      case d2 => first | rfl | exact ⟨rfl⟩ | trivial | (intro u hu; simp at hu; subst hu; rfl) | simp
      case d3 => unfold maxLen; omega
      case d4 => omega
      case d5 => simp; omega
      intro v4 w4 o4 g4 hb4 hat
      obtain ⟨A4, c4, rfl⟩ := own_shape o4
      rw [intv_snoc] at o4
      have hU4 : Upd (fun b => (Value.slice LA m lc).ownBlock = some b) w3 w4 := ((Upd.refl (fun b => (Value.slice LA m lc).ownBlock = some b) w3).alloc _).grown g4 (fun b hb _ => hb)
      have hnew : ∀ b, A4.map (·.block) = some b → LA.map (·.block) = some b ∨ b = w3.heap.size + 1 := fun b hb => by
        rcases hat with hx | hx
        · rw [slice_own.2 hb] at hx
          exact .inl (slice_own.1 hx.symm)
        · rw [slice_own.2 hb] at hx
          simp at hx
          exact .inr hx
      have hs3 := HX3.out.upd.size
      have hsr := HX.out.upd.size
      have hs4 := hU4.size
      have hT4 := HX3.out.tab.grow (D' := fun b => D b ∨ A4.map (·.block) = some b) HO3.out (fun b hb => .inr (slice_own.1 hb)) hU4 (fun b hb => by
        rcases hb with hb | hb
        · exact ⟨.inl (.inl hb), by have := HX3.out.tab.d b (.inl hb); omega⟩
        · refine ⟨?_, (o4.lt b (slice_own.2 hb)).2⟩
          rcases hnew b hb with h | h
          · exact .inl (.inr h)
          · exact .inr (by omega))
      have HX4 := hideP ((HX.out.trans HX3.out htw).growO hT4 (fun b hb => HFR.out b (slice_own.1 hb)) hU4)
      have HO4 := hideP o4
      have HNEW := hideP hnew
      clear o4 g4 hb4 hat hU4 hT4 hnew HX3 HO3
      clear e0 e1 e2 e3 e4 e5 e6 e7 e8 p0 p1 p2 p3 p4 p5 p6 p7 p8
      go_wp2_with fail
      have hmk := HK.out
      go_roundg k
      case measure => omega
      case rel => exact ⟨m + 1, (f li).1, ss ++ [(f li).2], A4, c4, T3, c3, by omega, by go_num, rfl, by simp [HSL.out], ⟨HQQ.out.1, by rw [← HQQ.out.2]; simp⟩, HX4.out, HO4.out, fun s hs => by
          rcases List.mem_append.1 hs with hs | hs
          · have := HSS.out s hs
            have := HLI.out.1
            omega
          · obtain rfl : s = (f li).2 := by simpa using hs
            exact HLI.out.2, fun b hb => by
          rcases HNEW.out b hb with h | h
          · exact HFR.out b h
          · omega⟩
    · have q1 : ¬ (m : Int) < (N : Int) := by omega
      obtain rfl : gk = 0 := by have := HK.out; omega
      obtain ⟨hq1, hq2⟩ := HQQ.out
      have hqa : li = q.1 := hq1
      have hqb : ss = q.2 := by simpa [timesT] using hq2
      clear hq1 hq2 HQQ
      subst hqa
      subst hqb
      have hmN : m = N := by have := HK.out; omega
      subst hmN
      have HW := hideP (HX.out.weakD (D' := D) (fun b hb => .inl hb))
      have HDD := hideP (show ∀ b, (Value.slice LA m lc).ownBlock = some b → ¬ D b from fun b hb hd => by
        have := HFR.out b (slice_own.1 hb)
        have := HDL.out b hd
        omega)
      have hm3 : m ≤ 1000 := hN1
      clear p0 p1 p2 p3 p4 p5 p6 p7 p8
      go_upto_region 13 with fail
      clear e0 e1 e2 e3 e4 e5 e6 e7 e8
      have hUd := (Upd.refl Nob wr).drew
      have hXd := HX.out.tab.upd hUd
      have hn3r : ¬ TabF tb Ti xb3 := fun h => by
        rcases h with h | h
        · exact HN3.out (.inl h)
        · rcases HX.out.new with h3 | h3
          · exact HN3.out (.inr (by rw [← h3]; exact h))
          · have := h3 _ h
            have := HC3.out.lt
            omega
      have hn5r : ¬ TabF tb Ti xb5 := fun h => by
        rcases h with h | h
        · exact HN5.out (.inl h)
        · rcases HX.out.new with h3 | h3
          · exact HN5.out (.inr (by rw [← h3]; exact h))
          · have := h3 _ h
            have := HC5.out.lt
            omega
      have HD3 := hideP (fun (D0 : Nat → Prop) (l' : List PN) (w' : World) (T' : Option Addr) (c' : Nat) (h : TNx base tb S D0 wr.drew Ti l' w' T' c') => (HC3r.out.upd hUd not_nob).upd h.upd hn3r)
      have HD5 := hideP (fun (D0 : Nat → Prop) (l' : List PN) (w' : World) (T' : Option Addr) (c' : Nat) (h : TNx base tb S D0 wr.drew Ti l' w' T' c') => (HC5r.out.upd hUd not_nob).upd h.upd hn5r)
      have HTD := hideP hXd
      have htd := HTD.out.size
      have HAL := hideP (fun (w1 : World) (T1 : Option Addr) (c1 : Nat) (h : TNx base tb S (fun b => D b ∨ LA.map (·.block) = some b) wr.drew Ti (f q.1).1 w1 T1 c1) => h.trans (TNx.of_upd h.tab ((Upd.refl Nob w1).alloc (.cells #[.int .i64 ((f q.1).2 : Int)] 3))) htd)
      have HOd := hideP (own_upd HO.out hUd (fun _ _ => not_nob))
      have HLI : ∀ (w3 : World) (l' : List PN) (T' : Option Addr) (c' : Nat), TNx base tb S (fun b => D b ∨ LA.map (·.block) = some b) wr.drew Ti l' w3 T' c' → ∀ (w4 : World), Upd (fun b => (Value.slice LA m lc).ownBlock = some b) w3 w4 → Cells w4 xb5 30 #[.int .i64 x.kind, .slice PA x.rs.length pc, .int .i64 x.am, .slice QA x.subs.length qc, .int .i64 x.mn, .int .i64 x.mx, .bool x.lz, .int .i64 x.ix, .string x.nm] ∧ Cells w4 xb3 30 #[.int .i64 t.kind, .slice RA t.rs.length rc, .int .i64 t.am, .slice (some ad) t.subs.length sc, .int .i64 t.mn, .int .i64 t.mx, .bool t.lz, .int .i64 t.ix, .string t.nm] := fun w3 l' T' c' h w4 hU => by
        have ho3 := h.own HTD.out HOd.out
        have h3 := HD3.out _ _ _ _ _ h
        have h5 := HD5.out _ _ _ _ _ h
        exact ⟨h5.upd hU (fun e => own_ne ho3 h5 (by decide) e), h3.upd hU (fun e => own_ne ho3 h3 (by decide) e)⟩
      refine rep_reg13 _ wr tb xb3 xb5 (f q.1).2 n2 m lc base LA (intv (q.2.map fun (s : Nat) => (s : Int))) t.lz (.int .i64 x.kind) (.slice PA x.rs.length pc) (.int .i64 x.am) (.slice QA x.subs.length qc) (.int .i64 x.mn) (.int .i64 x.mx) (.bool x.lz) (.int .i64 x.ix) (.string x.nm) (fun w1 => ∃ T1 c1, TNx base tb S (fun b => D b ∨ LA.map (·.block) = some b) wr.drew Ti (f q.1).1 w1 T1 c1) (fun w1 w3 => ∃ T3 c3, TNx base tb S (fun b => D b ∨ LA.map (·.block) = some b) wr.drew Ti lr w3 T3 c3) _ _ _ _ _ _ _ _ _ _ _ _ _ _ _ _ _ _ _ _ _ _ _ _ _ _ _ _ _ _ _ _ _ _ _ _ _ _ _ _ _ _ _ _ _ _ _ _ _ _ _ _ _ _ _ _ _ _ _ _ _ _ _ _ _ _ _ _ _ _ _ _ _ _ _ _ _ _ _ _ (SPP.out _ HC5r.out HC3r.out) (by omega) ?_ ?_ ?_ ?_ ?_ ?_ ?_
      · refine (HF.out _ wr.drew q.1 Ti ci _ HTD.out (HNr.out.upd_ hUd (fun _ _ => not_nob)) (by omega)).mono ?_
        rintro e w1 ⟨rfl, T1, c1, h1⟩
        exact ⟨rfl, T1, c1, h1⟩
      · rintro w1 ⟨T1, c1, h1⟩
        have h2 := HAL.out w1 T1 c1 h1
        exact ⟨SPP.out _ (HD5.out _ _ _ _ _ h1) (HD3.out _ _ _ _ _ h1), SPP.out _ (HD5.out _ _ _ _ _ h2) (HD3.out _ _ _ _ _ h2)⟩
      · rintro w1 ⟨T1, c1, h1⟩
        have h2 := HAL.out w1 T1 c1 h1
        refine (put_any (x := bareN 102 [(f q.1).2] t.lz) (q := ((none, 0), (some ⟨w1.heap.size, 0, none⟩, 1))) h2.tab (bare_node (one_own (f q.1).2 h1.tab.base_le)) (fun b hb hd => by have := h1.tab.d b hd; simp [Value.ownBlock] at hb; omega) hsb (by omega) (by simp [bareN])).mono ?_
        rw [HR0.out]
        rintro e w3 ⟨rfl, T3, c3, h3⟩
        exact ⟨rfl, T3, c3, h2.trans h3 htd⟩
      · rintro w1 w3 ⟨T1, c1, h1⟩ ⟨T3, c3, h3⟩
        exact SPP.out _ (HD5.out _ _ _ _ _ h3) (HD3.out _ _ _ _ _ h3)
      · rintro w1 w3 ⟨T1, c1, h1⟩ ⟨T3, c3, h3⟩
        exact ⟨h3.own HTD.out HOd.out, h3.tab.base_le⟩
      · rintro w1 w3 w4 ⟨T1, c1, h1⟩ ⟨T3, c3, h3⟩ hU
        obtain ⟨k5, k3⟩ := HLI w3 _ _ _ h3 w4 hU
        exact SPP.out _ k5 k3
      · intro _ _ _ _ _ _ _ _ _ _ _ _ w1 w3 w4 gN cN hG1 hG3 hU4 hat hlt4 o4
        obtain ⟨T3, c3, h3⟩ := hG3
        have HX3 := hideP ((TNx.of_upd HX.out.tab hUd).trans h3 HX.out.tab.size)
        have HO3 := hideP (h3.own HTD.out HOd.out)
        clear hG1 h3
        rw [intv_snoc] at o4
        have hnew : ∀ b, (some (⟨gN, 0, none⟩ : Addr)).map (·.block) = some b → LA.map (·.block) = some b ∨ b = w3.heap.size + 1 := fun b hb => by
          have hb : gN = b := by simpa using hb
          subst hb
          rcases hat with hx | hx
          · exact .inl (slice_own.1 hx)
          · exact .inr hx
        have hb4 : True := trivial
        have hs3 := HX3.out.upd.size
        have hsr := HX.out.upd.size
        have hs4 := hU4.size
        have hT4 := HX3.out.tab.grow (D' := D) HO3.out (fun b hb => .inr (slice_own.1 hb)) hU4 (fun b hb => ⟨.inl (.inl hb), by have := HX3.out.tab.d b (.inl hb); omega⟩)
        have HX4 := hideP ((HX.out.trans HX3.out htw).growO hT4 (fun b hb => HFR.out b (slice_own.1 hb)) hU4)
        have hD4 : ∀ b, (Value.slice (some (⟨gN, 0, none⟩ : Addr)) (m + 1) cN).ownBlock = some b → ¬ D b := fun b hb hd => by
          have h1 := HDL.out b hd
          rcases hnew b (slice_own.1 hb) with h | h
          · have := HFR.out b h
            omega
          · omega
        have hsl4 : (q.2 ++ [n2]).length = m + 1 := by simp [HSL.out]
        have HR := hideP (row_any (ss := q.2 ++ [n2]) (A := (some (⟨gN, 0, none⟩ : Addr))) (c := cN) HX4.out.tab (by rw [hsl4]; exact o4) (by rw [hsl4]; exact hD4) (fun s hs => by
            rcases List.mem_append.1 hs with hs | hs
            · have := HSS.out s hs
              have := HLE.out.1
              omega
            · obtain rfl : s = n2 := by simpa using hs
              exact HLE.out.2) HLE2.out (by rw [hsl4]; omega))
        rw [hsl4] at HR
        clear o4 hb4 hat hU4 hT4 hnew HX3 HO3 hD4 hsl4
        go_wp2_with (go_at_call 55; refine HR.out.mono ?_; rintro e w5 ⟨rfl, T5, c5, hX5⟩)
        go_ret
        exact ⟨rfl, T5, c5, (HA0.out.trans HX4.out (by rw [HXB.out]; exact htb)).trans hX5 (by rw [HXB.out]; exact htb)⟩
end Go.Proofs.Ytlaofcgllchedaa

/-
  The walk of heronref06's Tree.unfold: it makes unfT's row. Printed by tools/mkUnfO.py.
-/
namespace Go.Proofs.Ytlaofcgllchedaa
open Go.RowKit
set_option linter.unusedVariables false

/-- a tree's counts are small -/
def OkV (t : Tree) : Prop := ((t.kind = 6 → 0 ≤ t.mn ∧ t.mn ≤ 1000 ∧ t.mx ≤ 1000 ∧ (t.mx < 0 ∨ t.mn ≤ t.mx)) ∧ (t.kind ≤ 3 → t.subs.length = 0)) ∧ ∀ i (h : i < t.subs.length), OkV t.subs[i]
termination_by SizeOf.sizeOf t
decreasing_by exact Tree.sub_lt (List.getElem_mem h)
theorem OkV.top {t : Tree} (h : OkV t) : ((t.kind = 6 → 0 ≤ t.mn ∧ t.mn ≤ 1000 ∧ t.mx ≤ 1000 ∧ (t.mx < 0 ∨ t.mn ≤ t.mx)) ∧ (t.kind ≤ 3 → t.subs.length = 0)) ∧ ∀ x ∈ t.subs, OkV x := by
  rw [OkV] at h
  refine ⟨h.1, fun x hx => ?_⟩
  obtain ⟨i, hi, rfl⟩ := List.mem_iff_getElem.1 hx
  exact h.2 i hi
theorem OkV.of {t : Tree} (h : (t.kind = 6 → 0 ≤ t.mn ∧ t.mn ≤ 1000 ∧ t.mx ≤ 1000 ∧ (t.mx < 0 ∨ t.mn ≤ t.mx)) ∧ (t.kind ≤ 3 → t.subs.length = 0)) (hs : ∀ x ∈ t.subs, OkV x) : OkV t := by
  rw [OkV]
  exact ⟨h, fun i hi => hs _ (List.getElem_mem hi)⟩
theorem unfT_6 {t x : Tree} (h : t.kind = 6) (hx : t.subs[0]? = some x) : unfT t = repT (unfT x) t.mn t.mx t.lz := by
  obtain ⟨k, rs, am, subs, mn, mx, lz, ix, nm⟩ := t
  simp only [Tree.kind, Tree.subs, Tree.mn, Tree.mx, Tree.lz] at *
  cases subs with
  | nil => simp at hx
  | cons y r =>
    simp at hx
    subst hx
    rw [unfT]
    funext l
    simp only [if_pos h]
    rw [unfTH]
theorem unfT_n {t : Tree} (h : ¬ t.kind = 6) (l : List PN) : unfT t l = putT ⟨t.kind, t.am, t.ix, t.rs, (unfTL t.subs l).2, false, 0, 0⟩ (unfTL t.subs l).1 := by
  obtain ⟨k, rs, am, subs, mn, mx, lz, ix, nm⟩ := t
  simp only [Tree.kind, Tree.subs, Tree.am, Tree.ix, Tree.rs] at *
  rw [unfT]
  simp only [if_neg h]
theorem TabR.updY {w w' : World} {base tb yb : Nat} {S D : Nat → Prop} {l : List PN} {TA : Option Addr} {tc : Nat} {cs : Array Value} (h : TabR w base tb S D l TA tc) (hy : Cells w yb 77 cs) (hn : ¬ TA.map (·.block) = some yb) (hb : base ≤ yb) (hU : Upd (fun b => b = yb) w w') : TabR w' base tb S D l TA tc := by
  obtain ⟨qs, h1, h2, h3⟩ := h.row
  exact ⟨h.tab.upd hU (Cells.ne_ h.tab hy (by decide)), h.lo, h.s, ⟨qs, h1, own_upd h2 hU (fun b hb2 e => hn (by rw [← e]; exact slice_own.1 hb2)), fun i x q hx hq => ⟨(h3 i x q hx hq).1.upd hU (fun b hs e => by have := h.s b hs; omega) (fun b hb2 e => own_ne (h3 i x q hx hq).1.2.1 hy (by decide) (by rw [← e]; exact hb2)), (h3 i x q hx hq).2⟩⟩, fun b hb => Nat.lt_of_lt_of_le (h.d b hb) hU.size⟩
set_option maxRecDepth 100000 in
set_option maxHeartbeats 8000000 in
theorem unf_any {base tb : Nat} {S : Nat → Prop} (n : Nat) : ∀ (t : Tree), SizeOf.sizeOf t ≤ n → OkU t → OkV t → UnfC base tb S t (unfT t) := by
  induction n with
  | zero => exact fun t h => by obtain ⟨k, r, a, l, m, x, z, i, nn⟩ := t; simp at h
  | succ n ih =>
  intro t hn hu hv D w l TA tc cs hT hN hlen
  obtain ⟨RA, rc, SA, sc, rfl, hr0, ho, hs0⟩ := hN.top
  have htb := hT.size
  have hA1 : Upd Nob w (w.alloc (.cells #[.int .i64 t.kind, .slice RA t.rs.length rc, .int .i64 t.am, .slice SA t.subs.length sc, .int .i64 t.mn, .int .i64 t.mx, .bool t.lz, .int .i64 t.ix, .string t.nm] 30)) := (Upd.refl Nob w).alloc _
  have C0 := Cells.new w 30 #[.int .i64 t.kind, .slice RA t.rs.length rc, .int .i64 t.am, .slice SA t.subs.length sc, .int .i64 t.mn, .int .i64 t.mx, .bool t.lz, .int .i64 t.ix, .string t.nm]
  have HA0 := hideP (TNx.of_upd hT hA1)
  have HT := hideP hT
  have HNN := hideP (hN.upd_ hA1 (fun _ _ => not_nob))
  have hn3 : ¬ TabF tb TA w.heap.size := fun h => by
    rcases h with h | h
    · omega
    · have := (hT.lo_own _ h).2; omega
  have HN3 := hideP hn3
  have hbw := hT.base_le
  by_cases hk6 : t.kind = 6
  · have hpos : 0 < t.subs.length := by
      have := hu.top.1.2.2.2 (.inl hk6)
      omega
    obtain ⟨x, hx⟩ : ∃ x, t.subs[0]? = some x := ⟨_, List.getElem?_eq_getElem hpos⟩
    have hmem := List.mem_of_getElem? hx
    have hxn : SizeOf.sizeOf x ≤ n := by have := Tree.sub_lt hmem; omega
    have hF : UnfC base tb S x (unfT x) := ih x hxn (hu.top.2 x hmem) (hv.top.2 x hmem)
    have hg := unf_good x (hu.top.2 x hmem)
    obtain ⟨m0, m1, m2, -⟩ := hv.top.1.1 hk6
    rw [unfT_6 hk6 hx] at hlen ⊢
    have hrep : ∀ (D : Nat → Prop) (w : World) (l : List PN) (TA : Option Addr) (tc : Nat) (cs : Array Value), TabR w base tb S D l TA tc → NodeR w S cs t → (repT (unfT x) t.mn t.mx t.lz l).1.length ≤ 90000 → Calls Try.prog 35 #[.pointer (some ⟨tb, 0, none⟩), .agg cs] w (TAns base tb S D w TA (repT (unfT x) t.mn t.mx t.lz l)) := by
      by_cases hx0 : t.mx < 0
      · by_cases hm0 : t.mn = 0
        · exact rep_star hF hg hx hx0 hm0
        · exact rep_plus hF hg hx hx0 (by omega) m1
      · by_cases hmm : t.mn < t.mx
        · exact rep_opt hF hg hx hx0 m0 m2 hmm
        · exact rep_same hF hg hx hx0 m0 m1 hmm
    have HREP := hideP (hrep D _ l TA tc _ HA0.out.tab HNN.out hlen)
    have hkb : (t.kind == 6) = true := by simpa using hk6
    unfold nodeCells at HREP ⊢
    clear hrep hF ih hT hN hA1 hr0 hs0 hu hv hk6 hn3
    go_enter Try.func26, Try.ntmps26
    go_upto_region 1 with fail
    generalize w.alloc (.cells #[.int .i64 t.kind, .slice RA t.rs.length rc, .int .i64 t.am, .slice SA t.subs.length sc, .int .i64 t.mn, .int .i64 t.mx, .bool t.lz, .int .i64 t.ix, .string t.nm] 30) = wa at *
    obtain ⟨e0, e1, e2, e3, e4, e5, e6, e7, e8⟩ := nineN C0
    go_wp2_with (go_at_call 35; refine HREP.out.mono ?_; rintro e w1 ⟨rfl, T1, c1, hX1⟩)
    go_ret
    exact ⟨rfl, T1, c1, HA0.out.trans hX1 htb⟩
  obtain ⟨lq, sq, hq⟩ : ∃ lq sq, unfTL t.subs l = (lq, sq) := ⟨_, _, rfl⟩
  rw [unfT_n hk6, hq] at hlen ⊢
  have hpl := putT_len ⟨t.kind, t.am, t.ix, t.rs, sq, false, 0, 0⟩ lq
  have hql : lq.length ≤ 89999 := by
    have h1 : (putT ⟨t.kind, t.am, t.ix, t.rs, sq, false, 0, 0⟩ lq).1.length ≤ 90000 := hlen
    omega
  have HIH := hideP (show ∀ x ∈ t.subs, UnfC base tb S x (unfT x) ∧ GoodF (unfT x) (unfU x) from fun x hx => ⟨ih x (by have := Tree.sub_lt hx; omega) (hu.top.2 x hx) (hv.top.2 x hx), unf_good x (hu.top.2 x hx)⟩)
  have HLG := hideP (show ∀ i l', (unfTL (t.subs.drop i) l').1.length ≥ l'.length from fun i l' => ((unfL_good (t.subs.drop i) (fun x hx => hu.top.2 x (List.mem_of_mem_drop hx))) l').1.len)
  obtain ⟨i0, hi0, hz0, hz1, hz2⟩ := info_parts oinfo_int
  have hkb : (t.kind == 6) = false := by simpa using hk6
  have HQ := hideP hq
  have HO := hideP ho
  have HC0 := hideP C0
  have hz : (w.alloc (.cells #[.int .i64 t.kind, .slice RA t.rs.length rc, .int .i64 t.am, .slice SA t.subs.length sc, .int .i64 t.mn, .int .i64 t.mx, .bool t.lz, .int .i64 t.ix, .string t.nm] 30)).heap.size = w.heap.size + 1 := World.size_alloc _ _
  unfold nodeCells at HNN ⊢
  clear hT hN hA1 hr0 hs0 hu hv hn3 ih hq hpl hlen ho
  go_enter Try.func26, Try.ntmps26
  go_upto_region 1 with fail
  generalize w.alloc (.cells #[.int .i64 t.kind, .slice RA t.rs.length rc, .int .i64 t.am, .slice SA t.subs.length sc, .int .i64 t.mn, .int .i64 t.mx, .bool t.lz, .int .i64 t.ix, .string t.nm] 30) = wa at *
  obtain ⟨e0, e1, e2, e3, e4, e5, e6, e7, e8⟩ := nineN C0
  go_upto_region 4 with fail
  have CY := Cells.new wa 77 #[.int .i64 t.kind, .int .i64 t.am, .int .i64 t.ix, .slice RA t.rs.length rc, .slice none 0 0, .bool false, .int .i64 0, .int .i64 0]
  have hAY : Upd Nob wa (wa.alloc (.cells #[.int .i64 t.kind, .int .i64 t.am, .int .i64 t.ix, .slice RA t.rs.length rc, .slice none 0 0, .bool false, .int .i64 0, .int .i64 0] 77)) := (Upd.refl Nob wa).alloc _
  have HT0 := hideP (TNx.of_upd HA0.out.tab hAY)
  have hay : wa.heap.size < (wa.alloc (.cells #[.int .i64 t.kind, .int .i64 t.am, .int .i64 t.ix, .slice RA t.rs.length rc, .slice none 0 0, .bool false, .int .i64 0, .int .i64 0] 77)).heap.size := CY.lt
  have HTAN := hideP (show ¬ TA.map (·.block) = some wa.heap.size from fun h => by have := (HA0.out.tab.lo_own _ h).2; omega)
  rw [hz] at CY HTAN hay
  generalize wa.alloc (.cells #[.int .i64 t.kind, .int .i64 t.am, .int .i64 t.ix, .slice RA t.rs.length rc, .slice none 0 0, .bool false, .int .i64 0, .int .i64 0] 77) = wy at *
  clear e0 e1 e2 e3 e4 e5 e6 e7 e8 C0
  obtain ⟨yb, hyb⟩ : ∃ yb, w.heap.size + 1 = yb := ⟨_, rfl⟩
  rw [hyb] at CY HTAN hay hz ⊢
  have HYB := hideP (show wa.heap.size = yb ∧ w.heap.size < yb by omega)
  generalize hxb : w.heap.size = xb3 at *
  have HXB := hideP hxb
  have HCY := hideP CY
  clear hxb CY hyb hz hAY
  go_wp2_with fail
  go_loopg [6] t.subs.length (fun gk v6 wr => ∃ (m : Nat) (li : List PN) (ss : List Nat) (LA : Option Addr) (lc : Nat) (Ti : Option Addr) (ci : Nat), m + gk = t.subs.length ∧ v6 = .int .i64 (m : Int) ∧ ss.length = m ∧ ((unfTL (t.subs.drop m) li).1 = lq ∧ ss ++ (unfTL (t.subs.drop m) li).2 = sq) ∧ TNx base tb S (fun b => D b ∨ LA.map (·.block) = some b) wa TA li wr Ti ci ∧ wr.ownsRow base 3 1 (.slice LA m lc) m (intv (ss.map fun (s : Nat) => (s : Int))) ∧ (∀ s ∈ ss, s < li.length) ∧ (∀ b, LA.map (·.block) = some b → wa.heap.size ≤ b) ∧ Cells wr yb 77 #[.int .i64 t.kind, .int .i64 t.am, .int .i64 t.ix, .slice RA t.rs.length rc, .slice LA m lc, .bool false, .int .i64 0, .int .i64 0] ∧ (¬ Ti.map (·.block) = some yb) ∧ m ≤ li.length)
  case atStart => exact ⟨0, l, [], none, 0, TA, tc, by omega, rfl, rfl, ⟨by rw [List.drop_zero, HQ.out], by rw [List.drop_zero, HQ.out]; rfl⟩, HT0.out.weakD (fun b hb => hb.resolve_right (by simp)), World.ownsRow_nil _ _ _ _, by simp, by simp, HCY.out, HTAN.out, by omega⟩
  case round =>
    clear HCY HTAN HT0
    obtain ⟨m, li, ss, LA, lc, Ti, ci, hk2, rfl, hsl, hqq, hX, hO, hss, hfr, hY, hTY, hml⟩ := hrel
    have HK := hideP hk2
    have HSL := hideP hsl
    have HQQ := hideP hqq
    have HX := hideP hX
    have HOW := hideP hO
    have HSS := hideP hss
    have HFR := hideP hfr
    have HY := hideP hY
    have HTY := hideP hTY
    have HML := hideP hml
    have htw := HA0.out.tab.size
    have c3 := HC0.out.upd hX.upd HN3.out
    have HC3r := hideP c3
    have HNr := hideP (HNN.out.upd_ hX.upd HA0.out.tab.notF)
    obtain ⟨e0, e1, e2, e3, e4, e5, e6, e7, e8⟩ := nineN c3
    clear hk2 hsl hqq hX hO hss hfr c3 hY hTY hml
    by_cases hlt : m < t.subs.length
    · have q1 : (m : Int) < (t.subs.length : Int) := by omega
      obtain ⟨ad, g, o, x, PA, pc, QA, qc, rfl, hadd, hSg, hgl, hx, hXN, hlx, hcs⟩ := NodeR.sub HNr.out.open_.2.2 hlt
      obtain ⟨k, hk⟩ : ∃ k, gk = k + 1 := ⟨gk - 1, by have := HK.out; omega⟩
      subst hk
      obtain ⟨hFx, hgx⟩ := HIH.out x (List.mem_of_getElem? hx)
      have hd : t.subs.drop m = x :: t.subs.drop (m + 1) := by
        rw [List.drop_eq_getElem_cons hlt]
        congr 1
        rw [List.getElem?_eq_getElem hlt] at hx
        injection hx
      have hQ2 := HQQ.out
      rw [hd, unfTL] at hQ2
      have HQQ := hideP hQ2
      have hfi := hgx.len li
      have hfl0 := (hgx li).low
      have htl := HLG.out (m + 1) (unfT x li).1
      rw [hQ2.1] at htl
      have HLI := hideP (show li.length < (unfT x li).1.length ∧ (unfT x li).2 < (unfT x li).1.length by omega)
      have HLL := hideP (show (unfT x li).1.length ≤ 89999 by omega)
      have HFX := hideP hFx
      have HXN := hideP hXN
      have HCS := hideP hcs
      have hm3 : m ≤ 89999 := by have := HML.out; omega
      clear hQ2 hfi htl hd hFx hXN hcs hfl0 hlx hx
      go_upto_region 7 with fail
      clear e0 e1 e2 e3 e4 e5 e6 e7 e8
      have hUd := (Upd.refl Nob wr).drew
      have HTD := hideP (HX.out.tab.upd hUd)
      have htd := HTD.out.size
      have HOd := hideP (own_upd HOW.out hUd (fun _ _ => not_nob))
      have hyl := HY.out.lt
      have hn3r : ¬ TabF tb Ti xb3 := fun h => by
        rcases h with h | h
        · exact HN3.out (.inl h)
        · rcases HX.out.new with h3 | h3
          · exact HN3.out (.inr (by rw [← h3]; exact h))
          · have := h3 _ h
            have := HYB.out
            omega
      have hnyr : ¬ TabF tb Ti yb := fun h => by
        rcases h with h | h
        · have := HYB.out; rw [← h] at htw; omega
        · exact HTY.out h
      have HK3 := hideP (fun (l' : List PN) (w' : World) (T' : Option Addr) (c' : Nat) (h : TNx base tb S (fun b => D b ∨ LA.map (·.block) = some b) wr.drew Ti l' w' T' c') => And.intro ((HC3r.out.upd hUd not_nob).upd h.upd hn3r) (And.intro ((HY.out.upd hUd not_nob).upd h.upd hnyr) (fun (j : Nat) (v : Value) (hv : (nodeCells x PA pc QA qc)[j]? = some v) => (h.upd.cell (p := ⟨g, o + j, none⟩) hgl (HTD.out.notF g hSg)).trans ((hUd.cell (p := ⟨g, o + j, none⟩) hgl not_nob).trans (HCS.out j v hv)))))
      have SPP := hideP (show ∀ w' : World, Cells w' yb 77 #[.int .i64 t.kind, .int .i64 t.am, .int .i64 t.ix, .slice RA t.rs.length rc, .slice LA m lc, .bool false, .int .i64 0, .int .i64 0] → Cells w' xb3 30 #[.int .i64 t.kind, .slice RA t.rs.length rc, .int .i64 t.am, .slice (some ad) t.subs.length sc, .int .i64 t.mn, .int .i64 t.mx, .bool t.lz, .int .i64 t.ix, .string t.nm] → (∀ (j : Nat) (v : Value), (nodeCells x PA pc QA qc)[j]? = some v → w'.cell? ⟨g, o + j, none⟩ = some v) → (fun (w' : World) => w'.cell? ⟨yb, 0 + 4, none⟩ = some (.slice LA m lc) ∧ w'.cell? ⟨xb3, 0 + 3, none⟩ = some (.slice (some ad) t.subs.length sc) ∧ w'.cell? ⟨g, o, none⟩ = some (.int .i64 x.kind) ∧ w'.cell? ⟨g, o + 1, none⟩ = some (.slice PA x.rs.length pc) ∧ w'.cell? ⟨g, o + 2, none⟩ = some (.int .i64 x.am) ∧ w'.cell? ⟨g, o + 3, none⟩ = some (.slice QA x.subs.length qc) ∧ w'.cell? ⟨g, o + 4, none⟩ = some (.int .i64 x.mn) ∧ w'.cell? ⟨g, o + 5, none⟩ = some (.int .i64 x.mx) ∧ w'.cell? ⟨g, o + 6, none⟩ = some (.bool x.lz) ∧ w'.cell? ⟨g, o + 7, none⟩ = some (.int .i64 x.ix) ∧ w'.cell? ⟨g, o + 8, none⟩ = some (.string x.nm)) w' from fun w' h5 h3 hc => ⟨h5.cellv rfl, h3.cellv rfl, sub_cells hc⟩)
      refine unf_reg7 _ wr tb xb3 yb (unfT x li).2 m lc t.subs.length sc g o base ad LA (intv (ss.map fun (s : Nat) => (s : Int))) (.int .i64 x.kind) (.slice PA x.rs.length pc) (.int .i64 x.am) (.slice QA x.subs.length qc) (.int .i64 x.mn) (.int .i64 x.mx) (.bool x.lz) (.int .i64 x.ix) (.string x.nm) (fun w1 => ∃ T1 c1, TNx base tb S (fun b => D b ∨ LA.map (·.block) = some b) wr.drew Ti (unfT x li).1 w1 T1 c1) _ _ _ _ _ _ _ _ _ _ _ _ _ _ _ _ _ _ _ _ _ _ _ _ _ _ _ _ _ _ _ _ _ _ _ _ _ _ _ _ (SPP.out _ HY.out HC3r.out HCS.out) (by omega) q1 hadd ?_ ?_ ?_ ?_ ?_
      · refine (HFX.out _ wr.drew li Ti ci _ HTD.out (HXN.out.upd_ hUd (fun _ _ => not_nob)) (by have := HLL.out; omega)).mono ?_
        rintro e w1 ⟨rfl, T1, c1, h1⟩
        exact ⟨rfl, T1, c1, h1⟩
      · rintro w1 ⟨T1, c1, h1⟩
        have h2 := h1.trans (TNx.of_upd h1.tab ((Upd.refl Nob w1).alloc (.cells #[.int .i64 ((unfT x li).2 : Int)] 3))) htd
        obtain ⟨a1, a2, a3⟩ := HK3.out _ _ _ _ h1
        obtain ⟨b1, b2, b3⟩ := HK3.out _ _ _ _ h2
        exact ⟨SPP.out _ a2 a1 a3, SPP.out _ b2 b1 b3⟩
      · rintro w1 ⟨T1, c1, h1⟩
        obtain ⟨a1, a2, a3⟩ := HK3.out _ _ _ _ h1
        exact ⟨h1.own HTD.out HOd.out, h1.tab.base_le, a2.frozen _⟩
      · rintro w1 w4 ⟨T1, c1, h1⟩ hU
        obtain ⟨a1, a2, a3⟩ := HK3.out _ _ _ _ h1
        have ho3 := h1.own HTD.out HOd.out
        have d1 := a1.upd hU (fun e => own_ne ho3 a1 (by decide) e)
        have d2 := a2.upd hU (fun e => own_ne ho3 a2 (by decide) e)
        exact ⟨SPP.out _ d2 d1 (fun j v hv => (hU.cell (p := ⟨g, o + j, none⟩) (Nat.lt_of_lt_of_le hgl (h1.upd.size)) (fun e => by have hbg : base ≤ g := wk_lo ho3 e; have := HTD.out.s g hSg; omega)).trans (a3 j v hv)), d2.frozen _⟩
      · intro _ _ _ _ _ _ _ _ _ _ _ _ w1 w4 gN cN hG1 hU4 hat hlt4 o4
        obtain ⟨T1, c1, h1⟩ := hG1
        obtain ⟨a1, a2, a3⟩ := HK3.out _ _ _ _ h1
        have ho3 := h1.own HTD.out HOd.out
        have hX1 := (HX.out.trans (TNx.of_upd HX.out.tab hUd) htw).trans h1 htw
        have hY4 := a2.upd hU4 (fun e => own_ne ho3 a2 (by decide) e)
        have hnew : LA.map (·.block) = some gN ∨ gN = w1.heap.size + 1 := by
          rcases hat with hx | hx
          · exact .inl (slice_own.1 hx)
          · exact .inr hx
        have hs1 := h1.upd.size
        have hs1' : wr.heap.size ≤ w1.heap.size := hs1
        have hsa := HX.out.upd.size
        have hs4 := hU4.size
        have hT4 := h1.tab.grow (D' := fun b => D b ∨ (some (⟨gN, 0, none⟩ : Addr)).map (·.block) = some b) ho3 (fun b hb => .inr (slice_own.1 hb)) hU4 (fun b hb => by
          rcases hb with hb | hb
          · exact ⟨.inl (.inl hb), by have := h1.tab.d b (.inl hb); omega⟩
          · have hb : gN = b := by simpa using hb
            subst hb
            refine ⟨?_, hlt4⟩
            rcases hnew with h | h
            · exact .inl (.inr h)
            · exact .inr (by omega))
        have hX4 := hX1.growO hT4 (fun b hb => HFR.out b (slice_own.1 hb)) hU4
        have hT1y : ¬ T1.map (·.block) = some yb := fun h => by
          rcases h1.new with h3 | h3
          · exact HTY.out (by rw [← h3]; exact h)
          · have h5 : wr.heap.size ≤ yb := h3 _ h
            omega
        rw [intv_snoc] at o4
        have hUy := (Upd.refl (fun b => b = yb) w4).setCell ⟨yb, 0 + 4, none⟩ (.slice (some ⟨gN, 0, none⟩) (m + 1) cN) (fun _ => rfl)
        have hY5 : Cells (w4.setCell ⟨yb, 0 + 4, none⟩ (.slice (some ⟨gN, 0, none⟩) (m + 1) cN)) yb 77 #[.int .i64 t.kind, .int .i64 t.am, .int .i64 t.ix, .slice RA t.rs.length rc, .slice (some ⟨gN, 0, none⟩) (m + 1) cN, .bool false, .int .i64 0, .int .i64 0] := hY4.set_ 4 _
        have hT5 := hT4.updY hY4 hT1y (by have := HYB.out; omega) hUy
        have hX5 : TNx base tb S (fun b => D b ∨ (some (⟨gN, 0, none⟩ : Addr)).map (·.block) = some b) wa TA (unfT x li).1 (w4.setCell ⟨yb, 0 + 4, none⟩ (.slice (some ⟨gN, 0, none⟩) (m + 1) cN)) T1 c1 := ⟨hT5, hX4.upd.trans hUy (fun b hb e => by have := HYB.out; omega), hX4.new⟩
        have o5 := own_upd o4 hUy (fun b hb e => by subst e; exact own_ne o4 hY4 (by decide) hb)
        generalize w4.setCell ⟨yb, 0 + 4, none⟩ (.slice (some ⟨gN, 0, none⟩) (m + 1) cN) = w5 at *
        have HX5 := hideP hX5
        have HY5 := hideP hY5
        have HO5 := hideP o5
        have HNEW := hideP hnew
        have HT1Y := hideP hT1y
        clear h1 a1 a2 a3 ho3 hX1 hY4 hnew hT4 hX4 hT1y hUy hY5 hT5 hX5 o5 o4 hat hU4
        go_wp2_with fail
        have hmk := HK.out
        go_roundg k
        case measure => omega
        case rel => exact ⟨m + 1, (unfT x li).1, ss ++ [(unfT x li).2], some ⟨gN, 0, none⟩, cN, T1, c1, by omega, by go_num, by simp [HSL.out], ⟨HQQ.out.1, by rw [← HQQ.out.2]; simp⟩, HX5.out, HO5.out, fun s hs => by
            rcases List.mem_append.1 hs with hs | hs
            · have := HSS.out s hs
              have := HLI.out.1
              omega
            · obtain rfl : s = (unfT x li).2 := by simpa using hs
              exact HLI.out.2, fun b hb => by
            have hb : gN = b := by simpa using hb
            subst hb
            rcases HNEW.out with h | h
            · exact HFR.out _ h
            · omega, HY5.out, HT1Y.out, by have := HLI.out.1; have := HML.out; omega⟩
    · have q1 : ¬ (m : Int) < (t.subs.length : Int) := by omega
      obtain rfl : m = t.subs.length := by have := HK.out; omega
      have hQ2 := HQQ.out
      rw [List.drop_length, unfTL] at hQ2
      have hqa : li = lq := hQ2.1
      have hqb : ss = sq := by simpa using hQ2.2
      clear hQ2 HQQ
      subst hqa
      subst hqb
      have HW := hideP (HX.out.weakD (D' := D) (fun b hb => .inl hb))
      have hND : ∀ b, (Value.slice LA ss.length lc).ownBlock = some b → ¬ D b := fun b hb hd => by
        have := HFR.out b (slice_own.1 hb)
        have := HA0.out.tab.d b hd
        omega
      have hOO : wr.ownsRow base 3 1 (.slice LA ss.length lc) ss.length (intv (ss.map fun (s : Nat) => (s : Int))) := by rw [HSL.out]; exact HOW.out
      have hNO : NodeO wr base S ⟨t.kind, t.am, t.ix, t.rs, ss, false, 0, 0⟩ ((RA, rc), (LA, lc)) := ⟨HNr.out.open_.1, hOO, HO.out.a, HO.out.i⟩
      have hP := put_any HW.out.tab hNO hND HSS.out (by omega) (by show ss.length ≤ 1000000; rw [HSL.out]; have := HML.out; omega)
      simp only at hP
      rw [HSL.out] at hP
      have HP := hideP hP
      clear hP hNO hOO hND hlt
      obtain ⟨y0, y1, y2, y3, y4, y5, y6, y7⟩ : wr.cell? ⟨yb, 0, none⟩ = some (.int .i64 t.kind) ∧ wr.cell? ⟨yb, 1, none⟩ = some (.int .i64 t.am) ∧ wr.cell? ⟨yb, 2, none⟩ = some (.int .i64 t.ix) ∧ wr.cell? ⟨yb, 3, none⟩ = some (.slice RA t.rs.length rc) ∧ wr.cell? ⟨yb, 4, none⟩ = some (.slice LA t.subs.length lc) ∧ wr.cell? ⟨yb, 5, none⟩ = some (.bool false) ∧ wr.cell? ⟨yb, 6, none⟩ = some (.int .i64 0) ∧ wr.cell? ⟨yb, 7, none⟩ = some (.int .i64 0) := ⟨HY.out.cellv rfl, HY.out.cellv rfl, HY.out.cellv rfl, HY.out.cellv rfl, HY.out.cellv rfl, HY.out.cellv rfl, HY.out.cellv rfl, HY.out.cellv rfl⟩
      go_wp2_with (go_at_call 36; refine HP.out.mono ?_; rintro e w5 ⟨rfl, T5, c5, hX5⟩)
      go_ret
      exact ⟨rfl, T5, c5, (HA0.out.trans HW.out (by rw [HXB.out]; exact htb)).trans hX5 (by rw [HXB.out]; exact htb)⟩
end Go.Proofs.Ytlaofcgllchedaa
