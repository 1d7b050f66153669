/-
  OptO, RepR, put together.
-/
import Derived.Test.YtlaofcgllchedaaZ21RowO

/-
  The walk of heronref06's Tree.opt.
-/
namespace Go.Proofs.Ytlaofcgllchedaa
open Go.RowKit
set_option linter.unusedVariables false

theorem oinfo_int : (Try.prog.info? 3).map (fun i => (i.zero, i.size, i.bytes)) = some (some (.int .i64 0), 1, 8) := by kernel_rfl
theorem setUps_len (n : Nat) : ∀ (ss : List Nat) (k : Nat) (l : List PN), (setUps l n k ss).length = l.length
  | [], _, _ => rfl
  | s :: ss, k, l => by rw [show setUps l n k (s :: ss) = setUps (setUp l s n k) n (k + 1) ss from rfl, setUps_len n ss]; simp [setUp]
theorem putT_len (x : PN) (l : List PN) : (putT x l).1.length = l.length + 1 ∧ (putT x l).2 = l.length := by
  refine ⟨?_, rfl⟩
  show (setUps _ _ _ _).length = _
  rw [setUps_len]
  simp
theorem rowT_len (ss : List Nat) (l : List PN) : l.length ≤ (rowT ss l).1.length ∧ ((∀ s ∈ ss, s < l.length) → (rowT ss l).2 < (rowT ss l).1.length) := by
  match ss with
  | [] =>
    have := putT_len (bareN 1 [] false) l
    show l.length ≤ (putT (bareN 1 [] false) l).1.length ∧ (_ → (putT (bareN 1 [] false) l).2 < (putT (bareN 1 [] false) l).1.length)
    omega
  | [a] => exact ⟨Nat.le_refl _, fun h => h a (by simp)⟩
  | a :: b :: r =>
    have := putT_len (bareN 4 (a :: b :: r) false) l
    show l.length ≤ (putT (bareN 4 (a :: b :: r) false) l).1.length ∧ (_ → (putT (bareN 4 (a :: b :: r) false) l).2 < (putT (bareN 4 (a :: b :: r) false) l).1.length)
    omega
theorem GoodF.len {f : Uf} {u : UT} (h : GoodF f u) (l : List PN) : l.length ≤ (f l).1.length ∧ (f l).2 < (f l).1.length := by
  obtain ⟨x, hx, -⟩ := (h l).root
  exact ⟨(h l).pre.len, (List.getElem?_eq_some_iff.1 hx).1⟩
theorem nineN {w : World} {g : Nat} {t : TypeId} {v0 v1 v2 v3 v4 v5 v6 v7 v8 : Value} (h : Cells w g t #[v0, v1, v2, v3, v4, v5, v6, v7, v8]) :
    w.cell? ⟨g, 0, none⟩ = some v0 ∧ w.cell? ⟨g, 1, none⟩ = some v1 ∧ w.cell? ⟨g, 2, none⟩ = some v2 ∧ w.cell? ⟨g, 3, none⟩ = some v3 ∧ w.cell? ⟨g, 4, none⟩ = some v4 ∧ w.cell? ⟨g, 5, none⟩ = some v5 ∧ w.cell? ⟨g, 6, none⟩ = some v6 ∧ w.cell? ⟨g, 7, none⟩ = some v7 ∧ w.cell? ⟨g, 8, none⟩ = some v8 :=
  ⟨h.cellv rfl, h.cellv rfl, h.cellv rfl, h.cellv rfl, h.cellv rfl, h.cellv rfl, h.cellv rfl, h.cellv rfl, h.cellv rfl⟩
/-- unfold does this, of a tree -/
def UnfC (base tb : Nat) (S : Nat → Prop) (t : Tree) (f : Uf) : Prop := ∀ (D : Nat → Prop) (w : World) (l : List PN) (TA : Option Addr) (tc : Nat) (cs : Array Value), TabR w base tb S D l TA tc → NodeR w S cs t → (f l).1.length ≤ 90000 → Calls Try.prog 26 #[.pointer (some ⟨tb, 0, none⟩), .agg cs] w (TAns base tb S D w TA (f l))
/-- a literal row of one number, base and all -/
theorem one_own {w : World} {base : Nat} (a : Nat) (hb : base ≤ w.heap.size) : (w.alloc (.cells #[.int .i64 (a : Int)] 3)).ownsRow base 3 1 (.slice (some ⟨w.heap.size, 0, none⟩) 1 1) 1 (intv ([a].map fun (s : Nat) => (s : Int))) :=
  own_base (lit_own (w := w) #[.int .i64 (a : Int)] 3 (by unfold maxLen; simp)) (fun g hg => by simp [Value.ownBlock] at hg; omega)
theorem TabR.base_le {w : World} {base tb : Nat} {S D : Nat → Prop} {l : List PN} {TA : Option Addr} {tc : Nat} (h : TabR w base tb S D l TA tc) : base ≤ w.heap.size := by
  have := h.size
  have := h.lo
  omega
set_option maxRecDepth 100000 in
set_option maxHeartbeats 4000000 in
theorem opt_any {base tb : Nat} {S : Nat → Prop} {t : Tree} {f : Uf} {u : UT} (hF : UnfC base tb S t f) (hg : GoodF f u) (lz : Bool) : ∀ (k : Nat), 0 < k → k ≤ 1000 → ∀ (D : Nat → Prop) (w : World) (l : List PN) (TA : Option Addr) (tc : Nat) (cs : Array Value), TabR w base tb S D l TA tc → NodeR w S cs t → (optT f lz k l).1.length ≤ 90000 →
    Calls Try.prog 54 #[.pointer (some ⟨tb, 0, none⟩), .agg cs, .int .i64 (k : Int), .bool lz] w (TAns base tb S D w TA (optT f lz k l))
  | 0, h, _ => by omega
  | 1, _, _ => by
    intro D w l TA tc cs hT hN hlen
    obtain ⟨RA, rc, SA, sc, rfl, -⟩ := hN.top
    have hA : Upd Nob w (w.alloc (.cells (nodeCells t RA rc SA sc) 30)) := (Upd.refl Nob w).alloc _
    have C0 := Cells.new w 30 (nodeCells t RA rc SA sc)
    have e1 : optT f lz 1 l = putT (bareN 103 [(f l).2] lz) (f l).1 := rfl
    have hfl := hg.len l
    have hpl := putT_len (bareN 103 [(f l).2] lz) (f l).1
    rw [e1] at hlen ⊢
    have HF := hideP (hF D _ l TA tc _ (hT.upd hA) (hN.upd_ hA (fun _ _ => not_nob)) (by omega))
    have HA0 := hideP (TNx.of_upd hT hA)
    have HT := hideP hT
    have htb := hT.size
    unfold nodeCells at C0 HF HA0 hA ⊢
    clear hT hN hA
    go_enter Try.func54, Try.ntmps54
    go_upto_region 1 with fail
    generalize w.alloc (.cells #[.int .i64 t.kind, .slice RA t.rs.length rc, .int .i64 t.am, .slice SA t.subs.length sc, .int .i64 t.mn, .int .i64 t.mx, .bool t.lz, .int .i64 t.ix, .string t.nm] 30) = wa at *
    obtain ⟨e0, e1, e2, e3, e4, e5, e6, e7, e8⟩ := nineN C0
    go_upto_region 2 with (go_at_call 26; refine HF.out.mono ?_; rintro e w1 ⟨rfl, T1, c1, hX1⟩)
    have hb1 := hX1.tab.base_le
    have hA1 : Upd Nob w1 (w1.alloc (.cells #[.int .i64 ((f l).2 : Int)] 3)) := (Upd.refl Nob w1).alloc _
    have HX2 := hideP ((HA0.out.trans hX1 htb).trans (TNx.of_upd hX1.tab hA1) htb)
    have HO2 := hideP (one_own (f l).2 hb1)
    have HR := hideP (row_any (A := some ⟨w1.heap.size, 0, none⟩) (c := 1) (ss := [(f l).2]) HX2.out.tab HO2.out (fun b hb hd => by have := hX1.tab.d b hd; simp [Value.ownBlock] at hb; omega) (by simp; exact hfl.2) (by omega) (by simp))
    generalize w1.alloc (.cells #[.int .i64 ((f l).2 : Int)] 3) = w2 at *
    clear e0 e1 e2 e3 e4 e5 e6 e7 e8 hX1 hA1 HF C0
    have HPU := hideP (fun (w3 : World) (T3 : Option Addr) (c3 : Nat) (hX3 : TNx base tb S D w2 T1 (f l).1 w3 T3 c3) => put_any (x := bareN 103 [(f l).2] lz) (q := ((none, 0), (some ⟨w3.heap.size, 0, none⟩, 1))) (hX3.tab.upd ((Upd.refl Nob w3).alloc (.cells #[.int .i64 ((f l).2 : Int)] 3))) (bare_node (one_own (f l).2 hX3.tab.base_le)) (fun b hb hd => by have := hX3.tab.d b hd; simp [Value.ownBlock] at hb; omega) (by simp [bareN]; exact hfl.2) (by omega) (by simp [bareN]))
    go_wp2_with (first | (go_at_call 55; refine HR.out.mono ?_; rintro e w3 ⟨rfl, T3, c3, hX3⟩; have HX3 := hideP hX3; clear hX3) | (go_at_call 36; refine (HPU.out w3 T3 c3 HX3.out).mono ?_; rintro e w5 ⟨rfl, T5, c5, hX5⟩))
    go_ret
    exact ⟨rfl, T5, c5, ((HX2.out.trans HX3.out htb).trans (TNx.of_upd HX3.out.tab ((Upd.refl Nob w3).alloc _)) htb).trans hX5 htb⟩
  | k + 2, _, hk => by
    intro D w l TA tc cs hT hN hlen
    have ih := opt_any hF hg lz (k + 1) (by omega) (by omega)
    obtain ⟨RA, rc, SA, sc, rfl, -⟩ := hN.top
    have hA : Upd Nob w (w.alloc (.cells (nodeCells t RA rc SA sc) 30)) := (Upd.refl Nob w).alloc _
    have C0 := Cells.new w 30 (nodeCells t RA rc SA sc)
    obtain ⟨r, hr⟩ : ∃ r, optT f lz (k + 1) (f l).1 = r := ⟨_, rfl⟩
    obtain ⟨q, hq⟩ : ∃ q, rowT [(f l).2, r.2] r.1 = q := ⟨_, rfl⟩
    have e1 : optT f lz (k + 2) l = putT (bareN 103 [q.2] lz) q.1 := by rw [← hq, ← hr]; rfl
    have hfl := hg.len l
    have hgl := (opt_good lz hg (k + 1) (by omega)).len (f l).1
    rw [hr] at hgl
    have hql := rowT_len [(f l).2, r.2] r.1
    rw [hq] at hql
    have hsub : ∀ s ∈ [(f l).2, r.2], s < r.1.length := by
      intro s hs
      simp at hs
      rcases hs with rfl | rfl
      · omega
      · exact hgl.2
    have hq2 := hql.2 hsub
    have hpl := putT_len (bareN 103 [q.2] lz) q.1
    rw [e1] at hlen ⊢
    have HF := hideP (hF D _ l TA tc _ (hT.upd hA) (hN.upd_ hA (fun _ _ => not_nob)) (by omega))
    have HA0 := hideP (TNx.of_upd hT hA)
    have HT := hideP hT
    have HN := hideP (hN.upd_ hA (fun _ _ => not_nob))
    have htb := hT.size
    have hno : ¬ TabF tb TA w.heap.size := fun h => by
      rcases h with h | h
      · omega
      · have := (hT.lo_own _ h).2; omega
    have HNO := hideP hno
    have HIH := hideP ih
    have HQ := hideP hq
    have HR0 := hideP hr
    have HSB := hideP hsub
    obtain ⟨i0, hi0, hz0, hz1, hz2⟩ := info_parts oinfo_int
    have hkw : IntKind.i64.wrap (((k + 2 : Nat) : Int) - 1) = ((k + 1 : Nat) : Int) := by rw [IntKind.wrap_i64]; omega
    have hk1 : (1 : Int) < ((k + 2 : Nat) : Int) := by omega
    generalize hK2 : k + 2 = k2 at *
    generalize hK1 : k + 1 = k1 at *
    unfold nodeCells at C0 HF HA0 hA HN ⊢
    clear hT hA hno hN ih hq hr hsub
    have HTA := hideP (show TabR (w.alloc (.cells #[.int .i64 t.kind, .slice RA t.rs.length rc, .int .i64 t.am, .slice SA t.subs.length sc, .int .i64 t.mn, .int .i64 t.mx, .bool t.lz, .int .i64 t.ix, .string t.nm] 30)) base tb S D l TA tc from HA0.out.tab)
    go_enter Try.func54, Try.ntmps54
    go_upto_region 1 with fail
    generalize w.alloc (.cells #[.int .i64 t.kind, .slice RA t.rs.length rc, .int .i64 t.am, .slice SA t.subs.length sc, .int .i64 t.mn, .int .i64 t.mx, .bool t.lz, .int .i64 t.ix, .string t.nm] 30) = wa at *
    have HC0 := hideP C0
    obtain ⟨e0, e1, e2, e3, e4, e5, e6, e7, e8⟩ := nineN C0
    go_upto_region 2 with (go_at_call 26; refine HF.out.mono ?_; rintro e w1 ⟨rfl, T1, c1, hX1⟩)
    have hb1 := hX1.tab.base_le
    have hA1 : Upd Nob w1 (w1.alloc (.cells #[.int .i64 ((f l).2 : Int)] 3)) := (Upd.refl Nob w1).alloc _
    have hTD := hX1.tab.fresh (D' := fun b => D b ∨ b = w1.heap.size) hA1 (fun b hb => by
      have hz : (w1.alloc (.cells #[.int .i64 ((f l).2 : Int)] 3)).heap.size = w1.heap.size + 1 := World.size_alloc _ _
      rcases hb with hb | hb
      · have := hX1.tab.d b hb
        exact ⟨.inl hb, by omega⟩
      · exact ⟨.inr (by omega), by omega⟩)
    have HXa := hideP (hX1.trans (⟨hTD, hA1.mono (fun _ _ h => absurd h not_nob), .inl rfl⟩ : TNx base tb S (fun b => D b ∨ b = w1.heap.size) w1 T1 (f l).1 _ T1 c1) HTA.out.size)
    have HD1 := hideP hX1.tab.d
    have HO2 := hideP (one_own (f l).2 hb1)
    have hsa : wa.heap.size ≤ w1.heap.size := hX1.upd.size
    generalize w1.alloc (.cells #[.int .i64 ((f l).2 : Int)] 3) = w2 at *
    generalize hg1 : w1.heap.size = g1 at *
    clear e0 e1 e2 e3 e4 e5 e6 e7 e8 hX1 hA1 HF C0 hg1 hTD
    obtain ⟨e0, e1, e2, e3, e4, e5, e6, e7, e8⟩ := nineN (HC0.out.upd HXa.out.upd HNO.out)
    have HI2 := hideP (HIH.out (fun b => D b ∨ b = g1) w2 (f l).1 T1 c1 _ HXa.out.tab (HN.out.upd_ HXa.out.upd HTA.out.notF) (by rw [HR0.out]; omega))
    go_upto_region 4 with (first | (go_at_call 54; refine HI2.out.mono ?_; rw [HR0.out]; rintro e w3 ⟨rfl, T3, c3, hX3⟩; have HX3 := hideP hX3; have HO3 := hideP (hX3.own HXa.out.tab HO2.out); have hb3 := hX3.tab.base_le; clear hX3) | (at_builtin; refine wpList_append_own_at _ rfl _ _ 22 rfl base 3 i0 (.int .i64 0) 1 8 Try.underlying22 hi0 hz0 hz1 hz2 rfl (by decide) (.slice (some ⟨g1, 0, none⟩) 1 1) 1 (intv ([(f l).2].map fun (s : Nat) => (s : Int))) rfl (HO3.out.alloc _) ⟨w3.heap.size, 0, none⟩ 1 1 [(.int .i64 (r.2 : Int))] rfl rfl ?d1 ?d2 ?d3 ?d4 ?d5 ?_))
    case d1 => exact World.news_of_block (cs := #[(.int .i64 (r.2 : Int))]) (t := 3) (fr := (0, 0)) (heap_alloc_new _ _)
    case d2 => first | rfl | exact ⟨rfl⟩ | trivial | (intro u hu; simp at hu; subst hu; rfl) | simp
    case d3 => unfold maxLen; omega
    case d4 => omega
    case d5 => simp; omega
    intro v4 w4 o4 g4 hb4 hat
    obtain ⟨A4, c4, rfl⟩ := own_shape o4
    have hU4 : Upd (fun b => b = g1) w3 w4 := ((Upd.refl (fun b => b = g1) w3).alloc _).grown g4 (fun b hb _ => by simp [Value.ownBlock] at hb; exact hb.symm)
    have hT4 := HX3.out.tab.grow (D' := D) HO3.out (fun b hb => .inr (by simp [Value.ownBlock] at hb; exact hb.symm)) (hU4.mono (fun b _ e => by subst e; rfl)) (fun b hb => ⟨.inl (.inl hb), by have := HD1.out b hb; have := HX3.out.upd.size; have := HXa.out.upd.size; have := hU4.size; have := HX3.out.tab.d b (.inl hb); omega⟩)
    have HX4 := hideP ((HXa.out.trans HX3.out HTA.out.size).grow hT4 hsa hU4)
    have HO4 := hideP (show w4.ownsRow base 3 1 (.slice A4 2 c4) 2 (intv ([(f l).2, r.2].map fun (s : Nat) => (s : Int))) from o4)
    have h14 : g1 < w3.heap.size := (HO3.out.lt g1 rfl).2
    have HD4 := hideP (show ∀ b, (Value.slice A4 2 c4).ownBlock = some b → ¬ D b from fun b hb hd => by
      have := HD1.out b hd
      rcases hat with hx | hx
      · rw [hb] at hx
        simp [Value.ownBlock] at hx
        omega
      · rw [hb] at hx
        injection hx with hx
        omega)
    have HSB2 := hideP (show ∀ s ∈ [(f l).2, r.2], s < r.1.length from HSB.out)
    have HR4 := hideP (row_any (ss := [(f l).2, r.2]) (c := c4) HX4.out.tab HO4.out HD4.out HSB.out (by omega) (by simp))
    clear o4 g4 hat hU4 hT4 HX3 HO3 hb4
    clear e0 e1 e2 e3 e4 e5 e6 e7 e8
    have HPU := hideP (fun (w5 : World) (T5 : Option Addr) (c5 : Nat) (hX5 : TNx base tb S D w4 T3 q.1 w5 T5 c5) => put_any (x := bareN 103 [q.2] lz) (q := ((none, 0), (some ⟨w5.heap.size, 0, none⟩, 1))) (hX5.tab.upd ((Upd.refl Nob w5).alloc (.cells #[.int .i64 (q.2 : Int)] 3))) (bare_node (one_own q.2 hX5.tab.base_le)) (fun b hb hd => by have := hX5.tab.d b hd; simp [Value.ownBlock] at hb; omega) (by simp [bareN]; exact hq2) (by omega) (by simp [bareN]))
    go_wp2_with (first | (go_at_call 55; refine HR4.out.mono ?_; rw [HQ.out]; rintro e w5 ⟨rfl, T5, c5, hX5⟩; have HX5 := hideP hX5; clear hX5) | (go_at_call 36; refine (HPU.out w5 T5 c5 HX5.out).mono ?_; rintro e w7 ⟨rfl, T7, c7, hX7⟩))
    go_ret
    have htb2 := HTA.out.size
    exact ⟨rfl, T7, c7, HA0.out.trans (((HX4.out.trans HX5.out htb2).trans (TNx.of_upd HX5.out.tab ((Upd.refl Nob w5).alloc _)) htb2).trans hX7 htb2) htb⟩
end Go.Proofs.Ytlaofcgllchedaa

/-
  Drawn regions of heronref06's Tree.repeat, Tree.unfold. Printed by tools/mkRep.py.
-/
namespace Go.Proofs.Ytlaofcgllchedaa
open Go.RowKit
set_option linter.unusedVariables false

set_option maxRecDepth 100000 in
set_option maxHeartbeats 4000000 in
theorem rep_reg3 (Q : Exit → Act → World → Prop) (wr : World) (tb xb3 xb5 a n2 : Nat) (lz : Bool) (c0 c1 c2 c3 c4 c5 c6 c7 c8 : Value) (G1 : World → Prop) (G2 : World → World → Prop) (x1 x2 x4 x6 x7 x8 x9 x10 x11 x12 x13 x14 x15 x16 x17 x18 x19 x20 x21 x22 x23 x24 x25 x26 x27 x28 x29 x30 x31 x32 x33 x34 x35 x36 x37 x38 x39 x40 x41 x42 x43 x44 x45 x46 x47 x48 x49 x50 x51 x52 x53 x54 x55 x56 x57 x58 x59 x60 x61 x62 x63 x64 x65 x66 x67 x68 x69 x70 x71 x72 x73 x74 x75 x76 x77 x78 x79 x80 x81 x82 x83 : Value)
    (hS : (fun (w' : World) => w'.cell? ⟨xb5, 0, none⟩ = some (c0) ∧ w'.cell? ⟨xb5, 1, none⟩ = some (c1) ∧ w'.cell? ⟨xb5, 2, none⟩ = some (c2) ∧ w'.cell? ⟨xb5, 3, none⟩ = some (c3) ∧ w'.cell? ⟨xb5, 4, none⟩ = some (c4) ∧ w'.cell? ⟨xb5, 5, none⟩ = some (c5) ∧ w'.cell? ⟨xb5, 6, none⟩ = some (c6) ∧ w'.cell? ⟨xb5, 7, none⟩ = some (c7) ∧ w'.cell? ⟨xb5, 8, none⟩ = some (c8) ∧ w'.cell? ⟨xb3, 0 + 6, none⟩ = some (.bool lz)) wr)
    (hC1 : Calls Try.prog 26 #[.pointer (some ⟨tb, 0, none⟩), .agg #[c0, c1, c2, c3, c4, c5, c6, c7, c8]] wr.drew (fun (e : Ending) (w1 : World) => e = .returned (.int .i64 (a : Int)) ∧ G1 w1)) (hk1 : ∀ (w1 : World), G1 w1 → (fun (w' : World) => w'.cell? ⟨xb5, 0, none⟩ = some (c0) ∧ w'.cell? ⟨xb5, 1, none⟩ = some (c1) ∧ w'.cell? ⟨xb5, 2, none⟩ = some (c2) ∧ w'.cell? ⟨xb5, 3, none⟩ = some (c3) ∧ w'.cell? ⟨xb5, 4, none⟩ = some (c4) ∧ w'.cell? ⟨xb5, 5, none⟩ = some (c5) ∧ w'.cell? ⟨xb5, 6, none⟩ = some (c6) ∧ w'.cell? ⟨xb5, 7, none⟩ = some (c7) ∧ w'.cell? ⟨xb5, 8, none⟩ = some (c8) ∧ w'.cell? ⟨xb3, 0 + 6, none⟩ = some (.bool lz)) w1 ∧ (fun (w' : World) => w'.cell? ⟨xb5, 0, none⟩ = some (c0) ∧ w'.cell? ⟨xb5, 1, none⟩ = some (c1) ∧ w'.cell? ⟨xb5, 2, none⟩ = some (c2) ∧ w'.cell? ⟨xb5, 3, none⟩ = some (c3) ∧ w'.cell? ⟨xb5, 4, none⟩ = some (c4) ∧ w'.cell? ⟨xb5, 5, none⟩ = some (c5) ∧ w'.cell? ⟨xb5, 6, none⟩ = some (c6) ∧ w'.cell? ⟨xb5, 7, none⟩ = some (c7) ∧ w'.cell? ⟨xb5, 8, none⟩ = some (c8) ∧ w'.cell? ⟨xb3, 0 + 6, none⟩ = some (.bool lz)) (w1.alloc (.cells #[.int .i64 (a : Int)] 3)))
    (hC2 : ∀ (w1 : World), G1 w1 → Calls Try.prog 36 #[.pointer (some ⟨tb, 0, none⟩), .agg #[.int .i64 101, .int .i64 0, .int .i64 0, .slice none 0 0, .slice (some ⟨w1.heap.size, 0, none⟩) 1 1, .bool lz, .int .i64 0, .int .i64 0]] (w1.alloc (.cells #[.int .i64 (a : Int)] 3)) (fun (e : Ending) (w3 : World) => e = .returned (.int .i64 (n2 : Int)) ∧ G2 w1 w3)) (hk2 : ∀ (w1 w3 : World), G1 w1 → G2 w1 w3 → (fun (w' : World) => w'.cell? ⟨xb5, 0, none⟩ = some (c0) ∧ w'.cell? ⟨xb5, 1, none⟩ = some (c1) ∧ w'.cell? ⟨xb5, 2, none⟩ = some (c2) ∧ w'.cell? ⟨xb5, 3, none⟩ = some (c3) ∧ w'.cell? ⟨xb5, 4, none⟩ = some (c4) ∧ w'.cell? ⟨xb5, 5, none⟩ = some (c5) ∧ w'.cell? ⟨xb5, 6, none⟩ = some (c6) ∧ w'.cell? ⟨xb5, 7, none⟩ = some (c7) ∧ w'.cell? ⟨xb5, 8, none⟩ = some (c8) ∧ w'.cell? ⟨xb3, 0 + 6, none⟩ = some (.bool lz)) w3)
    (hnext : ∀ (v21 v22 v23 v24 v25 v26 v27 v28 v29 : Value) (w1 w3 : World), G1 w1 → G2 w1 w3 → Q .normal ⟨#[.pointer (some ⟨tb, 0, none⟩), x1, x2, .pointer (some ⟨xb3, 0, none⟩), .int .i64 (n2 : Int), .pointer (some ⟨xb5, 0, none⟩), x6, x7, x8, x9, x10, x11, x12, x13, x14, x15, x16, x17, x18, x19, x20, v21, v22, v23, v24, v25, v26, v27, v28, v29, x30, x31, x32, x33, x34, x35, x36, x37, x38, x39, x40, x41, x42, x43, x44, x45, x46, x47, x48, x49, x50, x51, x52, x53, x54, x55, x56, x57, x58, x59, x60, x61, x62, x63, x64, x65, x66, x67, x68, x69, x70, x71, x72, x73, x74, x75, x76, x77, x78, x79, x80, x81, x82, x83], []⟩ w3) :
    (Code.region 3 #[{ dst := some 21, op := Op.move (Operand.tmp 0), type := 58, pos := "ref.go:101", after := #[], guard := none }, { dst := some 22, op := Op.move (Operand.tmp 0), type := 58, pos := "ref.go:101", after := #[], guard := none }, { dst := some 23, op := Op.load 30 (Operand.tmp 5), type := 30, pos := "ref.go:101", after := #[], guard := none }, { dst := some 24, op := Op.call { callee := Callee.value (Operand.func 26), args := #[Operand.tmp 22, Operand.tmp 23], argTypes := #[58, 30] }, type := 3, pos := "ref.go:101", after := #[{ on := 1, ground := .data }, { on := 2, ground := .data }], guard := none }, { dst := some 25, op := Op.buildSlice 22 1 #[(0, Operand.tmp 24)], type := 22, pos := "ref.go:101", after := #[{ on := 3, ground := .data }], guard := none }, { dst := some 26, op := Op.fieldAddr 30 (Operand.tmp 3) 6, type := 0, pos := "ref.go:101", after := #[], guard := none }, { dst := some 27, op := Op.load 4 (Operand.tmp 26), type := 4, pos := "ref.go:101", after := #[{ on := 5, ground := .data }], guard := none }, { dst := some 28, op := Op.build 77 #[(0, Operand.const (Value.int IntKind.i64 101)), (4, Operand.tmp 25), (5, Operand.tmp 27)], type := 77, pos := "ref.go:101", after := #[{ on := 4, ground := .data }, { on := 6, ground := .data }], guard := none }, { dst := some 29, op := Op.call { callee := Callee.value (Operand.func 36), args := #[Operand.tmp 21, Operand.tmp 28], argTypes := #[58, 77] }, type := 3, pos := "ref.go:101", after := #[{ on := 0, ground := .data }, { on := 7, ground := .data }, { on := 3, ground := .chain }], guard := none }, { dst := some 4, op := Op.assign (Operand.tmp 29), type := 3, pos := "ref.go:101", after := #[{ on := 8, ground := .data }, { on := 8, ground := .chain }, { on := 0, ground := .phase }, { on := 1, ground := .phase }, { on := 2, ground := .phase }, { on := 3, ground := .phase }, { on := 4, ground := .phase }, { on := 5, ground := .phase }, { on := 6, ground := .phase }, { on := 7, ground := .phase }, { on := 8, ground := .phase }], guard := none }] true).wp Try.prog Q ⟨#[.pointer (some ⟨tb, 0, none⟩), x1, x2, .pointer (some ⟨xb3, 0, none⟩), x4, .pointer (some ⟨xb5, 0, none⟩), x6, x7, x8, x9, x10, x11, x12, x13, x14, x15, x16, x17, x18, x19, x20, x21, x22, x23, x24, x25, x26, x27, x28, x29, x30, x31, x32, x33, x34, x35, x36, x37, x38, x39, x40, x41, x42, x43, x44, x45, x46, x47, x48, x49, x50, x51, x52, x53, x54, x55, x56, x57, x58, x59, x60, x61, x62, x63, x64, x65, x66, x67, x68, x69, x70, x71, x72, x73, x74, x75, x76, x77, x78, x79, x80, x81, x82, x83], []⟩ wr := by
  have HC1 := hideP hC1
  have HC2 := hideP hC2
  have HKK1 := hideP hk1
  have HKK2 := hideP hk2
  have HY := hideP hnext
  clear hC1 hC2 hk1 hk2 hnext
  refine Code.wp_mono (QuietQ.imp (G := fun _ _ _ => False) (fun _ _ _ h => h.elim)) ?_
  refine AnyJ.begin 9 (fun (w' : World) => w'.cell? ⟨xb5, 0, none⟩ = some (c0) ∧ w'.cell? ⟨xb5, 1, none⟩ = some (c1) ∧ w'.cell? ⟨xb5, 2, none⟩ = some (c2) ∧ w'.cell? ⟨xb5, 3, none⟩ = some (c3) ∧ w'.cell? ⟨xb5, 4, none⟩ = some (c4) ∧ w'.cell? ⟨xb5, 5, none⟩ = some (c5) ∧ w'.cell? ⟨xb5, 6, none⟩ = some (c6) ∧ w'.cell? ⟨xb5, 7, none⟩ = some (c7) ∧ w'.cell? ⟨xb5, 8, none⟩ = some (c8) ∧ w'.cell? ⟨xb3, 0 + 6, none⟩ = some (.bool lz)) (by kernel_rfl) hS (fun hSS => ?_)
  refine AnyJ.take (i := 0) (oi := { dst := some 21, op := Op.move (Operand.tmp 0), type := 58, pos := "ref.go:101", after := #[], guard := none }) (v := ?v0nra1) ?a0nra1 ?b0nra1 ?c0nra1 ?d0nra1 ?e0nra1 (fun _ _ _ h => h) (Or.inl ⟨?f0nra1, ?y0nra1⟩) (by assumption) ?r0nra1
  case a0nra1 => rfl
  case b0nra1 => kernel_rfl
  case c0nra1 => kernel_rfl
  case d0nra1 => kernel_rfl
  case e0nra1 => kernel_rfl
  case f0nra1 => rfl
  case y0nra1 => (intro w' hSw; (try dsimp only at hSw); obtain ⟨s0, s1, s2, s3, s4, s5, s6, s7, s8, s9⟩ := hSw; go_simp; try with_reducible rfl)
  try simp only [Act.put, List.setIfInBounds_toArray, List.set_cons_zero, List.set_cons_succ]
  refine AnyJ.take (i := 1) (oi := { dst := some 22, op := Op.move (Operand.tmp 0), type := 58, pos := "ref.go:101", after := #[], guard := none }) (v := ?v1nra2) ?a1nra2 ?b1nra2 ?c1nra2 ?d1nra2 ?e1nra2 (fun _ _ _ h => h) (Or.inl ⟨?f1nra2, ?y1nra2⟩) (by assumption) ?r1nra2
  case a1nra2 => rfl
  case b1nra2 => kernel_rfl
  case c1nra2 => kernel_rfl
  case d1nra2 => kernel_rfl
  case e1nra2 => kernel_rfl
  case f1nra2 => rfl
  case y1nra2 => (intro w' hSw; (try dsimp only at hSw); obtain ⟨s0, s1, s2, s3, s4, s5, s6, s7, s8, s9⟩ := hSw; go_simp; try with_reducible rfl)
  try simp only [Act.put, List.setIfInBounds_toArray, List.set_cons_zero, List.set_cons_succ]
  refine AnyJ.take (i := 2) (oi := { dst := some 23, op := Op.load 30 (Operand.tmp 5), type := 30, pos := "ref.go:101", after := #[], guard := none }) (v := ?v2nra3) ?a2nra3 ?b2nra3 ?c2nra3 ?d2nra3 ?e2nra3 (fun _ _ _ h => h) (Or.inl ⟨?f2nra3, ?y2nra3⟩) (by assumption) ?r2nra3
  case a2nra3 => rfl
  case b2nra3 => kernel_rfl
  case c2nra3 => kernel_rfl
  case d2nra3 => kernel_rfl
  case e2nra3 => kernel_rfl
  case f2nra3 => rfl
  case y2nra3 => (intro w' hSw; (try dsimp only at hSw); obtain ⟨s0, s1, s2, s3, s4, s5, s6, s7, s8, s9⟩ := hSw; go_simp; try with_reducible rfl)
  try simp only [Act.put, List.setIfInBounds_toArray, List.set_cons_zero, List.set_cons_succ]
  refine AnyJ.take (i := 5) (oi := { dst := some 26, op := Op.fieldAddr 30 (Operand.tmp 3) 6, type := 0, pos := "ref.go:101", after := #[], guard := none }) (v := ?v5nra4) ?a5nra4 ?b5nra4 ?c5nra4 ?d5nra4 ?e5nra4 (fun _ _ _ h => h) (Or.inl ⟨?f5nra4, ?y5nra4⟩) (by assumption) ?r5nra4
  case a5nra4 => rfl
  case b5nra4 => kernel_rfl
  case c5nra4 => kernel_rfl
  case d5nra4 => kernel_rfl
  case e5nra4 => kernel_rfl
  case f5nra4 => rfl
  case y5nra4 => (intro w' hSw; (try dsimp only at hSw); obtain ⟨s0, s1, s2, s3, s4, s5, s6, s7, s8, s9⟩ := hSw; go_simp; try with_reducible rfl)
  try simp only [Act.put, List.setIfInBounds_toArray, List.set_cons_zero, List.set_cons_succ]
  refine AnyJ.take (i := 6) (oi := { dst := some 27, op := Op.load 4 (Operand.tmp 26), type := 4, pos := "ref.go:101", after := #[{ on := 5, ground := .data }], guard := none }) (v := ?v6nra5) ?a6nra5 ?b6nra5 ?c6nra5 ?d6nra5 ?e6nra5 (fun _ _ _ h => h) (Or.inl ⟨?f6nra5, ?y6nra5⟩) (by assumption) ?r6nra5
  case a6nra5 => rfl
  case b6nra5 => kernel_rfl
  case c6nra5 => kernel_rfl
  case d6nra5 => kernel_rfl
  case e6nra5 => kernel_rfl
  case f6nra5 => rfl
  case y6nra5 => (intro w' hSw; (try dsimp only at hSw); obtain ⟨s0, s1, s2, s3, s4, s5, s6, s7, s8, s9⟩ := hSw; go_simp; try with_reducible rfl)
  try simp only [Act.put, List.setIfInBounds_toArray, List.set_cons_zero, List.set_cons_succ]
  clear hSS hS
  refine AnyJ.one (i := 3) (o := { dst := some 24, op := Op.call { callee := Callee.value (Operand.func 26), args := #[Operand.tmp 22, Operand.tmp 23], argTypes := #[58, 30] }, type := 3, pos := "ref.go:101", after := #[{ on := 1, ground := .data }, { on := 2, ground := .data }], guard := none }) ?pra6 ?qra6 ?_
  case pra6 => kernel_rfl
  case qra6 => rfl
  intro K' hK
  go_simp
  refine HC1.out.mono ?_
  rintro e w1 ⟨rfl, hG1⟩
  have HG1 := hideP hG1
  have HK1 := hideP (HKK1.out w1 hG1)
  refine hK.out _ _ (.inr HK1.out.1) ?_; clear hK K' hG1
  try simp only [Act.put, List.setIfInBounds_toArray, List.set_cons_zero, List.set_cons_succ]
  refine AnyJ.one (i := 4) (o := { dst := some 25, op := Op.buildSlice 22 1 #[(0, Operand.tmp 24)], type := 22, pos := "ref.go:101", after := #[{ on := 3, ground := .data }], guard := none }) ?pra7 ?qra7 ?_
  case pra7 => kernel_rfl
  case qra7 => rfl
  intro K' hK
  go_simp
  refine hK.out _ _ (.inr HK1.out.2) ?_; clear hK K'
  try simp only [Act.put, List.setIfInBounds_toArray, List.set_cons_zero, List.set_cons_succ]
  have hS2 : (fun (w' : World) => w'.cell? ⟨xb5, 0, none⟩ = some (c0) ∧ w'.cell? ⟨xb5, 1, none⟩ = some (c1) ∧ w'.cell? ⟨xb5, 2, none⟩ = some (c2) ∧ w'.cell? ⟨xb5, 3, none⟩ = some (c3) ∧ w'.cell? ⟨xb5, 4, none⟩ = some (c4) ∧ w'.cell? ⟨xb5, 5, none⟩ = some (c5) ∧ w'.cell? ⟨xb5, 6, none⟩ = some (c6) ∧ w'.cell? ⟨xb5, 7, none⟩ = some (c7) ∧ w'.cell? ⟨xb5, 8, none⟩ = some (c8) ∧ w'.cell? ⟨xb3, 0 + 6, none⟩ = some (.bool lz)) (w1.alloc (.cells #[.int .i64 (a : Int)] 3)) := HK1.out.2
  refine AnyJ.take (i := 7) (oi := { dst := some 28, op := Op.build 77 #[(0, Operand.const (Value.int IntKind.i64 101)), (4, Operand.tmp 25), (5, Operand.tmp 27)], type := 77, pos := "ref.go:101", after := #[{ on := 4, ground := .data }, { on := 6, ground := .data }], guard := none }) (v := ?v7nra8) ?a7nra8 ?b7nra8 ?c7nra8 ?d7nra8 ?e7nra8 (fun _ _ _ h => h) (Or.inl ⟨?f7nra8, ?y7nra8⟩) (by assumption) ?r7nra8
  case a7nra8 => rfl
  case b7nra8 => kernel_rfl
  case c7nra8 => kernel_rfl
  case d7nra8 => kernel_rfl
  case e7nra8 => kernel_rfl
  case f7nra8 => rfl
  case y7nra8 => (intro w' hSw; (try dsimp only at hSw); obtain ⟨s0, s1, s2, s3, s4, s5, s6, s7, s8, s9⟩ := hSw; go_simp; try with_reducible rfl)
  try simp only [Act.put, List.setIfInBounds_toArray, List.set_cons_zero, List.set_cons_succ]
  clear hS2
  refine AnyJ.one (i := 8) (o := { dst := some 29, op := Op.call { callee := Callee.value (Operand.func 36), args := #[Operand.tmp 21, Operand.tmp 28], argTypes := #[58, 77] }, type := 3, pos := "ref.go:101", after := #[{ on := 0, ground := .data }, { on := 7, ground := .data }, { on := 3, ground := .chain }], guard := none }) ?pra9 ?qra9 ?_
  case pra9 => kernel_rfl
  case qra9 => rfl
  intro K' hK
  go_simp
  refine (HC2.out w1 HG1.out).mono ?_
  rintro e w3 ⟨rfl, hG2⟩
  have HG2 := hideP hG2
  have HK3 := hideP (HKK2.out w1 w3 HG1.out hG2)
  refine hK.out _ _ (.inr HK3.out) ?_; clear hK K' hG2
  try simp only [Act.put, List.setIfInBounds_toArray, List.set_cons_zero, List.set_cons_succ]
  refine AnyJ.one (i := 9) (o := { dst := some 4, op := Op.assign (Operand.tmp 29), type := 3, pos := "ref.go:101", after := #[{ on := 8, ground := .data }, { on := 8, ground := .chain }, { on := 0, ground := .phase }, { on := 1, ground := .phase }, { on := 2, ground := .phase }, { on := 3, ground := .phase }, { on := 4, ground := .phase }, { on := 5, ground := .phase }, { on := 6, ground := .phase }, { on := 7, ground := .phase }, { on := 8, ground := .phase }], guard := none }) ?pra10 ?qra10 ?_
  case pra10 => kernel_rfl
  case qra10 => rfl
  intro K' hK
  go_simp
  refine hK.out _ _ (.inl rfl) ?_; clear hK K'
  refine AnyJ.done ?_ ?_ _
  · kernel_rfl
  exact HY.out _ _ _ _ _ _ _ _ _ w1 w3 HG1.out HG2.out
set_option maxRecDepth 100000 in
set_option maxHeartbeats 4000000 in
theorem rep_reg13 (Q : Exit → Act → World → Prop) (wr : World) (tb xb3 xb5 a n2 m lc base : Nat) (LA : Option Addr) (vs : List Value) (lz : Bool) (c0 c1 c2 c3 c4 c5 c6 c7 c8 : Value) (G1 : World → Prop) (G2 : World → World → Prop) (x1 x2 x4 x7 x8 x9 x10 x11 x12 x13 x14 x15 x16 x17 x18 x19 x20 x21 x22 x23 x24 x25 x26 x27 x28 x29 x30 x31 x32 x33 x34 x35 x36 x37 x38 x39 x40 x41 x42 x43 x44 x45 x46 x47 x48 x49 x50 x51 x52 x53 x54 x55 x56 x57 x58 x59 x60 x61 x62 x63 x64 x65 x66 x67 x68 x69 x70 x71 x72 x73 x74 x75 x76 x77 x78 x79 x80 x81 x82 x83 : Value)
    (hS : (fun (w' : World) => w'.cell? ⟨xb5, 0, none⟩ = some (c0) ∧ w'.cell? ⟨xb5, 1, none⟩ = some (c1) ∧ w'.cell? ⟨xb5, 2, none⟩ = some (c2) ∧ w'.cell? ⟨xb5, 3, none⟩ = some (c3) ∧ w'.cell? ⟨xb5, 4, none⟩ = some (c4) ∧ w'.cell? ⟨xb5, 5, none⟩ = some (c5) ∧ w'.cell? ⟨xb5, 6, none⟩ = some (c6) ∧ w'.cell? ⟨xb5, 7, none⟩ = some (c7) ∧ w'.cell? ⟨xb5, 8, none⟩ = some (c8) ∧ w'.cell? ⟨xb3, 0 + 6, none⟩ = some (.bool lz)) wr) (hm : m ≤ 100000)
    (hC1 : Calls Try.prog 26 #[.pointer (some ⟨tb, 0, none⟩), .agg #[c0, c1, c2, c3, c4, c5, c6, c7, c8]] wr.drew (fun (e : Ending) (w1 : World) => e = .returned (.int .i64 (a : Int)) ∧ G1 w1)) (hk1 : ∀ (w1 : World), G1 w1 → (fun (w' : World) => w'.cell? ⟨xb5, 0, none⟩ = some (c0) ∧ w'.cell? ⟨xb5, 1, none⟩ = some (c1) ∧ w'.cell? ⟨xb5, 2, none⟩ = some (c2) ∧ w'.cell? ⟨xb5, 3, none⟩ = some (c3) ∧ w'.cell? ⟨xb5, 4, none⟩ = some (c4) ∧ w'.cell? ⟨xb5, 5, none⟩ = some (c5) ∧ w'.cell? ⟨xb5, 6, none⟩ = some (c6) ∧ w'.cell? ⟨xb5, 7, none⟩ = some (c7) ∧ w'.cell? ⟨xb5, 8, none⟩ = some (c8) ∧ w'.cell? ⟨xb3, 0 + 6, none⟩ = some (.bool lz)) w1 ∧ (fun (w' : World) => w'.cell? ⟨xb5, 0, none⟩ = some (c0) ∧ w'.cell? ⟨xb5, 1, none⟩ = some (c1) ∧ w'.cell? ⟨xb5, 2, none⟩ = some (c2) ∧ w'.cell? ⟨xb5, 3, none⟩ = some (c3) ∧ w'.cell? ⟨xb5, 4, none⟩ = some (c4) ∧ w'.cell? ⟨xb5, 5, none⟩ = some (c5) ∧ w'.cell? ⟨xb5, 6, none⟩ = some (c6) ∧ w'.cell? ⟨xb5, 7, none⟩ = some (c7) ∧ w'.cell? ⟨xb5, 8, none⟩ = some (c8) ∧ w'.cell? ⟨xb3, 0 + 6, none⟩ = some (.bool lz)) (w1.alloc (.cells #[.int .i64 (a : Int)] 3)))
    (hC2 : ∀ (w1 : World), G1 w1 → Calls Try.prog 36 #[.pointer (some ⟨tb, 0, none⟩), .agg #[.int .i64 102, .int .i64 0, .int .i64 0, .slice none 0 0, .slice (some ⟨w1.heap.size, 0, none⟩) 1 1, .bool lz, .int .i64 0, .int .i64 0]] (w1.alloc (.cells #[.int .i64 (a : Int)] 3)) (fun (e : Ending) (w3 : World) => e = .returned (.int .i64 (n2 : Int)) ∧ G2 w1 w3)) (hk2 : ∀ (w1 w3 : World), G1 w1 → G2 w1 w3 → (fun (w' : World) => w'.cell? ⟨xb5, 0, none⟩ = some (c0) ∧ w'.cell? ⟨xb5, 1, none⟩ = some (c1) ∧ w'.cell? ⟨xb5, 2, none⟩ = some (c2) ∧ w'.cell? ⟨xb5, 3, none⟩ = some (c3) ∧ w'.cell? ⟨xb5, 4, none⟩ = some (c4) ∧ w'.cell? ⟨xb5, 5, none⟩ = some (c5) ∧ w'.cell? ⟨xb5, 6, none⟩ = some (c6) ∧ w'.cell? ⟨xb5, 7, none⟩ = some (c7) ∧ w'.cell? ⟨xb5, 8, none⟩ = some (c8) ∧ w'.cell? ⟨xb3, 0 + 6, none⟩ = some (.bool lz)) w3)
    (hO : ∀ (w1 w3 : World), G1 w1 → G2 w1 w3 → w3.ownsRow base 3 1 (.slice LA m lc) m vs ∧ base ≤ w3.heap.size) (hk3 : ∀ (w1 w3 w4 : World), G1 w1 → G2 w1 w3 → Upd (fun (b : Nat) => (Value.slice LA m lc).ownBlock = some b) w3 w4 → (fun (w' : World) => w'.cell? ⟨xb5, 0, none⟩ = some (c0) ∧ w'.cell? ⟨xb5, 1, none⟩ = some (c1) ∧ w'.cell? ⟨xb5, 2, none⟩ = some (c2) ∧ w'.cell? ⟨xb5, 3, none⟩ = some (c3) ∧ w'.cell? ⟨xb5, 4, none⟩ = some (c4) ∧ w'.cell? ⟨xb5, 5, none⟩ = some (c5) ∧ w'.cell? ⟨xb5, 6, none⟩ = some (c6) ∧ w'.cell? ⟨xb5, 7, none⟩ = some (c7) ∧ w'.cell? ⟨xb5, 8, none⟩ = some (c8) ∧ w'.cell? ⟨xb3, 0 + 6, none⟩ = some (.bool lz)) w4)
    (hnext : ∀ (v51 v52 v53 v54 v55 v56 v57 v58 v59 v60 v61 v62 : Value) (w1 w3 w4 : World) (gN cN : Nat), G1 w1 → G2 w1 w3 → Upd (fun (b : Nat) => (Value.slice LA m lc).ownBlock = some b) w3 w4 → ((Value.slice LA m lc).ownBlock = some gN ∨ gN = w3.heap.size + 1) → gN < w4.heap.size → w4.ownsRow base 3 1 (.slice (some ⟨gN, 0, none⟩) (m + 1) cN) (m + 1) (vs ++ [.int .i64 (n2 : Int)]) → Q .normal ⟨#[.pointer (some ⟨tb, 0, none⟩), x1, x2, .pointer (some ⟨xb3, 0, none⟩), x4, .pointer (some ⟨xb5, 0, none⟩), .slice (some ⟨gN, 0, none⟩) (m + 1) cN, x7, x8, x9, x10, x11, x12, x13, x14, x15, x16, x17, x18, x19, x20, x21, x22, x23, x24, x25, x26, x27, x28, x29, x30, x31, x32, x33, x34, x35, x36, x37, x38, x39, x40, x41, x42, x43, x44, x45, x46, x47, x48, x49, x50, v51, v52, v53, v54, v55, v56, v57, v58, v59, v60, v61, v62, x63, x64, x65, x66, x67, x68, x69, x70, x71, x72, x73, x74, x75, x76, x77, x78, x79, x80, x81, x82, x83], []⟩ w4) :
    (Code.region 13 #[{ dst := some 51, op := Op.move (Operand.tmp 6), type := 22, pos := "ref.go:112", after := #[], guard := none }, { dst := some 52, op := Op.move (Operand.tmp 0), type := 58, pos := "ref.go:112", after := #[], guard := none }, { dst := some 53, op := Op.move (Operand.tmp 0), type := 58, pos := "ref.go:112", after := #[], guard := none }, { dst := some 54, op := Op.load 30 (Operand.tmp 5), type := 30, pos := "ref.go:112", after := #[], guard := none }, { dst := some 55, op := Op.call { callee := Callee.value (Operand.func 26), args := #[Operand.tmp 53, Operand.tmp 54], argTypes := #[58, 30] }, type := 3, pos := "ref.go:112", after := #[{ on := 2, ground := .data }, { on := 3, ground := .data }], guard := none }, { dst := some 56, op := Op.buildSlice 22 1 #[(0, Operand.tmp 55)], type := 22, pos := "ref.go:112", after := #[{ on := 4, ground := .data }], guard := none }, { dst := some 57, op := Op.fieldAddr 30 (Operand.tmp 3) 6, type := 0, pos := "ref.go:112", after := #[], guard := none }, { dst := some 58, op := Op.load 4 (Operand.tmp 57), type := 4, pos := "ref.go:112", after := #[{ on := 6, ground := .data }], guard := none }, { dst := some 59, op := Op.build 77 #[(0, Operand.const (Value.int IntKind.i64 102)), (4, Operand.tmp 56), (5, Operand.tmp 58)], type := 77, pos := "ref.go:112", after := #[{ on := 5, ground := .data }, { on := 7, ground := .data }], guard := none }, { dst := some 60, op := Op.call { callee := Callee.value (Operand.func 36), args := #[Operand.tmp 52, Operand.tmp 59], argTypes := #[58, 77] }, type := 3, pos := "ref.go:112", after := #[{ on := 1, ground := .data }, { on := 8, ground := .data }, { on := 4, ground := .chain }], guard := none }, { dst := some 61, op := Op.buildSlice 22 1 #[(0, Operand.tmp 60)], type := 22, pos := "ref.go:112", after := #[{ on := 9, ground := .data }], guard := none }, { dst := some 62, op := Op.call { callee := Callee.builtin Builtin.append, args := #[Operand.tmp 51, Operand.tmp 61], argTypes := #[22, 22] }, type := 22, pos := "ref.go:112", after := #[{ on := 0, ground := .data }, { on := 10, ground := .data }, { on := 9, ground := .chain }], guard := none }, { dst := some 6, op := Op.assign (Operand.tmp 62), type := 22, pos := "ref.go:112", after := #[{ on := 11, ground := .data }, { on := 11, ground := .chain }, { on := 0, ground := .phase }, { on := 1, ground := .phase }, { on := 2, ground := .phase }, { on := 3, ground := .phase }, { on := 4, ground := .phase }, { on := 5, ground := .phase }, { on := 6, ground := .phase }, { on := 7, ground := .phase }, { on := 8, ground := .phase }, { on := 9, ground := .phase }, { on := 10, ground := .phase }, { on := 11, ground := .phase }], guard := none }] true).wp Try.prog Q ⟨#[.pointer (some ⟨tb, 0, none⟩), x1, x2, .pointer (some ⟨xb3, 0, none⟩), x4, .pointer (some ⟨xb5, 0, none⟩), .slice LA m lc, x7, x8, x9, x10, x11, x12, x13, x14, x15, x16, x17, x18, x19, x20, x21, x22, x23, x24, x25, x26, x27, x28, x29, x30, x31, x32, x33, x34, x35, x36, x37, x38, x39, x40, x41, x42, x43, x44, x45, x46, x47, x48, x49, x50, x51, x52, x53, x54, x55, x56, x57, x58, x59, x60, x61, x62, x63, x64, x65, x66, x67, x68, x69, x70, x71, x72, x73, x74, x75, x76, x77, x78, x79, x80, x81, x82, x83], []⟩ wr := by
  obtain ⟨i0, hi0, hz0, hz1, hz2⟩ := info_parts oinfo_int
  have HC1 := hideP hC1
  have HC2 := hideP hC2
  have HKK1 := hideP hk1
  have HKK2 := hideP hk2
  have HKK3 := hideP hk3
  have HOO := hideP hO
  have HY := hideP hnext
  clear hC1 hC2 hk1 hk2 hk3 hO hnext
  refine Code.wp_mono (QuietQ.imp (G := fun _ _ _ => False) (fun _ _ _ h => h.elim)) ?_
  refine AnyJ.begin 12 (fun (w' : World) => w'.cell? ⟨xb5, 0, none⟩ = some (c0) ∧ w'.cell? ⟨xb5, 1, none⟩ = some (c1) ∧ w'.cell? ⟨xb5, 2, none⟩ = some (c2) ∧ w'.cell? ⟨xb5, 3, none⟩ = some (c3) ∧ w'.cell? ⟨xb5, 4, none⟩ = some (c4) ∧ w'.cell? ⟨xb5, 5, none⟩ = some (c5) ∧ w'.cell? ⟨xb5, 6, none⟩ = some (c6) ∧ w'.cell? ⟨xb5, 7, none⟩ = some (c7) ∧ w'.cell? ⟨xb5, 8, none⟩ = some (c8) ∧ w'.cell? ⟨xb3, 0 + 6, none⟩ = some (.bool lz)) (by kernel_rfl) hS (fun hSS => ?_)
  refine AnyJ.take (i := 0) (oi := { dst := some 51, op := Op.move (Operand.tmp 6), type := 22, pos := "ref.go:112", after := #[], guard := none }) (v := ?v0nrb11) ?a0nrb11 ?b0nrb11 ?c0nrb11 ?d0nrb11 ?e0nrb11 (fun _ _ _ h => h) (Or.inl ⟨?f0nrb11, ?y0nrb11⟩) (by assumption) ?r0nrb11
  case a0nrb11 => rfl
  case b0nrb11 => kernel_rfl
  case c0nrb11 => kernel_rfl
  case d0nrb11 => kernel_rfl
  case e0nrb11 => kernel_rfl
  case f0nrb11 => rfl
  case y0nrb11 => (intro w' hSw; (try dsimp only at hSw); obtain ⟨s0, s1, s2, s3, s4, s5, s6, s7, s8, s9⟩ := hSw; go_simp; try with_reducible rfl)
  try simp only [Act.put, List.setIfInBounds_toArray, List.set_cons_zero, List.set_cons_succ]
  refine AnyJ.take (i := 1) (oi := { dst := some 52, op := Op.move (Operand.tmp 0), type := 58, pos := "ref.go:112", after := #[], guard := none }) (v := ?v1nrb12) ?a1nrb12 ?b1nrb12 ?c1nrb12 ?d1nrb12 ?e1nrb12 (fun _ _ _ h => h) (Or.inl ⟨?f1nrb12, ?y1nrb12⟩) (by assumption) ?r1nrb12
  case a1nrb12 => rfl
  case b1nrb12 => kernel_rfl
  case c1nrb12 => kernel_rfl
  case d1nrb12 => kernel_rfl
  case e1nrb12 => kernel_rfl
  case f1nrb12 => rfl
  case y1nrb12 => (intro w' hSw; (try dsimp only at hSw); obtain ⟨s0, s1, s2, s3, s4, s5, s6, s7, s8, s9⟩ := hSw; go_simp; try with_reducible rfl)
  try simp only [Act.put, List.setIfInBounds_toArray, List.set_cons_zero, List.set_cons_succ]
  refine AnyJ.take (i := 2) (oi := { dst := some 53, op := Op.move (Operand.tmp 0), type := 58, pos := "ref.go:112", after := #[], guard := none }) (v := ?v2nrb13) ?a2nrb13 ?b2nrb13 ?c2nrb13 ?d2nrb13 ?e2nrb13 (fun _ _ _ h => h) (Or.inl ⟨?f2nrb13, ?y2nrb13⟩) (by assumption) ?r2nrb13
  case a2nrb13 => rfl
  case b2nrb13 => kernel_rfl
  case c2nrb13 => kernel_rfl
  case d2nrb13 => kernel_rfl
  case e2nrb13 => kernel_rfl
  case f2nrb13 => rfl
  case y2nrb13 => (intro w' hSw; (try dsimp only at hSw); obtain ⟨s0, s1, s2, s3, s4, s5, s6, s7, s8, s9⟩ := hSw; go_simp; try with_reducible rfl)
  try simp only [Act.put, List.setIfInBounds_toArray, List.set_cons_zero, List.set_cons_succ]
  refine AnyJ.take (i := 3) (oi := { dst := some 54, op := Op.load 30 (Operand.tmp 5), type := 30, pos := "ref.go:112", after := #[], guard := none }) (v := ?v3nrb14) ?a3nrb14 ?b3nrb14 ?c3nrb14 ?d3nrb14 ?e3nrb14 (fun _ _ _ h => h) (Or.inl ⟨?f3nrb14, ?y3nrb14⟩) (by assumption) ?r3nrb14
  case a3nrb14 => rfl
  case b3nrb14 => kernel_rfl
  case c3nrb14 => kernel_rfl
  case d3nrb14 => kernel_rfl
  case e3nrb14 => kernel_rfl
  case f3nrb14 => rfl
  case y3nrb14 => (intro w' hSw; (try dsimp only at hSw); obtain ⟨s0, s1, s2, s3, s4, s5, s6, s7, s8, s9⟩ := hSw; go_simp; try with_reducible rfl)
  try simp only [Act.put, List.setIfInBounds_toArray, List.set_cons_zero, List.set_cons_succ]
  refine AnyJ.take (i := 6) (oi := { dst := some 57, op := Op.fieldAddr 30 (Operand.tmp 3) 6, type := 0, pos := "ref.go:112", after := #[], guard := none }) (v := ?v6nrb15) ?a6nrb15 ?b6nrb15 ?c6nrb15 ?d6nrb15 ?e6nrb15 (fun _ _ _ h => h) (Or.inl ⟨?f6nrb15, ?y6nrb15⟩) (by assumption) ?r6nrb15
  case a6nrb15 => rfl
  case b6nrb15 => kernel_rfl
  case c6nrb15 => kernel_rfl
  case d6nrb15 => kernel_rfl
  case e6nrb15 => kernel_rfl
  case f6nrb15 => rfl
  case y6nrb15 => (intro w' hSw; (try dsimp only at hSw); obtain ⟨s0, s1, s2, s3, s4, s5, s6, s7, s8, s9⟩ := hSw; go_simp; try with_reducible rfl)
  try simp only [Act.put, List.setIfInBounds_toArray, List.set_cons_zero, List.set_cons_succ]
  refine AnyJ.take (i := 7) (oi := { dst := some 58, op := Op.load 4 (Operand.tmp 57), type := 4, pos := "ref.go:112", after := #[{ on := 6, ground := .data }], guard := none }) (v := ?v7nrb16) ?a7nrb16 ?b7nrb16 ?c7nrb16 ?d7nrb16 ?e7nrb16 (fun _ _ _ h => h) (Or.inl ⟨?f7nrb16, ?y7nrb16⟩) (by assumption) ?r7nrb16
  case a7nrb16 => rfl
  case b7nrb16 => kernel_rfl
  case c7nrb16 => kernel_rfl
  case d7nrb16 => kernel_rfl
  case e7nrb16 => kernel_rfl
  case f7nrb16 => rfl
  case y7nrb16 => (intro w' hSw; (try dsimp only at hSw); obtain ⟨s0, s1, s2, s3, s4, s5, s6, s7, s8, s9⟩ := hSw; go_simp; try with_reducible rfl)
  try simp only [Act.put, List.setIfInBounds_toArray, List.set_cons_zero, List.set_cons_succ]
  clear hSS hS
  refine AnyJ.one (i := 4) (o := { dst := some 55, op := Op.call { callee := Callee.value (Operand.func 26), args := #[Operand.tmp 53, Operand.tmp 54], argTypes := #[58, 30] }, type := 3, pos := "ref.go:112", after := #[{ on := 2, ground := .data }, { on := 3, ground := .data }], guard := none }) ?prb17 ?qrb17 ?_
  case prb17 => kernel_rfl
  case qrb17 => rfl
  intro K' hK
  go_simp
  refine HC1.out.mono ?_
  rintro e w1 ⟨rfl, hG1⟩
  have HG1 := hideP hG1
  have HK1 := hideP (HKK1.out w1 hG1)
  refine hK.out _ _ (.inr HK1.out.1) ?_; clear hK K' hG1
  try simp only [Act.put, List.setIfInBounds_toArray, List.set_cons_zero, List.set_cons_succ]
  refine AnyJ.one (i := 5) (o := { dst := some 56, op := Op.buildSlice 22 1 #[(0, Operand.tmp 55)], type := 22, pos := "ref.go:112", after := #[{ on := 4, ground := .data }], guard := none }) ?prb18 ?qrb18 ?_
  case prb18 => kernel_rfl
  case qrb18 => rfl
  intro K' hK
  go_simp
  refine hK.out _ _ (.inr HK1.out.2) ?_; clear hK K'
  try simp only [Act.put, List.setIfInBounds_toArray, List.set_cons_zero, List.set_cons_succ]
  have hS2 : (fun (w' : World) => w'.cell? ⟨xb5, 0, none⟩ = some (c0) ∧ w'.cell? ⟨xb5, 1, none⟩ = some (c1) ∧ w'.cell? ⟨xb5, 2, none⟩ = some (c2) ∧ w'.cell? ⟨xb5, 3, none⟩ = some (c3) ∧ w'.cell? ⟨xb5, 4, none⟩ = some (c4) ∧ w'.cell? ⟨xb5, 5, none⟩ = some (c5) ∧ w'.cell? ⟨xb5, 6, none⟩ = some (c6) ∧ w'.cell? ⟨xb5, 7, none⟩ = some (c7) ∧ w'.cell? ⟨xb5, 8, none⟩ = some (c8) ∧ w'.cell? ⟨xb3, 0 + 6, none⟩ = some (.bool lz)) (w1.alloc (.cells #[.int .i64 (a : Int)] 3)) := HK1.out.2
  refine AnyJ.take (i := 8) (oi := { dst := some 59, op := Op.build 77 #[(0, Operand.const (Value.int IntKind.i64 102)), (4, Operand.tmp 56), (5, Operand.tmp 58)], type := 77, pos := "ref.go:112", after := #[{ on := 5, ground := .data }, { on := 7, ground := .data }], guard := none }) (v := ?v8nrb19) ?a8nrb19 ?b8nrb19 ?c8nrb19 ?d8nrb19 ?e8nrb19 (fun _ _ _ h => h) (Or.inl ⟨?f8nrb19, ?y8nrb19⟩) (by assumption) ?r8nrb19
  case a8nrb19 => rfl
  case b8nrb19 => kernel_rfl
  case c8nrb19 => kernel_rfl
  case d8nrb19 => kernel_rfl
  case e8nrb19 => kernel_rfl
  case f8nrb19 => rfl
  case y8nrb19 => (intro w' hSw; (try dsimp only at hSw); obtain ⟨s0, s1, s2, s3, s4, s5, s6, s7, s8, s9⟩ := hSw; go_simp; try with_reducible rfl)
  try simp only [Act.put, List.setIfInBounds_toArray, List.set_cons_zero, List.set_cons_succ]
  clear hS2
  refine AnyJ.one (i := 9) (o := { dst := some 60, op := Op.call { callee := Callee.value (Operand.func 36), args := #[Operand.tmp 52, Operand.tmp 59], argTypes := #[58, 77] }, type := 3, pos := "ref.go:112", after := #[{ on := 1, ground := .data }, { on := 8, ground := .data }, { on := 4, ground := .chain }], guard := none }) ?prb20 ?qrb20 ?_
  case prb20 => kernel_rfl
  case qrb20 => rfl
  intro K' hK
  go_simp
  refine (HC2.out w1 HG1.out).mono ?_
  rintro e w3 ⟨rfl, hG2⟩
  have HG2 := hideP hG2
  have HK3 := hideP (HKK2.out w1 w3 HG1.out hG2)
  refine hK.out _ _ (.inr HK3.out) ?_; clear hK K' hG2
  try simp only [Act.put, List.setIfInBounds_toArray, List.set_cons_zero, List.set_cons_succ]
  refine AnyJ.one (i := 10) (o := { dst := some 61, op := Op.buildSlice 22 1 #[(0, Operand.tmp 60)], type := 22, pos := "ref.go:112", after := #[{ on := 9, ground := .data }], guard := none }) ?prb21 ?qrb21 ?_
  case prb21 => kernel_rfl
  case qrb21 => rfl
  intro K' hK
  go_simp
  have HA3 := (Upd.refl Nob w3).alloc (.cells #[.int .i64 (n2 : Int)] 3)
  refine hK.out _ _ (.inr (HKK3.out w1 w3 _ HG1.out HG2.out (HA3.mono (fun _ _ h => absurd h not_nob)))) ?_; clear hK K'
  try simp only [Act.put, List.setIfInBounds_toArray, List.set_cons_zero, List.set_cons_succ]
  refine AnyJ.one (i := 11) (o := { dst := some 62, op := Op.call { callee := Callee.builtin Builtin.append, args := #[Operand.tmp 51, Operand.tmp 61], argTypes := #[22, 22] }, type := 22, pos := "ref.go:112", after := #[{ on := 0, ground := .data }, { on := 10, ground := .data }, { on := 9, ground := .chain }], guard := none }) ?prb22 ?qrb22 ?_
  case prb22 => kernel_rfl
  case qrb22 => rfl
  intro K' hK
  obtain ⟨hO3, hb3⟩ := HOO.out w1 w3 HG1.out HG2.out
  have P9 := own_upd hO3 HA3 (fun _ _ => not_nob)
  refine step_append_lies _ rfl (.tmp 51) (.tmp 61) 22 rfl base 3 i0 _ 1 8 Try.underlying22 hi0 hz0 hz1 hz2 rfl (by decide) (.slice LA m lc) m vs (by rfl) P9 ⟨w3.heap.size, 0, none⟩ 1 1 [.int .i64 (n2 : Int)] (by rfl) (by rfl) (World.news_of_block (cs := #[.int .i64 (n2 : Int)]) (t := 3) (fr := (0, 0)) (heap_alloc_new w3 _)) (by intro u hu; simp at hu; subst hu; rfl) (by decide) (by unfold maxLen; omega) (by omega) (by simp; omega) (w3.heap.size + 1) (by simp) ?_
  intro gN cN w4 oN gr hat hltN
  have UB := (HA3.mono (fun _ _ h => absurd h not_nob)).grown (F := fun b => (Value.slice LA m lc).ownBlock = some b) gr (fun b hb _ => hb)
  refine hK.out _ _ (.inr (HKK3.out w1 w3 w4 HG1.out HG2.out UB)) ?_; clear hK K'
  try simp only [Act.put, List.setIfInBounds_toArray, List.set_cons_zero, List.set_cons_succ]
  refine AnyJ.one (i := 12) (o := { dst := some 6, op := Op.assign (Operand.tmp 62), type := 22, pos := "ref.go:112", after := #[{ on := 11, ground := .data }, { on := 11, ground := .chain }, { on := 0, ground := .phase }, { on := 1, ground := .phase }, { on := 2, ground := .phase }, { on := 3, ground := .phase }, { on := 4, ground := .phase }, { on := 5, ground := .phase }, { on := 6, ground := .phase }, { on := 7, ground := .phase }, { on := 8, ground := .phase }, { on := 9, ground := .phase }, { on := 10, ground := .phase }, { on := 11, ground := .phase }], guard := none }) ?prb23 ?qrb23 ?_
  case prb23 => kernel_rfl
  case qrb23 => rfl
  intro K' hK
  go_simp
  refine hK.out _ _ (.inl rfl) ?_; clear hK K'
  refine AnyJ.done ?_ ?_ _
  · kernel_rfl
  exact HY.out _ _ _ _ _ _ _ _ _ _ _ _ w1 w3 w4 gN cN HG1.out HG2.out UB hat hltN oN
set_option maxRecDepth 100000 in
set_option maxHeartbeats 4000000 in
theorem unf_reg7 (Q : Exit → Act → World → Prop) (wr : World) (tb xb3 yb a m lc n sc g o base : Nat) (ad : Addr) (LA : Option Addr) (vs : List Value) (c0 c1 c2 c3 c4 c5 c6 c7 c8 : Value) (G1 : World → Prop) (x1 x2 x4 x7 x8 x9 x10 x11 x12 x13 x14 x15 x16 x17 x18 x19 x20 x21 x22 x23 x24 x25 x26 x27 x28 x29 x30 x31 x32 x33 x34 x35 x36 x37 x38 x39 x40 x41 x42 x43 : Value)
    (hS : (fun (w' : World) => w'.cell? ⟨yb, 0 + 4, none⟩ = some (.slice LA m lc) ∧ w'.cell? ⟨xb3, 0 + 3, none⟩ = some (.slice (some ad) n sc) ∧ w'.cell? ⟨g, o, none⟩ = some (c0) ∧ w'.cell? ⟨g, o + 1, none⟩ = some (c1) ∧ w'.cell? ⟨g, o + 2, none⟩ = some (c2) ∧ w'.cell? ⟨g, o + 3, none⟩ = some (c3) ∧ w'.cell? ⟨g, o + 4, none⟩ = some (c4) ∧ w'.cell? ⟨g, o + 5, none⟩ = some (c5) ∧ w'.cell? ⟨g, o + 6, none⟩ = some (c6) ∧ w'.cell? ⟨g, o + 7, none⟩ = some (c7) ∧ w'.cell? ⟨g, o + 8, none⟩ = some (c8)) wr) (hm : m ≤ 100000) (hmn : (m : Int) < (n : Int)) (hadd : ad.add (m * 9) = ⟨g, o, none⟩)
    (hC1 : Calls Try.prog 26 #[.pointer (some ⟨tb, 0, none⟩), .agg #[c0, c1, c2, c3, c4, c5, c6, c7, c8]] wr.drew (fun (e : Ending) (w1 : World) => e = .returned (.int .i64 (a : Int)) ∧ G1 w1)) (hk1 : ∀ (w1 : World), G1 w1 → (fun (w' : World) => w'.cell? ⟨yb, 0 + 4, none⟩ = some (.slice LA m lc) ∧ w'.cell? ⟨xb3, 0 + 3, none⟩ = some (.slice (some ad) n sc) ∧ w'.cell? ⟨g, o, none⟩ = some (c0) ∧ w'.cell? ⟨g, o + 1, none⟩ = some (c1) ∧ w'.cell? ⟨g, o + 2, none⟩ = some (c2) ∧ w'.cell? ⟨g, o + 3, none⟩ = some (c3) ∧ w'.cell? ⟨g, o + 4, none⟩ = some (c4) ∧ w'.cell? ⟨g, o + 5, none⟩ = some (c5) ∧ w'.cell? ⟨g, o + 6, none⟩ = some (c6) ∧ w'.cell? ⟨g, o + 7, none⟩ = some (c7) ∧ w'.cell? ⟨g, o + 8, none⟩ = some (c8)) w1 ∧ (fun (w' : World) => w'.cell? ⟨yb, 0 + 4, none⟩ = some (.slice LA m lc) ∧ w'.cell? ⟨xb3, 0 + 3, none⟩ = some (.slice (some ad) n sc) ∧ w'.cell? ⟨g, o, none⟩ = some (c0) ∧ w'.cell? ⟨g, o + 1, none⟩ = some (c1) ∧ w'.cell? ⟨g, o + 2, none⟩ = some (c2) ∧ w'.cell? ⟨g, o + 3, none⟩ = some (c3) ∧ w'.cell? ⟨g, o + 4, none⟩ = some (c4) ∧ w'.cell? ⟨g, o + 5, none⟩ = some (c5) ∧ w'.cell? ⟨g, o + 6, none⟩ = some (c6) ∧ w'.cell? ⟨g, o + 7, none⟩ = some (c7) ∧ w'.cell? ⟨g, o + 8, none⟩ = some (c8)) (w1.alloc (.cells #[.int .i64 (a : Int)] 3)))
    (hO : ∀ (w1 : World), G1 w1 → w1.ownsRow base 3 1 (.slice LA m lc) m vs ∧ base ≤ w1.heap.size ∧ w1.frozen? ⟨yb, 0 + 4, none⟩ = false) (hk3 : ∀ (w1 w4 : World), G1 w1 → Upd (fun (b : Nat) => (Value.slice LA m lc).ownBlock = some b) w1 w4 → (fun (w' : World) => w'.cell? ⟨yb, 0 + 4, none⟩ = some (.slice LA m lc) ∧ w'.cell? ⟨xb3, 0 + 3, none⟩ = some (.slice (some ad) n sc) ∧ w'.cell? ⟨g, o, none⟩ = some (c0) ∧ w'.cell? ⟨g, o + 1, none⟩ = some (c1) ∧ w'.cell? ⟨g, o + 2, none⟩ = some (c2) ∧ w'.cell? ⟨g, o + 3, none⟩ = some (c3) ∧ w'.cell? ⟨g, o + 4, none⟩ = some (c4) ∧ w'.cell? ⟨g, o + 5, none⟩ = some (c5) ∧ w'.cell? ⟨g, o + 6, none⟩ = some (c6) ∧ w'.cell? ⟨g, o + 7, none⟩ = some (c7) ∧ w'.cell? ⟨g, o + 8, none⟩ = some (c8)) w4 ∧ w4.frozen? ⟨yb, 0 + 4, none⟩ = false)
    (hnext : ∀ (v29 v30 v31 v32 v33 v34 v35 v36 v37 v38 v39 v40 : Value) (w1 w4 : World) (gN cN : Nat), G1 w1 → Upd (fun (b : Nat) => (Value.slice LA m lc).ownBlock = some b) w1 w4 → ((Value.slice LA m lc).ownBlock = some gN ∨ gN = w1.heap.size + 1) → gN < w4.heap.size → w4.ownsRow base 3 1 (.slice (some ⟨gN, 0, none⟩) (m + 1) cN) (m + 1) (vs ++ [.int .i64 (a : Int)]) → Q .normal ⟨#[.pointer (some ⟨tb, 0, none⟩), x1, x2, .pointer (some ⟨xb3, 0, none⟩), x4, .pointer (some ⟨yb, 0, none⟩), .int .i64 (m : Int), x7, x8, x9, x10, x11, x12, x13, x14, x15, x16, x17, x18, x19, x20, x21, x22, x23, x24, x25, x26, x27, x28, v29, v30, v31, v32, v33, v34, v35, v36, v37, v38, v39, v40, x41, x42, x43], []⟩ (w4.setCell ⟨yb, 0 + 4, none⟩ (.slice (some ⟨gN, 0, none⟩) (m + 1) cN))) :
    (Code.region 7 #[{ dst := some 29, op := Op.fieldAddr 77 (Operand.tmp 5) 4, type := 0, pos := "ref.go:126", after := #[], guard := none }, { dst := some 30, op := Op.load 22 (Operand.tmp 29), type := 22, pos := "ref.go:126", after := #[{ on := 0, ground := .data }], guard := none }, { dst := some 31, op := Op.move (Operand.tmp 0), type := 58, pos := "ref.go:126", after := #[], guard := none }, { dst := some 32, op := Op.fieldAddr 30 (Operand.tmp 3) 3, type := 0, pos := "ref.go:126", after := #[], guard := none }, { dst := some 33, op := Op.load 28 (Operand.tmp 32), type := 28, pos := "ref.go:126", after := #[{ on := 3, ground := .data }], guard := none }, { dst := some 34, op := Op.move (Operand.tmp 6), type := 3, pos := "ref.go:126", after := #[], guard := none }, { dst := some 35, op := Op.indexAddr 28 (Operand.tmp 33) (Operand.tmp 34), type := 0, pos := "ref.go:126", after := #[{ on := 4, ground := .data }, { on := 5, ground := .data }], guard := none }, { dst := some 36, op := Op.load 30 (Operand.tmp 35), type := 30, pos := "ref.go:126", after := #[{ on := 6, ground := .data }], guard := none }, { dst := some 37, op := Op.call { callee := Callee.value (Operand.func 26), args := #[Operand.tmp 31, Operand.tmp 36], argTypes := #[58, 30] }, type := 3, pos := "ref.go:126", after := #[{ on := 2, ground := .data }, { on := 7, ground := .data }], guard := none }, { dst := some 38, op := Op.buildSlice 22 1 #[(0, Operand.tmp 37)], type := 22, pos := "ref.go:126", after := #[{ on := 8, ground := .data }], guard := none }, { dst := some 39, op := Op.call { callee := Callee.builtin Builtin.append, args := #[Operand.tmp 30, Operand.tmp 38], argTypes := #[22, 22] }, type := 22, pos := "ref.go:126", after := #[{ on := 1, ground := .data }, { on := 9, ground := .data }, { on := 8, ground := .chain }], guard := none }, { dst := some 40, op := Op.fieldAddr 77 (Operand.tmp 5) 4, type := 0, pos := "ref.go:126", after := #[{ on := 0, ground := .phase }, { on := 1, ground := .phase }, { on := 2, ground := .phase }, { on := 3, ground := .phase }, { on := 4, ground := .phase }, { on := 5, ground := .phase }, { on := 6, ground := .phase }, { on := 7, ground := .phase }, { on := 8, ground := .phase }, { on := 9, ground := .phase }, { on := 10, ground := .phase }], guard := none }, { dst := none, op := Op.store 22 (Operand.tmp 40) (Operand.tmp 39), type := 0, pos := "ref.go:126", after := #[{ on := 11, ground := .data }, { on := 10, ground := .data }, { on := 10, ground := .chain }, { on := 0, ground := .phase }, { on := 1, ground := .phase }, { on := 2, ground := .phase }, { on := 3, ground := .phase }, { on := 4, ground := .phase }, { on := 5, ground := .phase }, { on := 6, ground := .phase }, { on := 7, ground := .phase }, { on := 8, ground := .phase }, { on := 9, ground := .phase }, { on := 10, ground := .phase }], guard := none }] true).wp Try.prog Q ⟨#[.pointer (some ⟨tb, 0, none⟩), x1, x2, .pointer (some ⟨xb3, 0, none⟩), x4, .pointer (some ⟨yb, 0, none⟩), .int .i64 (m : Int), x7, x8, x9, x10, x11, x12, x13, x14, x15, x16, x17, x18, x19, x20, x21, x22, x23, x24, x25, x26, x27, x28, x29, x30, x31, x32, x33, x34, x35, x36, x37, x38, x39, x40, x41, x42, x43], []⟩ wr := by
  obtain ⟨i0, hi0, hz0, hz1, hz2⟩ := info_parts oinfo_int
  have HC1 := hideP hC1
  have HKK1 := hideP hk1
  have HKK3 := hideP hk3
  have HOO := hideP hO
  have HY := hideP hnext
  clear hC1 hk1 hk3 hO hnext
  refine Code.wp_mono (QuietQ.imp (G := fun _ _ _ => False) (fun _ _ _ h => h.elim)) ?_
  refine AnyJ.begin 12 (fun (w' : World) => w'.cell? ⟨yb, 0 + 4, none⟩ = some (.slice LA m lc) ∧ w'.cell? ⟨xb3, 0 + 3, none⟩ = some (.slice (some ad) n sc) ∧ w'.cell? ⟨g, o, none⟩ = some (c0) ∧ w'.cell? ⟨g, o + 1, none⟩ = some (c1) ∧ w'.cell? ⟨g, o + 2, none⟩ = some (c2) ∧ w'.cell? ⟨g, o + 3, none⟩ = some (c3) ∧ w'.cell? ⟨g, o + 4, none⟩ = some (c4) ∧ w'.cell? ⟨g, o + 5, none⟩ = some (c5) ∧ w'.cell? ⟨g, o + 6, none⟩ = some (c6) ∧ w'.cell? ⟨g, o + 7, none⟩ = some (c7) ∧ w'.cell? ⟨g, o + 8, none⟩ = some (c8)) (by kernel_rfl) hS (fun hSS => ?_)
  refine AnyJ.take (i := 0) (oi := { dst := some 29, op := Op.fieldAddr 77 (Operand.tmp 5) 4, type := 0, pos := "ref.go:126", after := #[], guard := none }) (v := ?v0nrc24) ?a0nrc24 ?b0nrc24 ?c0nrc24 ?d0nrc24 ?e0nrc24 (fun _ _ _ h => h) (Or.inl ⟨?f0nrc24, ?y0nrc24⟩) (by assumption) ?r0nrc24
  case a0nrc24 => rfl
  case b0nrc24 => kernel_rfl
  case c0nrc24 => kernel_rfl
  case d0nrc24 => kernel_rfl
  case e0nrc24 => kernel_rfl
  case f0nrc24 => rfl
  case y0nrc24 => (intro w' hSw; (try dsimp only at hSw); obtain ⟨s0, s1, s2, s3, s4, s5, s6, s7, s8, s9, s10⟩ := hSw; go_simp; try with_reducible rfl)
  try simp only [Act.put, List.setIfInBounds_toArray, List.set_cons_zero, List.set_cons_succ]
  refine AnyJ.take (i := 1) (oi := { dst := some 30, op := Op.load 22 (Operand.tmp 29), type := 22, pos := "ref.go:126", after := #[{ on := 0, ground := .data }], guard := none }) (v := ?v1nrc25) ?a1nrc25 ?b1nrc25 ?c1nrc25 ?d1nrc25 ?e1nrc25 (fun _ _ _ h => h) (Or.inl ⟨?f1nrc25, ?y1nrc25⟩) (by assumption) ?r1nrc25
  case a1nrc25 => rfl
  case b1nrc25 => kernel_rfl
  case c1nrc25 => kernel_rfl
  case d1nrc25 => kernel_rfl
  case e1nrc25 => kernel_rfl
  case f1nrc25 => rfl
  case y1nrc25 => (intro w' hSw; (try dsimp only at hSw); obtain ⟨s0, s1, s2, s3, s4, s5, s6, s7, s8, s9, s10⟩ := hSw; go_simp; try with_reducible rfl)
  try simp only [Act.put, List.setIfInBounds_toArray, List.set_cons_zero, List.set_cons_succ]
  refine AnyJ.take (i := 2) (oi := { dst := some 31, op := Op.move (Operand.tmp 0), type := 58, pos := "ref.go:126", after := #[], guard := none }) (v := ?v2nrc26) ?a2nrc26 ?b2nrc26 ?c2nrc26 ?d2nrc26 ?e2nrc26 (fun _ _ _ h => h) (Or.inl ⟨?f2nrc26, ?y2nrc26⟩) (by assumption) ?r2nrc26
  case a2nrc26 => rfl
  case b2nrc26 => kernel_rfl
  case c2nrc26 => kernel_rfl
  case d2nrc26 => kernel_rfl
  case e2nrc26 => kernel_rfl
  case f2nrc26 => rfl
  case y2nrc26 => (intro w' hSw; (try dsimp only at hSw); obtain ⟨s0, s1, s2, s3, s4, s5, s6, s7, s8, s9, s10⟩ := hSw; go_simp; try with_reducible rfl)
  try simp only [Act.put, List.setIfInBounds_toArray, List.set_cons_zero, List.set_cons_succ]
  refine AnyJ.take (i := 3) (oi := { dst := some 32, op := Op.fieldAddr 30 (Operand.tmp 3) 3, type := 0, pos := "ref.go:126", after := #[], guard := none }) (v := ?v3nrc27) ?a3nrc27 ?b3nrc27 ?c3nrc27 ?d3nrc27 ?e3nrc27 (fun _ _ _ h => h) (Or.inl ⟨?f3nrc27, ?y3nrc27⟩) (by assumption) ?r3nrc27
  case a3nrc27 => rfl
  case b3nrc27 => kernel_rfl
  case c3nrc27 => kernel_rfl
  case d3nrc27 => kernel_rfl
  case e3nrc27 => kernel_rfl
  case f3nrc27 => rfl
  case y3nrc27 => (intro w' hSw; (try dsimp only at hSw); obtain ⟨s0, s1, s2, s3, s4, s5, s6, s7, s8, s9, s10⟩ := hSw; go_simp; try with_reducible rfl)
  try simp only [Act.put, List.setIfInBounds_toArray, List.set_cons_zero, List.set_cons_succ]
  refine AnyJ.take (i := 4) (oi := { dst := some 33, op := Op.load 28 (Operand.tmp 32), type := 28, pos := "ref.go:126", after := #[{ on := 3, ground := .data }], guard := none }) (v := ?v4nrc28) ?a4nrc28 ?b4nrc28 ?c4nrc28 ?d4nrc28 ?e4nrc28 (fun _ _ _ h => h) (Or.inl ⟨?f4nrc28, ?y4nrc28⟩) (by assumption) ?r4nrc28
  case a4nrc28 => rfl
  case b4nrc28 => kernel_rfl
  case c4nrc28 => kernel_rfl
  case d4nrc28 => kernel_rfl
  case e4nrc28 => kernel_rfl
  case f4nrc28 => rfl
  case y4nrc28 => (intro w' hSw; (try dsimp only at hSw); obtain ⟨s0, s1, s2, s3, s4, s5, s6, s7, s8, s9, s10⟩ := hSw; go_simp; try with_reducible rfl)
  try simp only [Act.put, List.setIfInBounds_toArray, List.set_cons_zero, List.set_cons_succ]
  refine AnyJ.take (i := 5) (oi := { dst := some 34, op := Op.move (Operand.tmp 6), type := 3, pos := "ref.go:126", after := #[], guard := none }) (v := ?v5nrc29) ?a5nrc29 ?b5nrc29 ?c5nrc29 ?d5nrc29 ?e5nrc29 (fun _ _ _ h => h) (Or.inl ⟨?f5nrc29, ?y5nrc29⟩) (by assumption) ?r5nrc29
  case a5nrc29 => rfl
  case b5nrc29 => kernel_rfl
  case c5nrc29 => kernel_rfl
  case d5nrc29 => kernel_rfl
  case e5nrc29 => kernel_rfl
  case f5nrc29 => rfl
  case y5nrc29 => (intro w' hSw; (try dsimp only at hSw); obtain ⟨s0, s1, s2, s3, s4, s5, s6, s7, s8, s9, s10⟩ := hSw; go_simp; try with_reducible rfl)
  try simp only [Act.put, List.setIfInBounds_toArray, List.set_cons_zero, List.set_cons_succ]
  refine AnyJ.take (i := 6) (oi := { dst := some 35, op := Op.indexAddr 28 (Operand.tmp 33) (Operand.tmp 34), type := 0, pos := "ref.go:126", after := #[{ on := 4, ground := .data }, { on := 5, ground := .data }], guard := none }) (v := ?v6nrc30) ?a6nrc30 ?b6nrc30 ?c6nrc30 ?d6nrc30 ?e6nrc30 (fun _ _ _ h => h) (Or.inl ⟨?f6nrc30, ?y6nrc30⟩) (by assumption) ?r6nrc30
  case a6nrc30 => rfl
  case b6nrc30 => kernel_rfl
  case c6nrc30 => kernel_rfl
  case d6nrc30 => kernel_rfl
  case e6nrc30 => kernel_rfl
  case f6nrc30 => rfl
  case y6nrc30 => (intro w' hSw; (try dsimp only at hSw); obtain ⟨s0, s1, s2, s3, s4, s5, s6, s7, s8, s9, s10⟩ := hSw; go_simp; try with_reducible rfl)
  try simp only [Act.put, List.setIfInBounds_toArray, List.set_cons_zero, List.set_cons_succ]
  refine AnyJ.take (i := 7) (oi := { dst := some 36, op := Op.load 30 (Operand.tmp 35), type := 30, pos := "ref.go:126", after := #[{ on := 6, ground := .data }], guard := none }) (v := ?v7nrc31) ?a7nrc31 ?b7nrc31 ?c7nrc31 ?d7nrc31 ?e7nrc31 (fun _ _ _ h => h) (Or.inl ⟨?f7nrc31, ?y7nrc31⟩) (by assumption) ?r7nrc31
  case a7nrc31 => rfl
  case b7nrc31 => kernel_rfl
  case c7nrc31 => kernel_rfl
  case d7nrc31 => kernel_rfl
  case e7nrc31 => kernel_rfl
  case f7nrc31 => rfl
  case y7nrc31 => (intro w' hSw; (try dsimp only at hSw); obtain ⟨s0, s1, s2, s3, s4, s5, s6, s7, s8, s9, s10⟩ := hSw; go_simp; try with_reducible rfl)
  try simp only [Act.put, List.setIfInBounds_toArray, List.set_cons_zero, List.set_cons_succ]
  clear hSS hS
  refine AnyJ.one (i := 8) (o := { dst := some 37, op := Op.call { callee := Callee.value (Operand.func 26), args := #[Operand.tmp 31, Operand.tmp 36], argTypes := #[58, 30] }, type := 3, pos := "ref.go:126", after := #[{ on := 2, ground := .data }, { on := 7, ground := .data }], guard := none }) ?prc32 ?qrc32 ?_
  case prc32 => kernel_rfl
  case qrc32 => rfl
  intro K' hK
  go_simp
  refine HC1.out.mono ?_
  rintro e w1 ⟨rfl, hG1⟩
  have HG1 := hideP hG1
  have HK1 := hideP (HKK1.out w1 hG1)
  refine hK.out _ _ (.inr HK1.out.1) ?_; clear hK K' hG1
  try simp only [Act.put, List.setIfInBounds_toArray, List.set_cons_zero, List.set_cons_succ]
  refine AnyJ.one (i := 9) (o := { dst := some 38, op := Op.buildSlice 22 1 #[(0, Operand.tmp 37)], type := 22, pos := "ref.go:126", after := #[{ on := 8, ground := .data }], guard := none }) ?prc33 ?qrc33 ?_
  case prc33 => kernel_rfl
  case qrc33 => rfl
  intro K' hK
  go_simp
  refine hK.out _ _ (.inr HK1.out.2) ?_; clear hK K'
  try simp only [Act.put, List.setIfInBounds_toArray, List.set_cons_zero, List.set_cons_succ]
  refine AnyJ.one (i := 10) (o := { dst := some 39, op := Op.call { callee := Callee.builtin Builtin.append, args := #[Operand.tmp 30, Operand.tmp 38], argTypes := #[22, 22] }, type := 22, pos := "ref.go:126", after := #[{ on := 1, ground := .data }, { on := 9, ground := .data }, { on := 8, ground := .chain }], guard := none }) ?prc34 ?qrc34 ?_
  case prc34 => kernel_rfl
  case qrc34 => rfl
  intro K' hK
  obtain ⟨hO3, hb3, -⟩ := HOO.out w1 HG1.out
  have HA3 := (Upd.refl Nob w1).alloc (.cells #[.int .i64 (a : Int)] 3)
  have P9 := own_upd hO3 HA3 (fun _ _ => not_nob)
  refine step_append_lies _ rfl (.tmp 30) (.tmp 38) 22 rfl base 3 i0 _ 1 8 Try.underlying22 hi0 hz0 hz1 hz2 rfl (by decide) (.slice LA m lc) m vs (by rfl) P9 ⟨w1.heap.size, 0, none⟩ 1 1 [.int .i64 (a : Int)] (by rfl) (by rfl) (World.news_of_block (cs := #[.int .i64 (a : Int)]) (t := 3) (fr := (0, 0)) (heap_alloc_new w1 _)) (by intro u hu; simp at hu; subst hu; rfl) (by decide) (by unfold maxLen; omega) (by omega) (by simp; omega) (w1.heap.size + 1) (by simp) ?_
  intro gN cN w4 oN gr hat hltN
  have UB := (HA3.mono (fun _ _ h => absurd h not_nob)).grown (F := fun b => (Value.slice LA m lc).ownBlock = some b) gr (fun b hb _ => hb)
  have HK4 := HKK3.out w1 w4 HG1.out UB
  refine hK.out _ _ (.inr HK4.1) ?_; clear hK K'
  try simp only [Act.put, List.setIfInBounds_toArray, List.set_cons_zero, List.set_cons_succ]
  have hS2 : (fun (w' : World) => w'.cell? ⟨yb, 0 + 4, none⟩ = some (.slice LA m lc) ∧ w'.cell? ⟨xb3, 0 + 3, none⟩ = some (.slice (some ad) n sc) ∧ w'.cell? ⟨g, o, none⟩ = some (c0) ∧ w'.cell? ⟨g, o + 1, none⟩ = some (c1) ∧ w'.cell? ⟨g, o + 2, none⟩ = some (c2) ∧ w'.cell? ⟨g, o + 3, none⟩ = some (c3) ∧ w'.cell? ⟨g, o + 4, none⟩ = some (c4) ∧ w'.cell? ⟨g, o + 5, none⟩ = some (c5) ∧ w'.cell? ⟨g, o + 6, none⟩ = some (c6) ∧ w'.cell? ⟨g, o + 7, none⟩ = some (c7) ∧ w'.cell? ⟨g, o + 8, none⟩ = some (c8)) w4 := HK4.1
  refine AnyJ.take (i := 11) (oi := { dst := some 40, op := Op.fieldAddr 77 (Operand.tmp 5) 4, type := 0, pos := "ref.go:126", after := #[{ on := 0, ground := .phase }, { on := 1, ground := .phase }, { on := 2, ground := .phase }, { on := 3, ground := .phase }, { on := 4, ground := .phase }, { on := 5, ground := .phase }, { on := 6, ground := .phase }, { on := 7, ground := .phase }, { on := 8, ground := .phase }, { on := 9, ground := .phase }, { on := 10, ground := .phase }], guard := none }) (v := ?v11nrc35) ?a11nrc35 ?b11nrc35 ?c11nrc35 ?d11nrc35 ?e11nrc35 (fun _ _ _ h => h) (Or.inl ⟨?f11nrc35, ?y11nrc35⟩) (by assumption) ?r11nrc35
  case a11nrc35 => rfl
  case b11nrc35 => kernel_rfl
  case c11nrc35 => kernel_rfl
  case d11nrc35 => kernel_rfl
  case e11nrc35 => kernel_rfl
  case f11nrc35 => rfl
  case y11nrc35 => (intro w' hSw; (try dsimp only at hSw); obtain ⟨s0, s1, s2, s3, s4, s5, s6, s7, s8, s9, s10⟩ := hSw; go_simp; try with_reducible rfl)
  try simp only [Act.put, List.setIfInBounds_toArray, List.set_cons_zero, List.set_cons_succ]
  obtain ⟨s0, s1, s2, s3, s4, s5, s6, s7, s8, s9, s10⟩ := hS2
  have z4 := HK4.2
  refine AnyJ.one (i := 12) (o := { dst := none, op := Op.store 22 (Operand.tmp 40) (Operand.tmp 39), type := 0, pos := "ref.go:126", after := #[{ on := 11, ground := .data }, { on := 10, ground := .data }, { on := 10, ground := .chain }, { on := 0, ground := .phase }, { on := 1, ground := .phase }, { on := 2, ground := .phase }, { on := 3, ground := .phase }, { on := 4, ground := .phase }, { on := 5, ground := .phase }, { on := 6, ground := .phase }, { on := 7, ground := .phase }, { on := 8, ground := .phase }, { on := 9, ground := .phase }, { on := 10, ground := .phase }], guard := none }) ?prc36 ?qrc36 ?_
  case prc36 => kernel_rfl
  case qrc36 => rfl
  intro K' hK
  go_simp
  refine hK.out _ _ (.inl rfl) ?_; clear hK K'
  refine AnyJ.done ?_ ?_ _
  · kernel_rfl
  exact HY.out _ _ _ _ _ _ _ _ _ _ _ _ w1 w4 gN cN HG1.out UB hat hltN oN
end Go.Proofs.Ytlaofcgllchedaa
