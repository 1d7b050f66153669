/-
  The walk of heronlaw08.MirrorTwice.
-/
import Derived.Test.YtlaofcgllchedaaNamesR
import Derived.Test.YtlaofcgllchedaaAwake
namespace Go.Proofs.Ytlaofcgllchedaa
open Go.RowKit
set_option linter.unusedVariables false

theorem grp_none : ∀ (n : Nat) (t : Tree), SizeOf.sizeOf t ≤ n → NoG t → grpT t = 0
  | 0, t, h, _ => absurd h (size_pos t)
  | n + 1, t, hn, hg => by
    obtain ⟨h7, hs⟩ := hg.top
    have hl : ∀ l : List Tree, (∀ x ∈ l, grpT x = 0) → grpL l = 0 := fun l => by
      induction l with
      | nil => intro _; rfl
      | cons y l ih =>
        intro h
        simp only [grpL]
        have h1 := h y List.mem_cons_self
        have h2 := ih (fun x hx => h x (List.mem_cons_of_mem _ hx))
        omega
    rw [grpT_eq, if_neg h7, hl t.subs (fun x hx => by
      obtain ⟨i, hi⟩ := List.mem_iff_getElem?.1 hx
      exact grp_none n x (by have := Tree.sub_lt hx; omega) (hs i x hi))]
theorem none_grp : ∀ (n : Nat) (t : Tree), SizeOf.sizeOf t ≤ n → grpT t = 0 → NoG t
  | 0, t, h, _ => absurd h (size_pos t)
  | n + 1, t, hn, hg => by
    rw [grpT_eq] at hg
    have h7 : t.kind ≠ 7 := fun h => by rw [if_pos h] at hg; omega
    rw [if_neg h7] at hg
    refine NoG.of h7 (fun i x hx => none_grp n x (by have := Tree.sub_lt (List.mem_of_getElem? hx); omega) ?_)
    have h1 := grpL_step hx
    have h2 := grpL_take t.subs (i + 1)
    omega

set_option maxRecDepth 100000 in
set_option maxHeartbeats 8000000 in
theorem mirrorTwice_any (w : World) (t : Tree) (cs : Array Value) (h1 : NodeR w (fun k => k < w.heap.size) cs t) :
    Calls Try.prog 4 #[.agg cs] w fun e w' => e = .returned (.bool true) ∧ Upd Nob w w' := by
  obtain ⟨RA, rc, SA, sc, rfl, -⟩ := h1.top
  have C0 := Cells.new w 30 (nodeCells t RA rc SA sc)
  have hU := (Upd.refl Nob w).alloc (.cells (nodeCells t RA rc SA sc) 30)
  have HN := hideP (h1.upd_ hU (fun _ _ => not_nob))
  clear h1
  unfold nodeCells at C0 hU HN
  unfold nodeCells
  go_enter Try.func4, Try.ntmps4
  go_upto_region 1 with fail
  generalize w.alloc (.cells #[.int .i64 t.kind, .slice RA t.rs.length rc, .int .i64 t.am, .slice SA t.subs.length sc, .int .i64 t.mn, .int .i64 t.mx, .bool t.lz, .int .i64 t.ix, .string t.nm] 30) = w2 at *
  have HC := hideP C0
  have HU := hideP hU
  have hlow := C0.lt
  obtain ⟨e0, e1, e2, e3, e4, e5, e6, e7, e8⟩ := nine C0
  clear C0 hU
  go_wp2_with fail
  refine (deep_any t w2 _ _ HN.out).mono ?_
  rintro e w3 ⟨b, rfl, hU3⟩
  have HC := hideP (HC.out.upd hU3 not_nob)
  have HN := hideP (HN.out.upd_ hU3 (fun _ _ => not_nob))
  have HU := hideP (HU.out.trans hU3 (fun _ _ h => h))
  clear e0 e1 e2 e3 e4 e5 e6 e7 e8
  have hs3 := hU3.size
  clear hU3
  rcases b with _ | _
  rotate_left
  · go_wp2_with fail
    try go_ret
    exact ⟨rfl, HU.out⟩
  go_wp2_with fail
  refine (awake_any w3).mono ?_
  rintro e w4 ⟨rfl, hU4⟩
  have HC := hideP (HC.out.upd hU4 not_nob)
  have HN := hideP (HN.out.upd_ hU4 (fun _ _ => not_nob))
  have HU := hideP (HU.out.trans hU4 (fun _ _ h => h))
  obtain ⟨e0, e1, e2, e3, e4, e5, e6, e7, e8⟩ := nine HC.out
  have hs4 := hU4.size
  clear hU4
  go_wp2_with fail
  refine (mirror_any t w4 _ _ HN.out).mono ?_
  rintro e w5 (⟨cs', rfl, hNa, hso, hU5⟩ | ⟨rfl, -, hU5⟩)
  rotate_left
  · have HU := hideP (HU.out.trans hU5 (fun _ _ h => h))
    have hA := (Upd.refl Nob w5).alloc (.cells #[.int .i64 0, .slice none 0 0, .int .i64 0, .slice none 0 0, .int .i64 0, .int .i64 0, .bool false, .int .i64 0, .string ⟨#[]⟩] 30)
    have HU := hideP (HU.out.trans hA (fun _ _ h => h))
    clear hU5 hA e0 e1 e2 e3 e4 e5 e6 e7 e8
    simp only
    go_wp2_with fail
    try go_ret
    exact ⟨rfl, HU.out⟩
  obtain ⟨hsa, hga⟩ := mir_sound hso
  obtain ⟨hsb, hgb⟩ := mir_sound hsa
  have hbb := mir_twice _ (mirT t) 1 (Nat.le_refl _) hsa.1 hga
  have HBT := hideP (show NoG t → mirT (mirT t) = t from fun hg => mir_twice _ t 1 (Nat.le_refl _) hso.1 hg)
  have HSO := hideP hso
  generalize mirT t = a at *
  have HSA := hideP (And.intro hsa hga)
  have HBB := hideP hbb
  have hga0 := grp_none _ a (Nat.le_refl _) hga
  have HGA := hideP hga0
  clear hga0 hbb hso hsa hga
  obtain ⟨A1, c1, A2, c2, rfl, -⟩ := hNa.top
  unfold nodeCells at hNa ⊢
  have CA := Cells.new w5 30 #[.int .i64 a.kind, .slice A1 a.rs.length c1, .int .i64 a.am, .slice A2 a.subs.length c2, .int .i64 a.mn, .int .i64 a.mx, .bool a.lz, .int .i64 a.ix, .string a.nm]
  have hA := (Upd.refl Nob w5).alloc (.cells #[.int .i64 a.kind, .slice A1 a.rs.length c1, .int .i64 a.am, .slice A2 a.subs.length c2, .int .i64 a.mn, .int .i64 a.mx, .bool a.lz, .int .i64 a.ix, .string a.nm] 30)
  have hU6 := hU5.trans hA (fun _ _ h => h)
  have HC := hideP (HC.out.upd hU6 not_nob)
  have HN := hideP (HN.out.upd_ hU6 (fun _ _ => not_nob))
  have HU := hideP (HU.out.trans hU6 (fun _ _ h => h))
  have HNa := hideP (hNa.upd_ hA (fun _ _ => not_nob))
  clear hU5 hA hU6 hNa e0 e1 e2 e3 e4 e5 e6 e7 e8
  simp only
  go_upto_region 6 with fail
  generalize w5.alloc (.cells #[.int .i64 a.kind, .slice A1 a.rs.length c1, .int .i64 a.am, .slice A2 a.subs.length c2, .int .i64 a.mn, .int .i64 a.mx, .bool a.lz, .int .i64 a.ix, .string a.nm] 30) = w6 at *
  generalize w5.heap.size = ab at *
  have HCA := hideP CA
  clear CA
  go_upto_region 8 with fail
  obtain ⟨a0, a1, a2, a3, a4, a5, a6, a7, a8⟩ := nine HCA.out
  go_wp2_with fail
  refine (mirror_any a w6 _ _ HNa.out).mono ?_
  rintro e w7 (⟨cs', rfl, hNb, -, hU7⟩ | ⟨-, hno, -⟩)
  rotate_left
  · exact (hno HSA.out.2 HSA.out.1).elim
  generalize mirT a = b at *
  have HSB := hideP (And.intro hsb hgb)
  clear hsb hgb
  obtain ⟨B1, d1, B2, d2, rfl, -⟩ := hNb.top
  unfold nodeCells at hNb ⊢
  have CB := Cells.new w7 30 #[.int .i64 b.kind, .slice B1 b.rs.length d1, .int .i64 b.am, .slice B2 b.subs.length d2, .int .i64 b.mn, .int .i64 b.mx, .bool b.lz, .int .i64 b.ix, .string b.nm]
  have hA := (Upd.refl Nob w7).alloc (.cells #[.int .i64 b.kind, .slice B1 b.rs.length d1, .int .i64 b.am, .slice B2 b.subs.length d2, .int .i64 b.mn, .int .i64 b.mx, .bool b.lz, .int .i64 b.ix, .string b.nm] 30)
  have hU8 := hU7.trans hA (fun _ _ h => h)
  have HC := hideP (HC.out.upd hU8 not_nob)
  have HCA := hideP (HCA.out.upd hU8 not_nob)
  have HN := hideP (HN.out.upd_ hU8 (fun _ _ => not_nob))
  have HNa := hideP (HNa.out.upd_ hU8 (fun _ _ => not_nob))
  have HU := hideP (HU.out.trans hU8 (fun _ _ h => h))
  have HNb := hideP (hNb.upd_ hA (fun _ _ => not_nob))
  clear hU7 hA hU8 hNb a0 a1 a2 a3 a4 a5 a6 a7 a8
  simp only
  go_upto_region 9 with fail
  generalize w7.alloc (.cells #[.int .i64 b.kind, .slice B1 b.rs.length d1, .int .i64 b.am, .slice B2 b.subs.length d2, .int .i64 b.mn, .int .i64 b.mx, .bool b.lz, .int .i64 b.ix, .string b.nm] 30) = w8 at *
  generalize w7.heap.size = bb at *
  have HCB := hideP CB
  clear CB
  obtain ⟨b0, b1, b2, b3, b4, b5, b6, b7, b8⟩ := nine HCB.out
  go_wp2_with fail
  refine (mirror_any b w8 _ _ HNb.out).mono ?_
  rintro e w9 (⟨cs', rfl, hNc, -, hU9⟩ | ⟨-, hno, -⟩)
  rotate_left
  · exact (hno HSB.out.2 HSB.out.1).elim
  rw [HBB.out] at hNc
  obtain ⟨D1, f1, D2, f2, rfl, -⟩ := hNc.top
  unfold nodeCells at hNc ⊢
  have CD := Cells.new w9 30 #[.int .i64 a.kind, .slice D1 a.rs.length f1, .int .i64 a.am, .slice D2 a.subs.length f2, .int .i64 a.mn, .int .i64 a.mx, .bool a.lz, .int .i64 a.ix, .string a.nm]
  have hA := (Upd.refl Nob w9).alloc (.cells #[.int .i64 a.kind, .slice D1 a.rs.length f1, .int .i64 a.am, .slice D2 a.subs.length f2, .int .i64 a.mn, .int .i64 a.mx, .bool a.lz, .int .i64 a.ix, .string a.nm] 30)
  have hU10 := hU9.trans hA (fun _ _ h => h)
  have HC := hideP (HC.out.upd hU10 not_nob)
  have HCA := hideP (HCA.out.upd hU10 not_nob)
  have HCB := hideP (HCB.out.upd hU10 not_nob)
  have HN := hideP (HN.out.upd_ hU10 (fun _ _ => not_nob))
  have HNa := hideP (HNa.out.upd_ hU10 (fun _ _ => not_nob))
  have HNb := hideP (HNb.out.upd_ hU10 (fun _ _ => not_nob))
  have HU := hideP (HU.out.trans hU10 (fun _ _ h => h))
  have HNc := hideP (hNc.upd_ hA (fun _ _ => not_nob))
  clear hU9 hA hU10 hNc b0 b1 b2 b3 b4 b5 b6 b7 b8
  simp only
  go_upto_region 10 with fail
  generalize w9.alloc (.cells #[.int .i64 a.kind, .slice D1 a.rs.length f1, .int .i64 a.am, .slice D2 a.subs.length f2, .int .i64 a.mn, .int .i64 a.mx, .bool a.lz, .int .i64 a.ix, .string a.nm] 30) = w10 at *
  generalize w9.heap.size = cb at *
  have HCD := hideP CD
  clear CD
  obtain ⟨a0, a1, a2, a3, a4, a5, a6, a7, a8⟩ := nine HCA.out
  go_wp2_with fail
  refine (refSound_yes a w10 _ _ HNa.out HSA.out.2 HSA.out.1).mono ?_
  rintro e w11 ⟨rfl, hU11⟩
  have HC := hideP (HC.out.upd hU11 not_nob)
  have HCA := hideP (HCA.out.upd hU11 not_nob)
  have HCB := hideP (HCB.out.upd hU11 not_nob)
  have HCD := hideP (HCD.out.upd hU11 not_nob)
  have HN := hideP (HN.out.upd_ hU11 (fun _ _ => not_nob))
  have HNa := hideP (HNa.out.upd_ hU11 (fun _ _ => not_nob))
  have HNb := hideP (HNb.out.upd_ hU11 (fun _ _ => not_nob))
  have HNc := hideP (HNc.out.upd_ hU11 (fun _ _ => not_nob))
  have HU := hideP (HU.out.trans hU11 (fun _ _ h => h))
  clear hU11 a0 a1 a2 a3 a4 a5 a6 a7 a8
  obtain ⟨a0, a1, a2, a3, a4, a5, a6, a7, a8⟩ := nine HCA.out
  go_wp2_with fail
  refine (names_any a w11 _ _ HNa.out HSA.out.1.2).mono ?_
  rintro e w12 ⟨G1, g1, G2, g2, rfl, -, -, hU12⟩
  rw [HGA.out]
  have HC := hideP (HC.out.upd hU12 not_nob)
  have HCA := hideP (HCA.out.upd hU12 not_nob)
  have HCB := hideP (HCB.out.upd hU12 not_nob)
  have HCD := hideP (HCD.out.upd hU12 not_nob)
  have HN := hideP (HN.out.upd_ hU12 (fun _ _ => not_nob))
  have HNa := hideP (HNa.out.upd_ hU12 (fun _ _ => not_nob))
  have HNb := hideP (HNb.out.upd_ hU12 (fun _ _ => not_nob))
  have HNc := hideP (HNc.out.upd_ hU12 (fun _ _ => not_nob))
  have HU := hideP (HU.out.trans hU12 (fun _ _ h => h))
  clear hU12 a0 a1 a2 a3 a4 a5 a6 a7 a8
  simp only
  obtain ⟨a0, a1, a2, a3, a4, a5, a6, a7, a8⟩ := nine HCA.out
  obtain ⟨d0, d1, d2, d3, d4, d5, d6, d7, d8⟩ := nine HCD.out
  go_wp2_with fail
  refine (sameTree_any a w12 _ _ _ _ HNc.out HNa.out).mono ?_
  rintro e w13 ⟨rfl, hU13⟩
  have HC := hideP (HC.out.upd hU13 not_nob)
  have HCA := hideP (HCA.out.upd hU13 not_nob)
  have HCB := hideP (HCB.out.upd hU13 not_nob)
  have HCD := hideP (HCD.out.upd hU13 not_nob)
  have HN := hideP (HN.out.upd_ hU13 (fun _ _ => not_nob))
  have HNa := hideP (HNa.out.upd_ hU13 (fun _ _ => not_nob))
  have HNb := hideP (HNb.out.upd_ hU13 (fun _ _ => not_nob))
  have HNc := hideP (HNc.out.upd_ hU13 (fun _ _ => not_nob))
  have HU := hideP (HU.out.trans hU13 (fun _ _ h => h))
  clear hU13 a0 a1 a2 a3 a4 a5 a6 a7 a8 d0 d1 d2 d3 d4 d5 d6 d7 d8
  obtain ⟨e0, e1, e2, e3, e4, e5, e6, e7, e8⟩ := nine HC.out
  go_wp2_with fail
  refine (names_any t w13 _ _ HN.out HSO.out.2).mono ?_
  rintro e w14 ⟨G3, g3, G4, g4, rfl, -, -, hU14⟩
  have HC := hideP (HC.out.upd hU14 not_nob)
  have HCA := hideP (HCA.out.upd hU14 not_nob)
  have HCB := hideP (HCB.out.upd hU14 not_nob)
  have HCD := hideP (HCD.out.upd hU14 not_nob)
  have HN := hideP (HN.out.upd_ hU14 (fun _ _ => not_nob))
  have HNa := hideP (HNa.out.upd_ hU14 (fun _ _ => not_nob))
  have HNb := hideP (HNb.out.upd_ hU14 (fun _ _ => not_nob))
  have HNc := hideP (HNc.out.upd_ hU14 (fun _ _ => not_nob))
  have HU := hideP (HU.out.trans hU14 (fun _ _ h => h))
  clear hU14 e0 e1 e2 e3 e4 e5 e6 e7 e8
  simp only
  by_cases hg : grpT t = 0
  · have hng := none_grp _ t (Nat.le_refl _) hg
    have hbt := HBT.out hng
    obtain rfl : t = b := hbt.symm
    have hk : ((grpT t : Int) == 0) = true := by simp [hg]
    obtain ⟨b0, b1, b2, b3, b4, b5, b6, b7, b8⟩ := nine HCB.out
    obtain ⟨e0, e1, e2, e3, e4, e5, e6, e7, e8⟩ := nine HC.out
    have HG := hideP hg
    clear hg hng
    go_wp2_with fail
    refine (sameTree_any _ w14 _ _ _ _ HNb.out HN.out).mono ?_
    rintro e w15 ⟨rfl, hU15⟩
    have HU := hideP (HU.out.trans hU15 (fun _ _ h => h))
    clear hU15 b0 b1 b2 b3 b4 b5 b6 b7 b8 e0 e1 e2 e3 e4 e5 e6 e7 e8
    go_wp2_with fail
    try go_ret
    exact ⟨rfl, HU.out⟩
  · have hk : ((grpT t : Int) == 0) = false := by
      have : ¬ (grpT t : Int) = 0 := by omega
      simpa using this
    clear hg
    go_wp2_with fail
    try go_ret
    exact ⟨rfl, HU.out⟩
end Go.Proofs.Ytlaofcgllchedaa
