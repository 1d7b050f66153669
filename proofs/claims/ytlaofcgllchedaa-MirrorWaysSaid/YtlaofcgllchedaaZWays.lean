/-
  Ways, put together.
-/
import Derived.Test.YtlaofcgllchedaaZ33WaysR
import Derived.Test.YtlaofcgllchedaaZ34Back
import Derived.Test.YtlaofcgllchedaaZAwake
import Derived.StillTailTactics

/-
  The walk of heronlaw08.MirrorWays.
-/
namespace Go.Proofs.Ytlaofcgllchedaa
open Go.RowKit
set_option linter.unusedVariables false

theorem ways_law {t : Tree} {xs : List Int} (hs : SoundF t) {f f2 : Nat → Nat → Bool} (hf : ∀ a p, a ≤ xs.length → p ≤ xs.length → (f a p = true ↔ fitU (envX xs) (unfU t) a p))
    (hf2 : ∀ a p, a ≤ xs.length → p ≤ xs.length → (f2 a p = true ↔ fitU (envX xs.reverse) (unfU (mirT t)) a p)) {i j : Nat} (hi : i ≤ xs.length) (hj : j ≤ xs.length) : f2 (xs.length - j) (xs.length - i) = f i j := by
  have h1 := hf i j hi hj
  have h2 := hf2 (xs.length - j) (xs.length - i) (by omega) (by omega)
  have h3 := mir_fits xs t hs.ok.1 i j hi hj
  have h4 : f2 (xs.length - j) (xs.length - i) = true ↔ f i j = true := by rw [h1, h2, h3]
  cases ha : f i j <;> cases hb : f2 (xs.length - j) (xs.length - i) <;> simp_all
set_option maxRecDepth 100000 in
set_option maxHeartbeats 8000000 in
theorem mirrorWays_any (w : World) (t : Tree) (cs : Array Value) (S S2 : Nat → Prop) (h1 : NodeR w S cs t) (TA : Option Addr) (n tc : Nat) (xs : List Int) (hx : Reads w S2 1 TA n (intv xs)) (hi : ∀ x ∈ xs, In64 x) (hn : n * 8 ≤ 140737488351232) :
    Calls Try.prog 5 #[.agg cs, .slice TA n tc] w fun e w' => e = .returned (.bool true) ∧ Upd Nob w w' := by
  obtain rfl : xs.length = n := by have := hx.1; simpa [intv] using this
  have hX : TextR w S2 TA xs.length xs := ⟨hx, hi, by omega⟩
  obtain ⟨RA, rc, SA, sc, rfl, -⟩ := h1.top
  have HN := hideP h1
  have HX := hideP hX
  clear h1 hx hi hX
  unfold nodeCells at HN ⊢
  have C0 := Cells.new w 30 #[.int .i64 t.kind, .slice RA t.rs.length rc, .int .i64 t.am, .slice SA t.subs.length sc, .int .i64 t.mn, .int .i64 t.mx, .bool t.lz, .int .i64 t.ix, .string t.nm]
  have hU := (Upd.refl Nob w).alloc (.cells #[.int .i64 t.kind, .slice RA t.rs.length rc, .int .i64 t.am, .slice SA t.subs.length sc, .int .i64 t.mn, .int .i64 t.mx, .bool t.lz, .int .i64 t.ix, .string t.nm] 30)
  go_enter Try.func5, Try.ntmps5
  go_upto_region 1 with fail
  generalize w.alloc (.cells #[.int .i64 t.kind, .slice RA t.rs.length rc, .int .i64 t.am, .slice SA t.subs.length sc, .int .i64 t.mn, .int .i64 t.mx, .bool t.lz, .int .i64 t.ix, .string t.nm] 30) = w2 at *
  have HU := hideP hU
  have HC := hideP C0
  clear C0 hU
  obtain ⟨e0, e1, e2, e3, e4, e5, e6, e7, e8⟩ := nineN HC.out
  go_upto_region 2 with (go_at_call 10; refine (deep_any t _ _ _ (HN.out.upd_ HU.out (fun _ _ => not_nob))).mono ?_; rintro e w3 ⟨b, rfl, hU3⟩; have HU3 := hideP (HU.out.trans hU3 (fun _ _ h => h)); have HC3 := hideP (HC.out.upd hU3 not_nob); clear hU3 e0 e1 e2 e3 e4 e5 e6 e7 e8)
  rcases b with _ | _
  case true =>
    go_wp2_with fail
    try go_ret
    exact ⟨rfl, HU3.out⟩
  go_upto_region 5 with (go_at_call 6; refine (awake_any _).mono ?_; rintro e w4 ⟨rfl, hU4⟩; have HU4 := hideP (HU3.out.trans hU4 (fun _ _ h => h)); have HC4 := hideP (HC3.out.upd hU4 not_nob); clear hU4)
  by_cases g12 : 12 < xs.length
  · have g12' : (12 : Int) < (xs.length : Int) := by omega
    clear g12
    go_wp2_with fail
    try go_ret
    exact ⟨rfl, HU4.out⟩
  have g12' : ¬ (12 : Int) < (xs.length : Int) := by omega
  obtain ⟨e0, e1, e2, e3, e4, e5, e6, e7, e8⟩ := nineN HC4.out
  go_upto_region 8 with (go_at_call 15; refine (big_any t _ _ _ (HN.out.upd_ HU4.out (fun _ _ => not_nob))).mono ?_; rintro e w5 ⟨b, rfl, hU5⟩; have HU5 := hideP (HU4.out.trans hU5 (fun _ _ h => h)); have HC5 := hideP (HC4.out.upd hU5 not_nob); clear hU5 e0 e1 e2 e3 e4 e5 e6 e7 e8)
  rcases b with _ | _
  case true =>
    go_wp2_with fail
    try go_ret
    exact ⟨rfl, HU5.out⟩
  obtain ⟨e0, e1, e2, e3, e4, e5, e6, e7, e8⟩ := nineN HC5.out
  obtain ⟨M, hM⟩ : ∃ M, (xs.length + 1) * (xs.length + 1) = M := ⟨_, rfl⟩
  have HM := hideP hM
  clear hM
  go_upto_region 11 with (go_at_call 16; refine (reaches_any t _ _ _ _ xs TA tc (HN.out.upd_ HU5.out (fun _ _ => not_nob)) (HX.out.upd HU5.out (fun _ _ => not_nob)) (by omega)).mono ?_; rintro e w6 ⟨g, ok, rfl, hU6, hok, -⟩; rw [HM.out]; have HU6 := hideP (HU5.out.trans hU6 (fun _ _ h => h)); have HC6 := hideP (HC5.out.upd hU6 not_nob); have HOK := hideP hok; clear hU6 hok e0 e1 e2 e3 e4 e5 e6 e7 e8)
  rcases ok with _ | _
  case false =>
    go_wp2_with fail
    try go_ret
    exact ⟨rfl, HU6.out⟩
  obtain ⟨f, hf⟩ := HOK.out rfl
  have hso := hf.2.2.1
  have hsz := hf.2.2.2.1
  have HF := hideP hf
  clear hf HOK
  obtain ⟨e0, e1, e2, e3, e4, e5, e6, e7, e8⟩ := nineN HC6.out
  have HSO := hideP hso
  obtain ⟨m, hm⟩ : ∃ m, mirT t = m := ⟨_, rfl⟩
  have HMT := hideP hm
  have HMS := hideP (show SoundOk m ∧ NoG m by rw [← hm]; exact mir_sound hso.ok)
  have HMZ := hideP (show szT m ≤ 2000 by rw [← hm]; have := (sz_mir _ t 1 (Nat.le_refl _) hso.ok.1).2; omega)
  clear hso hsz hm
  go_upto_region 14 with (go_at_call 11; refine (mirrorF_yes t _ _ _ HSO.out (HN.out.upd_ HU6.out (fun _ _ => not_nob))).mono ?_; rintro e w7 ⟨cs', rfl, hNm, hU7⟩; rw [HMT.out] at hNm; obtain ⟨PB, pd, QB, qd, rfl, -⟩ := hNm.top; unfold nodeCells at hNm ⊢; have HNm := hideP hNm.lower; have HU7 := hideP (HU6.out.trans hU7 (fun _ _ h => h)); have HC7 := hideP (HC6.out.upd hU7 not_nob); have HG7 := hideP (HF.out.1.upd hU7 not_nob); clear hNm hU7 e0 e1 e2 e3 e4 e5 e6 e7 e8)
  have CM := Cells.new w7 30 #[.int .i64 m.kind, .slice PB m.rs.length pd, .int .i64 m.am, .slice QB m.subs.length qd, .int .i64 m.mn, .int .i64 m.mx, .bool m.lz, .int .i64 m.ix, .string m.nm]
  have hU8 := (Upd.refl Nob w7).alloc (.cells #[.int .i64 m.kind, .slice PB m.rs.length pd, .int .i64 m.am, .slice QB m.subs.length qd, .int .i64 m.mn, .int .i64 m.mx, .bool m.lz, .int .i64 m.ix, .string m.nm] 30)
  generalize w7.alloc (.cells #[.int .i64 m.kind, .slice PB m.rs.length pd, .int .i64 m.am, .slice QB m.subs.length qd, .int .i64 m.mn, .int .i64 m.mx, .bool m.lz, .int .i64 m.ix, .string m.nm] 30) = w8 at *
  generalize w7.heap.size = mb at *
  have HU8 := hideP (HU7.out.trans hU8 (fun _ _ h => h))
  have HG8 := hideP (HG7.out.upd hU8 not_nob)
  have HM8 := hideP (HNm.out.upd_ hU8 (fun _ _ => not_nob))
  have HCM := hideP CM
  clear CM hU8 HG7 HNm HC7
  go_upto_region 15 with (go_at_call 8; refine (back_any _ _ TA xs.length tc xs ((HX.out.upd HU8.out (fun _ _ => not_nob)).r) (by omega)).mono ?_; rintro e w9 ⟨bg, rfl, hO9, hU9⟩; have HO9 := hideP hO9; have HU9 := hideP (HU8.out.trans hU9 (fun _ _ h => h)); have HG9 := hideP (HG8.out.upd hU9 not_nob); have HM9 := hideP (HM8.out.upd_ hU9 (fun _ _ => not_nob)); have HCM9 := hideP (HCM.out.upd hU9 not_nob); clear hO9 hU9)
  have HXB := hideP (show TextR w9 (fun k => (Value.slice (some ⟨bg, 0, none⟩) xs.length xs.length).ownBlock = some k) (some ⟨bg, 0, none⟩) xs.reverse.length xs.reverse by
    rw [List.length_reverse]
    exact ⟨Reads.of_own HO9.out, fun x hx => HX.out.i x (by simpa using hx), by omega⟩)
  have HRB := hideP (show ∀ S3 cs, NodeR w9 S3 cs m → Calls Try.prog 16 #[.agg cs, .slice (some ⟨bg, 0, none⟩) xs.length xs.length] w9 (RcAns m xs.reverse w9) by
    intro S3 cs h
    have := reaches_any m w9 S3 _ cs xs.reverse (some ⟨bg, 0, none⟩) xs.length h HXB.out (by rw [List.length_reverse]; omega)
    rwa [List.length_reverse] at this)
  obtain ⟨e0, e1, e2, e3, e4, e5, e6, e7, e8⟩ := nineN HCM9.out
  go_upto_region 18 with (go_at_call 16; refine (HRB.out _ _ HM9.out).mono ?_; rintro e w10 ⟨g2, ok, rfl, hU10, hok, hyes⟩; rw [List.length_reverse, HM.out]; have HU10 := hideP (HU9.out.trans hU10 (fun _ _ h => h)); have HG10 := hideP (HG9.out.upd hU10 not_nob); have HOK := hideP hok; have HYES := hideP (hyes ⟨HMS.out.2, HMS.out.1, HMZ.out⟩); clear hU10 hok hyes e0 e1 e2 e3 e4 e5 e6 e7 e8)
  have hok := HYES.out
  subst hok
  obtain ⟨f2, hf2⟩ := HOK.out rfl
  unfold RcOk at hf2
  rw [List.length_reverse, HM.out] at hf2
  have HF2 := hideP hf2.2.2.2.2
  have HG2 := hideP hf2.1
  have HLAW := hideP (fun (i j : Nat) (hi : i ≤ xs.length) (hj : j ≤ xs.length) => ways_law HSO.out (f := f) (f2 := f2) HF.out.2.2.2.2 (by rw [HMT.out]; exact HF2.out) hi hj)
  have HG1 := hideP (show Cells w10 g 4 (rowC (gridB f (xs.length + 1)) M) by have := HG10.out; rwa [HM.out] at this)
  clear hf2 HOK HYES HG10 HG9 HG8
  obtain ⟨n1, hn1⟩ : ∃ n1, xs.length + 1 = n1 := ⟨_, rfl⟩
  have HN1 := hideP hn1
  have hM16 : M ≤ 169 := by
    have h1 := HM.out
    have : (xs.length + 1) * (xs.length + 1) ≤ 13 * 13 := Nat.mul_le_mul (by omega) (by omega)
    omega
  have HCE := hideP (show ∀ wr, Upd Nob w10 wr → ∀ k j, k ≤ xs.length → j ≤ xs.length → wr.cell? ⟨g, k * n1 + j, none⟩ = some (.bool (f k j)) ∧ wr.cell? ⟨g2, (xs.length - j) * n1 + (xs.length - k), none⟩ = some (.bool (f k j)) ∧ k * n1 + j < M ∧ (xs.length - j) * n1 + (xs.length - k) < M by
    intro wr hU k j hk hj
    have hMM := HM.out
    rw [hn1] at hMM
    have l1 : k * n1 + j < M := by rw [← hMM]; exact grid_lt (by omega) (by omega)
    have l2 : (xs.length - j) * n1 + (xs.length - k) < M := by rw [← hMM]; exact grid_lt (by omega) (by omega)
    have c1 := (HG1.out.upd hU not_nob).cellv (rowC_at _ l1)
    have c2 := (HG2.out.upd hU not_nob).cellv (rowC_at _ l2)
    rw [hn1, grid_at f (by omega)] at c1
    rw [hn1, grid_at f2 (by omega), HLAW.out k j hk hj] at c2
    exact ⟨c1, c2, l1, l2⟩)
  have vw : IntKind.i64.wrap ((xs.length : Int) + 1) = (n1 : Int) := by rw [IntKind.wrap_i64]; omega
  have hn13 : n1 ≤ 13 := by omega
  clear hn1
  go_wp2_with fail
  go_loopg [16, 17] (xs.length + 1) (fun gk v16 v17 wr => ∃ k : Nat, k + gk = xs.length + 1 ∧ v16 = .int .i64 (k : Int) ∧ Upd Nob w10 wr)
  case atStart => exact ⟨0, by omega, rfl, Upd.refl _ _⟩
  case round =>
    obtain ⟨k, hk, rfl, hUr⟩ := hrel
    have HK := hideP hk
    have HUr := hideP hUr
    clear hk hUr
    by_cases hlt : ¬ k ≤ xs.length
    · have g1 : ¬ (k : Int) ≤ (xs.length : Int) := by omega
      clear hlt
      go_wp2_with fail
      try go_ret
      exact ⟨rfl, HU10.out.trans HUr.out (fun _ _ h => h)⟩
    have hkl : k ≤ xs.length := by omega
    have g1 : (k : Int) ≤ (xs.length : Int) := by omega
    clear hlt
    go_wp2_with fail
    go_loopg [17] (xs.length + 1) (fun gj v17 wr => ∃ j : Nat, j + gj = xs.length + 1 ∧ v17 = .int .i64 (j : Int) ∧ Upd Nob w10 wr)
    case atStart => exact ⟨0, by omega, rfl, HUr.out⟩
    case round =>
      obtain ⟨j, hj, rfl, hUj⟩ := hrel
      have HJ := hideP hj
      have HUj := hideP hUj
      clear hj hUj
      by_cases hlt : ¬ j ≤ xs.length
      · have g2 : ¬ (j : Int) ≤ (xs.length : Int) := by omega
        clear hlt
        go_wp2_with fail
        have hk := HK.out
        go_roundg (xs.length + 1 - (k + 1))
        case measure => omega
        case rel => exact ⟨k + 1, by omega, by go_num, HUj.out⟩
      have hjl : j ≤ xs.length := by omega
      have g2 : (j : Int) ≤ (xs.length : Int) := by omega
      clear hlt
      obtain ⟨c1, c2, l1, l2⟩ := HCE.out _ HUj.out k j hkl hjl
      obtain ⟨d, hd⟩ : ∃ d, xs.length - j = d := ⟨_, rfl⟩
      obtain ⟨kn, hkn⟩ : ∃ kn, k * n1 = kn := ⟨_, rfl⟩
      rw [hd] at c2 l2
      obtain ⟨dn, hdn⟩ : ∃ dn, d * n1 = dn := ⟨_, rfl⟩
      rw [hkn] at c1 l1
      rw [hdn] at c2 l2
      have hkI : (k : Int) * (n1 : Int) = (kn : Int) := by rw [← hkn]; simp
      have hdI : (d : Int) * (n1 : Int) = (dn : Int) := by rw [← hdn]; simp
      clear hkn hdn
      obtain ⟨q1, hq1⟩ : ∃ q1, kn + j = q1 := ⟨_, rfl⟩
      obtain ⟨q2, hq2⟩ : ∃ q2, dn + (xs.length - k) = q2 := ⟨_, rfl⟩
      obtain ⟨s2, hs2⟩ : ∃ s2, dn + xs.length = s2 := ⟨_, rfl⟩
      rw [hq1] at c1 l1
      rw [hq2] at c2 l2
      have vk : IntKind.i64.wrap ((k : Int) * (n1 : Int)) = (kn : Int) := by rw [hkI, IntKind.wrap_i64]; omega
      have vq1 : IntKind.i64.wrap ((kn : Int) + (j : Int)) = (q1 : Int) := by rw [IntKind.wrap_i64]; omega
      have hq1I : (kn : Int) + (j : Int) = (q1 : Int) := by omega
      have vd : IntKind.i64.wrap ((xs.length : Int) - (j : Int)) = (d : Int) := by rw [IntKind.wrap_i64]; omega
      have hdJ : (xs.length : Int) - (j : Int) = (d : Int) := by omega
      have vdn : IntKind.i64.wrap ((d : Int) * (n1 : Int)) = (dn : Int) := by rw [hdI, IntKind.wrap_i64]; omega
      have vs : IntKind.i64.wrap ((dn : Int) + (xs.length : Int)) = (s2 : Int) := by rw [IntKind.wrap_i64]; omega
      have hsI : (dn : Int) + (xs.length : Int) = (s2 : Int) := by omega
      have vq2 : IntKind.i64.wrap ((s2 : Int) - (k : Int)) = (q2 : Int) := by rw [IntKind.wrap_i64]; omega
      have hq2I : (s2 : Int) - (k : Int) = (q2 : Int) := by omega
      have m1 : (q1 : Int) < (M : Int) := by omega
      have m2 : (q2 : Int) < (M : Int) := by omega
      have w1 : IntKind.i64.wrap (q1 : Int) = (q1 : Int) := by rw [IntKind.wrap_i64]; omega
      have w2 : IntKind.i64.wrap (q2 : Int) = (q2 : Int) := by rw [IntKind.wrap_i64]; omega
      have wd : IntKind.i64.wrap (d : Int) = (d : Int) := by rw [IntKind.wrap_i64]; omega
      have wkn : IntKind.i64.wrap (kn : Int) = (kn : Int) := by rw [IntKind.wrap_i64]; omega
      have wdn : IntKind.i64.wrap (dn : Int) = (dn : Int) := by rw [IntKind.wrap_i64]; omega
      have ws2 : IntKind.i64.wrap (s2 : Int) = (s2 : Int) := by rw [IntKind.wrap_i64]; omega
      have p1 : (0 : Int) ≤ (q1 : Int) := by omega
      have p2 : (0 : Int) ≤ (q2 : Int) := by omega
      have t1 : (q1 : Int).toNat = q1 := by omega
      have t2 : (q2 : Int).toNat = q2 := by omega
      clear hkI hdI hq1 hq2 hs2 hd l1 l2
      rcases hb : f k j with _ | _
      all_goals
        rw [hb] at c1 c2
        clear hb
        go_wp2_with fail
        go_still_tail 22, (by kernel_rfl)
        change wpList _ _ _ _ _ wr.drew
        have HUd := hideP HUj.out.drew
        generalize wr.drew = wd at *
        clear c1 c2 HUj
        go_wp2_with fail
        have hj := HJ.out
        go_roundg (xs.length + 1 - (j + 1))
        case measure => omega
        case rel => exact ⟨j + 1, by omega, by go_num, HUd.out⟩
end Go.Proofs.Ytlaofcgllchedaa
