/-
  The walks of heronref05.bare and node where they say yes. Printed by gen_refnode.py.
-/
import Derived.Test.YtlaofcgllchedaaMirLaw
import Derived.Test.YtlaofcgllchedaaRfRight
namespace Go.Proofs.Ytlaofcgllchedaa
open Go.RowKit
set_option linter.unusedVariables false

theorem plain_parts {t : Tree} (h : plainB t = true) : t.rs.length = 0 ∧ t.am = 0 := by
  unfold plainB at h
  simp only [Bool.and_eq_true, decide_eq_true_eq] at h
  exact h
theorem count_parts {t : Tree} (h : countB t = true) : t.mn = 0 ∧ t.mx = 0 ∧ t.lz = false := by
  unfold countB at h
  simp only [Bool.and_eq_true, decide_eq_true_eq] at h
  exact ⟨h.1, h.2.1, by simpa using h.2.2⟩
theorem group_parts {t : Tree} (h : groupB t = true) : t.ix = 0 ∧ t.nm.toList.isEmpty = true := by
  unfold groupB at h
  simp only [Bool.and_eq_true, decide_eq_true_eq] at h
  exact h
set_option maxRecDepth 100000 in
set_option maxHeartbeats 4000000 in
theorem bare_1 (t : Tree) (w : World) (RA : Option Addr) (rc : Nat) (SA : Option Addr) (sc : Nat) (h_r : t.rs.length = 0) (h_a : t.am = 0) (h_s : t.subs.length = 0) (h_c : countB t = true) (h_g : groupB t = true) (hrn : t.rs.length ≤ 140737488355328) (hnl : t.subs.length ≤ 140737488355328) :
    Calls Try.prog 31 #[.agg #[.int .i64 t.kind, .slice RA t.rs.length rc, .int .i64 t.am, .slice SA t.subs.length sc, .int .i64 t.mn, .int .i64 t.mx, .bool t.lz, .int .i64 t.ix, .string t.nm], .bool false, .bool false, .bool false, .bool false, .bool false] w fun e w' => e = .returned (.bool true) ∧ Upd Nob w w' := by
  have Y_r := hideP h_r
  clear h_r
  have Y_a := hideP h_a
  clear h_a
  have Y_s := hideP h_s
  clear h_s
  have Y_c := hideP h_c
  clear h_c
  have Y_g := hideP h_g
  clear h_g
  have C0 := Cells.new w 30 #[.int .i64 t.kind, .slice RA t.rs.length rc, .int .i64 t.am, .slice SA t.subs.length sc, .int .i64 t.mn, .int .i64 t.mx, .bool t.lz, .int .i64 t.ix, .string t.nm]
  have hU := (Upd.refl Nob w).alloc (.cells #[.int .i64 t.kind, .slice RA t.rs.length rc, .int .i64 t.am, .slice SA t.subs.length sc, .int .i64 t.mn, .int .i64 t.mx, .bool t.lz, .int .i64 t.ix, .string t.nm] 30)
  go_enter Try.func31, Try.ntmps31
  go_upto_region 1 with fail
  generalize w.alloc (.cells #[.int .i64 t.kind, .slice RA t.rs.length rc, .int .i64 t.am, .slice SA t.subs.length sc, .int .i64 t.mn, .int .i64 t.mx, .bool t.lz, .int .i64 t.ix, .string t.nm] 30) = w2 at *
  have HU := hideP hU
  obtain ⟨e0, e1, e2, e3, e4, e5, e6, e7, e8⟩ := nine C0
  clear C0 hU
  have h_r := Y_r.out
  have f_r : ((t.rs.length : Int) == 0) = true := by simp [h_r]
  clear h_r
  have h_a := Y_a.out
  have f_a : (t.am == 0) = true := by simp [h_a]
  clear h_a
  have h_s := Y_s.out
  have f_s : ((t.subs.length : Int) == 0) = true := by simp [h_s]
  clear h_s
  have h_c := Y_c.out
  obtain ⟨m1, m2, f_z⟩ := count_parts h_c
  have f_m : (t.mn == 0) = true := by simp [m1]
  have f_x : (t.mx == 0) = true := by simp [m2]
  clear m1 m2 h_c
  have h_g := Y_g.out
  obtain ⟨m3, f_n⟩ := group_parts h_g
  have f_i : (t.ix == 0) = true := by simp [m3]
  clear m3 h_g
  go_wp2_with fail
  go_ret
  exact ⟨rfl, HU.out⟩
set_option maxRecDepth 100000 in
set_option maxHeartbeats 4000000 in
theorem bare_2 (t : Tree) (w : World) (RA : Option Addr) (rc : Nat) (SA : Option Addr) (sc : Nat) (h_a : t.am = 0) (h_s : t.subs.length = 0) (h_c : countB t = true) (h_g : groupB t = true) (hrn : t.rs.length ≤ 140737488355328) (hnl : t.subs.length ≤ 140737488355328) :
    Calls Try.prog 31 #[.agg #[.int .i64 t.kind, .slice RA t.rs.length rc, .int .i64 t.am, .slice SA t.subs.length sc, .int .i64 t.mn, .int .i64 t.mx, .bool t.lz, .int .i64 t.ix, .string t.nm], .bool true, .bool false, .bool false, .bool false, .bool false] w fun e w' => e = .returned (.bool true) ∧ Upd Nob w w' := by
  have Y_a := hideP h_a
  clear h_a
  have Y_s := hideP h_s
  clear h_s
  have Y_c := hideP h_c
  clear h_c
  have Y_g := hideP h_g
  clear h_g
  have C0 := Cells.new w 30 #[.int .i64 t.kind, .slice RA t.rs.length rc, .int .i64 t.am, .slice SA t.subs.length sc, .int .i64 t.mn, .int .i64 t.mx, .bool t.lz, .int .i64 t.ix, .string t.nm]
  have hU := (Upd.refl Nob w).alloc (.cells #[.int .i64 t.kind, .slice RA t.rs.length rc, .int .i64 t.am, .slice SA t.subs.length sc, .int .i64 t.mn, .int .i64 t.mx, .bool t.lz, .int .i64 t.ix, .string t.nm] 30)
  go_enter Try.func31, Try.ntmps31
  go_upto_region 1 with fail
  generalize w.alloc (.cells #[.int .i64 t.kind, .slice RA t.rs.length rc, .int .i64 t.am, .slice SA t.subs.length sc, .int .i64 t.mn, .int .i64 t.mx, .bool t.lz, .int .i64 t.ix, .string t.nm] 30) = w2 at *
  have HU := hideP hU
  obtain ⟨e0, e1, e2, e3, e4, e5, e6, e7, e8⟩ := nine C0
  clear C0 hU
  have h_a := Y_a.out
  have f_a : (t.am == 0) = true := by simp [h_a]
  clear h_a
  have h_s := Y_s.out
  have f_s : ((t.subs.length : Int) == 0) = true := by simp [h_s]
  clear h_s
  have h_c := Y_c.out
  obtain ⟨m1, m2, f_z⟩ := count_parts h_c
  have f_m : (t.mn == 0) = true := by simp [m1]
  have f_x : (t.mx == 0) = true := by simp [m2]
  clear m1 m2 h_c
  have h_g := Y_g.out
  obtain ⟨m3, f_n⟩ := group_parts h_g
  have f_i : (t.ix == 0) = true := by simp [m3]
  clear m3 h_g
  go_wp2_with fail
  go_ret
  exact ⟨rfl, HU.out⟩
set_option maxRecDepth 100000 in
set_option maxHeartbeats 4000000 in
theorem bare_3 (t : Tree) (w : World) (RA : Option Addr) (rc : Nat) (SA : Option Addr) (sc : Nat) (h_r : t.rs.length = 0) (h_s : t.subs.length = 0) (h_c : countB t = true) (h_g : groupB t = true) (hrn : t.rs.length ≤ 140737488355328) (hnl : t.subs.length ≤ 140737488355328) :
    Calls Try.prog 31 #[.agg #[.int .i64 t.kind, .slice RA t.rs.length rc, .int .i64 t.am, .slice SA t.subs.length sc, .int .i64 t.mn, .int .i64 t.mx, .bool t.lz, .int .i64 t.ix, .string t.nm], .bool false, .bool true, .bool false, .bool false, .bool false] w fun e w' => e = .returned (.bool true) ∧ Upd Nob w w' := by
  have Y_r := hideP h_r
  clear h_r
  have Y_s := hideP h_s
  clear h_s
  have Y_c := hideP h_c
  clear h_c
  have Y_g := hideP h_g
  clear h_g
  have C0 := Cells.new w 30 #[.int .i64 t.kind, .slice RA t.rs.length rc, .int .i64 t.am, .slice SA t.subs.length sc, .int .i64 t.mn, .int .i64 t.mx, .bool t.lz, .int .i64 t.ix, .string t.nm]
  have hU := (Upd.refl Nob w).alloc (.cells #[.int .i64 t.kind, .slice RA t.rs.length rc, .int .i64 t.am, .slice SA t.subs.length sc, .int .i64 t.mn, .int .i64 t.mx, .bool t.lz, .int .i64 t.ix, .string t.nm] 30)
  go_enter Try.func31, Try.ntmps31
  go_upto_region 1 with fail
  generalize w.alloc (.cells #[.int .i64 t.kind, .slice RA t.rs.length rc, .int .i64 t.am, .slice SA t.subs.length sc, .int .i64 t.mn, .int .i64 t.mx, .bool t.lz, .int .i64 t.ix, .string t.nm] 30) = w2 at *
  have HU := hideP hU
  obtain ⟨e0, e1, e2, e3, e4, e5, e6, e7, e8⟩ := nine C0
  clear C0 hU
  have h_r := Y_r.out
  have f_r : ((t.rs.length : Int) == 0) = true := by simp [h_r]
  clear h_r
  have h_s := Y_s.out
  have f_s : ((t.subs.length : Int) == 0) = true := by simp [h_s]
  clear h_s
  have h_c := Y_c.out
  obtain ⟨m1, m2, f_z⟩ := count_parts h_c
  have f_m : (t.mn == 0) = true := by simp [m1]
  have f_x : (t.mx == 0) = true := by simp [m2]
  clear m1 m2 h_c
  have h_g := Y_g.out
  obtain ⟨m3, f_n⟩ := group_parts h_g
  have f_i : (t.ix == 0) = true := by simp [m3]
  clear m3 h_g
  go_wp2_with fail
  go_ret
  exact ⟨rfl, HU.out⟩
set_option maxRecDepth 100000 in
set_option maxHeartbeats 4000000 in
theorem bare_4 (t : Tree) (w : World) (RA : Option Addr) (rc : Nat) (SA : Option Addr) (sc : Nat) (h_r : t.rs.length = 0) (h_a : t.am = 0) (h_c : countB t = true) (h_g : groupB t = true) (hrn : t.rs.length ≤ 140737488355328) (hnl : t.subs.length ≤ 140737488355328) :
    Calls Try.prog 31 #[.agg #[.int .i64 t.kind, .slice RA t.rs.length rc, .int .i64 t.am, .slice SA t.subs.length sc, .int .i64 t.mn, .int .i64 t.mx, .bool t.lz, .int .i64 t.ix, .string t.nm], .bool false, .bool false, .bool true, .bool false, .bool false] w fun e w' => e = .returned (.bool true) ∧ Upd Nob w w' := by
  have Y_r := hideP h_r
  clear h_r
  have Y_a := hideP h_a
  clear h_a
  have Y_c := hideP h_c
  clear h_c
  have Y_g := hideP h_g
  clear h_g
  have C0 := Cells.new w 30 #[.int .i64 t.kind, .slice RA t.rs.length rc, .int .i64 t.am, .slice SA t.subs.length sc, .int .i64 t.mn, .int .i64 t.mx, .bool t.lz, .int .i64 t.ix, .string t.nm]
  have hU := (Upd.refl Nob w).alloc (.cells #[.int .i64 t.kind, .slice RA t.rs.length rc, .int .i64 t.am, .slice SA t.subs.length sc, .int .i64 t.mn, .int .i64 t.mx, .bool t.lz, .int .i64 t.ix, .string t.nm] 30)
  go_enter Try.func31, Try.ntmps31
  go_upto_region 1 with fail
  generalize w.alloc (.cells #[.int .i64 t.kind, .slice RA t.rs.length rc, .int .i64 t.am, .slice SA t.subs.length sc, .int .i64 t.mn, .int .i64 t.mx, .bool t.lz, .int .i64 t.ix, .string t.nm] 30) = w2 at *
  have HU := hideP hU
  obtain ⟨e0, e1, e2, e3, e4, e5, e6, e7, e8⟩ := nine C0
  clear C0 hU
  have h_r := Y_r.out
  have f_r : ((t.rs.length : Int) == 0) = true := by simp [h_r]
  clear h_r
  have h_a := Y_a.out
  have f_a : (t.am == 0) = true := by simp [h_a]
  clear h_a
  have h_c := Y_c.out
  obtain ⟨m1, m2, f_z⟩ := count_parts h_c
  have f_m : (t.mn == 0) = true := by simp [m1]
  have f_x : (t.mx == 0) = true := by simp [m2]
  clear m1 m2 h_c
  have h_g := Y_g.out
  obtain ⟨m3, f_n⟩ := group_parts h_g
  have f_i : (t.ix == 0) = true := by simp [m3]
  clear m3 h_g
  go_wp2_with fail
  go_ret
  exact ⟨rfl, HU.out⟩
set_option maxRecDepth 100000 in
set_option maxHeartbeats 4000000 in
theorem bare_6 (t : Tree) (w : World) (RA : Option Addr) (rc : Nat) (SA : Option Addr) (sc : Nat) (h_r : t.rs.length = 0) (h_a : t.am = 0) (h_g : groupB t = true) (hrn : t.rs.length ≤ 140737488355328) (hnl : t.subs.length ≤ 140737488355328) :
    Calls Try.prog 31 #[.agg #[.int .i64 t.kind, .slice RA t.rs.length rc, .int .i64 t.am, .slice SA t.subs.length sc, .int .i64 t.mn, .int .i64 t.mx, .bool t.lz, .int .i64 t.ix, .string t.nm], .bool false, .bool false, .bool true, .bool true, .bool false] w fun e w' => e = .returned (.bool true) ∧ Upd Nob w w' := by
  have Y_r := hideP h_r
  clear h_r
  have Y_a := hideP h_a
  clear h_a
  have Y_g := hideP h_g
  clear h_g
  have C0 := Cells.new w 30 #[.int .i64 t.kind, .slice RA t.rs.length rc, .int .i64 t.am, .slice SA t.subs.length sc, .int .i64 t.mn, .int .i64 t.mx, .bool t.lz, .int .i64 t.ix, .string t.nm]
  have hU := (Upd.refl Nob w).alloc (.cells #[.int .i64 t.kind, .slice RA t.rs.length rc, .int .i64 t.am, .slice SA t.subs.length sc, .int .i64 t.mn, .int .i64 t.mx, .bool t.lz, .int .i64 t.ix, .string t.nm] 30)
  go_enter Try.func31, Try.ntmps31
  go_upto_region 1 with fail
  generalize w.alloc (.cells #[.int .i64 t.kind, .slice RA t.rs.length rc, .int .i64 t.am, .slice SA t.subs.length sc, .int .i64 t.mn, .int .i64 t.mx, .bool t.lz, .int .i64 t.ix, .string t.nm] 30) = w2 at *
  have HU := hideP hU
  obtain ⟨e0, e1, e2, e3, e4, e5, e6, e7, e8⟩ := nine C0
  clear C0 hU
  have h_r := Y_r.out
  have f_r : ((t.rs.length : Int) == 0) = true := by simp [h_r]
  clear h_r
  have h_a := Y_a.out
  have f_a : (t.am == 0) = true := by simp [h_a]
  clear h_a
  have h_g := Y_g.out
  obtain ⟨m3, f_n⟩ := group_parts h_g
  have f_i : (t.ix == 0) = true := by simp [m3]
  clear m3 h_g
  go_wp2_with fail
  go_ret
  exact ⟨rfl, HU.out⟩
theorem refAs_yes (w : World) (x : Int) (h : asB x = true) : Calls Try.prog 33 #[.int .i64 x] w fun e w' => e = .returned (.bool true) ∧ w = w' := by
  unfold asB at h
  have h := of_decide_eq_true h
  rcases h with rfl | rfl | rfl | rfl | rfl | rfl
  · go_enter Try.func33, Try.ntmps33
    go_wp2_with fail
    go_ret
    exact ⟨rfl, rfl⟩
  · go_enter Try.func33, Try.ntmps33
    go_wp2_with fail
    go_ret
    exact ⟨rfl, rfl⟩
  · go_enter Try.func33, Try.ntmps33
    go_wp2_with fail
    go_ret
    exact ⟨rfl, rfl⟩
  · go_enter Try.func33, Try.ntmps33
    go_wp2_with fail
    go_ret
    exact ⟨rfl, rfl⟩
  · go_enter Try.func33, Try.ntmps33
    go_wp2_with fail
    go_ret
    exact ⟨rfl, rfl⟩
  · go_enter Try.func33, Try.ntmps33
    go_wp2_with fail
    go_ret
    exact ⟨rfl, rfl⟩

set_option maxRecDepth 100000 in
set_option maxHeartbeats 8000000 in
theorem refNode_yes (t : Tree) (w : World) (S : Nat → Prop) (cs : Array Value) (h7 : t.kind ≠ 7) (hb : nodeB t = true) (h1 : NodeR w S cs t) :
    Calls Try.prog 24 #[.agg cs] w fun e w' => e = .returned (.bool true) ∧ Upd Nob w w' := by
  obtain ⟨RA, rc, SA, sc, rfl, hr1, ho, hs1⟩ := h1.top
  have C0 := Cells.new w 30 (nodeCells t RA rc SA sc)
  have hU := (Upd.refl Nob w).alloc (.cells (nodeCells t RA rc SA sc) 30)
  have HR := hideP (hr1.upd hU (fun _ _ => not_nob))
  have hnl := ho.n
  have hrn := hr1.n
  clear h1 hr1 hs1 ho
  unfold nodeCells at C0 hU HR
  unfold nodeCells
  go_enter Try.func24, Try.ntmps24
  go_upto_region 1 with fail
  generalize w.alloc (.cells #[.int .i64 t.kind, .slice RA t.rs.length rc, .int .i64 t.am, .slice SA t.subs.length sc, .int .i64 t.mn, .int .i64 t.mx, .bool t.lz, .int .i64 t.ix, .string t.nm] 30) = w2 at *
  have HU := hideP hU
  have HC := hideP C0
  obtain ⟨e0, e1, e2, e3, e4, e5, e6, e7, e8⟩ := nine C0
  clear C0 hU
  have HE := hideP (show ∀ x y : Int, ¬ x = y → (x == y) = false from fun x y h => by simpa using h)
  by_cases hk : t.kind = 1
  · rw [nb1 hk] at hb
    simp only [Bool.and_eq_true, decide_eq_true_eq] at hb
    obtain ⟨hp, hs, hc, hg⟩ := hb
    have k1 : (t.kind == 1) = true := by rw [hk]; rfl
    have HP1 := hideP (And.intro (plain_parts hp) (And.intro hs (And.intro hc hg)))
    clear hk hp hs hc hg
    go_wp2_with (go_at_call 31; refine (bare_1 t _ RA rc SA sc HP1.out.1.1 HP1.out.1.2 HP1.out.2.1 HP1.out.2.2.1 HP1.out.2.2.2 hrn hnl).mono ?_; rintro e w3 ⟨rfl, hU3⟩; have HU3 := hideP (HU.out.trans hU3 (fun _ _ h => h)); clear hU3)
    try go_ret
    exact ⟨rfl, HU3.out⟩
  have n1 := hk
  clear hk
  by_cases hk : t.kind = 2
  · rw [nb2 hk] at hb
    simp only [Bool.and_eq_true, decide_eq_true_eq] at hb
    obtain ⟨ha, hs, hc, hg, hr⟩ := hb
    have k1 : (t.kind == 1) = false := by rw [hk]; rfl
    have k2 : (t.kind == 2) = true := by rw [hk]; rfl
    have HP1 := hideP (And.intro ha (And.intro hs (And.intro hc hg)))
    have HRB := hideP hr
    clear hk ha hs hc hg hr
    go_wp2_with (go_at_call 32; refine (ref_right _ _ _ _ _ _ HR.out).mono ?_; rintro e w3 ⟨he, q, hq⟩; rw [HRB.out] at he; subst he; have HU3 := hideP (show Upd Nob w w3 by rw [hq]; exact HU.out.drewN _); have HC3 := hideP (HC.out.upd (show Upd Nob w2 w3 by rw [hq]; exact (Upd.refl _ _).drewN _) not_nob); obtain ⟨d0, d1, d2, d3, d4, d5, d6, d7, d8⟩ := nine HC3.out; clear hq)
    refine (bare_2 t w3 RA rc SA sc HP1.out.1 HP1.out.2.1 HP1.out.2.2.1 HP1.out.2.2.2 hrn hnl).mono ?_
    rintro e w4 ⟨rfl, hU4⟩
    have HU4 := hideP (HU3.out.trans hU4 (fun _ _ h => h))
    clear hU4
    go_wp2_with fail
    try go_ret
    exact ⟨rfl, HU4.out⟩
  have n2 := hk
  clear hk
  by_cases hk : t.kind = 3
  · rw [nb3 hk] at hb
    simp only [Bool.and_eq_true, decide_eq_true_eq] at hb
    obtain ⟨hr, hs, hc, hg, ha⟩ := hb
    have k1 : (t.kind == 1) = false := by rw [hk]; rfl
    have k2 : (t.kind == 2) = false := by rw [hk]; rfl
    have k3 : (t.kind == 3) = true := by rw [hk]; rfl
    have HP1 := hideP (And.intro hr (And.intro hs (And.intro hc hg)))
    have HA := hideP ha
    clear hk hr hs hc hg ha
    go_wp2_with (first | (go_at_call 33; refine (refAs_yes _ _ HA.out).mono ?_; rintro e w9 ⟨rfl, rfl⟩) | (go_at_call 31; refine (bare_3 t _ RA rc SA sc HP1.out.1 HP1.out.2.1 HP1.out.2.2.1 HP1.out.2.2.2 hrn hnl).mono ?_; rintro e w3 ⟨rfl, hU3⟩; have HU3 := hideP (HU.out.trans hU3 (fun _ _ h => h)); clear hU3))
    try go_ret
    exact ⟨rfl, HU3.out⟩
  have n3 := hk
  clear hk
  by_cases hk : t.kind = 4
  · rw [nb4 (by omega)] at hb
    simp only [Bool.and_eq_true, decide_eq_true_eq] at hb
    obtain ⟨hp, hs, hc, hg⟩ := hb
    have k1 : (t.kind == 1) = false := by rw [hk]; rfl
    have k2 : (t.kind == 2) = false := by rw [hk]; rfl
    have k3 : (t.kind == 3) = false := by rw [hk]; rfl
    have k4 : (t.kind == 4) = true := by rw [hk]; rfl
    have c1 : (2 : Int) ≤ (t.subs.length : Int) := by omega
    have HP1 := hideP (And.intro (plain_parts hp) (And.intro hc hg))
    clear hk hp hs hc hg
    go_wp2_with (go_at_call 31; refine (bare_4 t _ RA rc SA sc HP1.out.1.1 HP1.out.1.2 HP1.out.2.1 HP1.out.2.2 hrn hnl).mono ?_; rintro e w3 ⟨rfl, hU3⟩; have HU3 := hideP (HU.out.trans hU3 (fun _ _ h => h)); clear hU3)
    try go_ret
    exact ⟨rfl, HU3.out⟩
  have n4 := hk
  clear hk
  by_cases hk : t.kind = 5
  · rw [nb4 (by omega)] at hb
    simp only [Bool.and_eq_true, decide_eq_true_eq] at hb
    obtain ⟨hp, hs, hc, hg⟩ := hb
    have k1 : (t.kind == 1) = false := by rw [hk]; rfl
    have k2 : (t.kind == 2) = false := by rw [hk]; rfl
    have k3 : (t.kind == 3) = false := by rw [hk]; rfl
    have k4 : (t.kind == 4) = false := by rw [hk]; rfl
    have k5 : (t.kind == 5) = true := by rw [hk]; rfl
    have c1 : (2 : Int) ≤ (t.subs.length : Int) := by omega
    have HP1 := hideP (And.intro (plain_parts hp) (And.intro hc hg))
    clear hk hp hs hc hg
    go_wp2_with (go_at_call 31; refine (bare_4 t _ RA rc SA sc HP1.out.1.1 HP1.out.1.2 HP1.out.2.1 HP1.out.2.2 hrn hnl).mono ?_; rintro e w3 ⟨rfl, hU3⟩; have HU3 := hideP (HU.out.trans hU3 (fun _ _ h => h)); clear hU3)
    try go_ret
    exact ⟨rfl, HU3.out⟩
  have n5 := hk
  clear hk
  by_cases hk : t.kind = 6
  · rw [nb6 hk] at hb
    simp only [Bool.and_eq_true, decide_eq_true_eq] at hb
    obtain ⟨hp, hs, hg, hm, hx⟩ := hb
    have k1 : (t.kind == 1) = false := by rw [hk]; rfl
    have k2 : (t.kind == 2) = false := by rw [hk]; rfl
    have k3 : (t.kind == 3) = false := by rw [hk]; rfl
    have k4 : (t.kind == 4) = false := by rw [hk]; rfl
    have k5 : (t.kind == 5) = false := by rw [hk]; rfl
    have k6 : (t.kind == 6) = true := by rw [hk]; rfl
    have c1 : ((t.subs.length : Int) == 1) = true := by simp [hs]
    obtain ⟨m1, m2⟩ := hm
    have HP1 := hideP (And.intro (plain_parts hp) hg)
    clear hk hp hs hg
    by_cases g1 : t.mx = -1
    · have cg : (t.mx == -1) = true := by simp [g1]
      clear g1 hx
      (go_wp2_with (go_at_call 31; refine (bare_6 t _ RA rc SA sc HP1.out.1.1 HP1.out.1.2 HP1.out.2 hrn hnl).mono ?_; rintro e w3 ⟨rfl, hU3⟩; have HU3 := hideP (HU.out.trans hU3 (fun _ _ h => h)); clear hU3))
      try go_ret
      exact ⟨rfl, HU3.out⟩
    · have cg : (t.mx == -1) = false := HE.out _ _ g1
      have g2 : t.mn ≤ t.mx := by omega
      have g3 : t.mx ≤ 1000 := by omega
      clear g1 hx
      (go_wp2_with (go_at_call 31; refine (bare_6 t _ RA rc SA sc HP1.out.1.1 HP1.out.1.2 HP1.out.2 hrn hnl).mono ?_; rintro e w3 ⟨rfl, hU3⟩; have HU3 := hideP (HU.out.trans hU3 (fun _ _ h => h)); clear hU3))
      try go_ret
      exact ⟨rfl, HU3.out⟩
  have n6 := hk
  clear hk
  rw [nb0 (by omega)] at hb
  cases hb
end Go.Proofs.Ytlaofcgllchedaa
