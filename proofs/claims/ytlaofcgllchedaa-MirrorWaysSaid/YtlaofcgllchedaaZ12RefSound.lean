/-
  RefNode, RefSound, put together.
-/
import Derived.Test.YtlaofcgllchedaaZ11SoundX
import Derived.Test.YtlaofcgllchedaaZRfRight

/-
  The walks of heronref05.bare and node where they say yes. Printed by gen_refnode.py.
-/
namespace Go.Proofs.Ytlaofcgllchedaa
open Go.RowKit
set_option linter.unusedVariables false

theorem plain_parts {t : Tree} (h : plainB t = true) : t.rs.length = 0 ∧ t.am = 0 := by
  unfold plainB at h
  simp only [Bool.and_eq_true, decide_eq_true_eq] at h
  exact h
theorem count_parts {t : Tree} (h : countB t = true) : t.mn = 0 ∧ t.mx = 0 ∧ t.lz = false := by
  unfold countB at h
  simp only [Bool.and_eq_true, decide_eq_true_eq] at h
  exact ⟨h.1, h.2.1, by simpa using h.2.2⟩
theorem group_parts {t : Tree} (h : groupB t = true) : t.ix = 0 ∧ t.nm.toList.isEmpty = true := by
  unfold groupB at h
  simp only [Bool.and_eq_true, decide_eq_true_eq] at h
  exact h
set_option maxRecDepth 100000 in
set_option maxHeartbeats 4000000 in
theorem bare_1 (t : Tree) (w : World) (RA : Option Addr) (rc : Nat) (SA : Option Addr) (sc : Nat) (h_r : t.rs.length = 0) (h_a : t.am = 0) (h_s : t.subs.length = 0) (h_c : countB t = true) (h_g : groupB t = true) (hrn : t.rs.length ≤ 140737488355328) (hnl : t.subs.length ≤ 140737488355328) :
    Calls Try.prog 31 #[.agg #[.int .i64 t.kind, .slice RA t.rs.length rc, .int .i64 t.am, .slice SA t.subs.length sc, .int .i64 t.mn, .int .i64 t.mx, .bool t.lz, .int .i64 t.ix, .string t.nm], .bool false, .bool false, .bool false, .bool false, .bool false] w fun e w' => e = .returned (.bool true) ∧ Upd Nob w w' := by
  have Y_r := hideP h_r
  clear h_r
  have Y_a := hideP h_a
  clear h_a
  have Y_s := hideP h_s
  clear h_s
  have Y_c := hideP h_c
  clear h_c
  have Y_g := hideP h_g
  clear h_g
  have C0 := Cells.new w 30 #[.int .i64 t.kind, .slice RA t.rs.length rc, .int .i64 t.am, .slice SA t.subs.length sc, .int .i64 t.mn, .int .i64 t.mx, .bool t.lz, .int .i64 t.ix, .string t.nm]
  have hU := (Upd.refl Nob w).alloc (.cells #[.int .i64 t.kind, .slice RA t.rs.length rc, .int .i64 t.am, .slice SA t.subs.length sc, .int .i64 t.mn, .int .i64 t.mx, .bool t.lz, .int .i64 t.ix, .string t.nm] 30)
  go_enter Try.func31, Try.ntmps31
  go_upto_region 1 with fail
  generalize w.alloc (.cells #[.int .i64 t.kind, .slice RA t.rs.length rc, .int .i64 t.am, .slice SA t.subs.length sc, .int .i64 t.mn, .int .i64 t.mx, .bool t.lz, .int .i64 t.ix, .string t.nm] 30) = w2 at *
  have HU := hideP hU
  obtain ⟨e0, e1, e2, e3, e4, e5, e6, e7, e8⟩ := nine C0
  clear C0 hU
  have h_r := Y_r.out
  have f_r : ((t.rs.length : Int) == 0) = true := by simp [h_r]
  clear h_r
  have h_a := Y_a.out
  have f_a : (t.am == 0) = true := by simp [h_a]
  clear h_a
  have h_s := Y_s.out
  have f_s : ((t.subs.length : Int) == 0) = true := by simp [h_s]
  clear h_s
  have h_c := Y_c.out
  obtain ⟨m1, m2, f_z⟩ := count_parts h_c
  have f_m : (t.mn == 0) = true := by simp [m1]
  have f_x : (t.mx == 0) = true := by simp [m2]
  clear m1 m2 h_c
  have h_g := Y_g.out
  obtain ⟨m3, f_n⟩ := group_parts h_g
  have f_i : (t.ix == 0) = true := by simp [m3]
  clear m3 h_g
  go_wp2_with fail
  go_ret
  exact ⟨rfl, HU.out⟩
set_option maxRecDepth 100000 in
set_option maxHeartbeats 4000000 in
theorem bare_2 (t : Tree) (w : World) (RA : Option Addr) (rc : Nat) (SA : Option Addr) (sc : Nat) (h_a : t.am = 0) (h_s : t.subs.length = 0) (h_c : countB t = true) (h_g : groupB t = true) (hrn : t.rs.length ≤ 140737488355328) (hnl : t.subs.length ≤ 140737488355328) :
    Calls Try.prog 31 #[.agg #[.int .i64 t.kind, .slice RA t.rs.length rc, .int .i64 t.am, .slice SA t.subs.length sc, .int .i64 t.mn, .int .i64 t.mx, .bool t.lz, .int .i64 t.ix, .string t.nm], .bool true, .bool false, .bool false, .bool false, .bool false] w fun e w' => e = .returned (.bool true) ∧ Upd Nob w w' := by
  have Y_a := hideP h_a
  clear h_a
  have Y_s := hideP h_s
  clear h_s
  have Y_c := hideP h_c
  clear h_c
  have Y_g := hideP h_g
  clear h_g
  have C0 := Cells.new w 30 #[.int .i64 t.kind, .slice RA t.rs.length rc, .int .i64 t.am, .slice SA t.subs.length sc, .int .i64 t.mn, .int .i64 t.mx, .bool t.lz, .int .i64 t.ix, .string t.nm]
  have hU := (Upd.refl Nob w).alloc (.cells #[.int .i64 t.kind, .slice RA t.rs.length rc, .int .i64 t.am, .slice SA t.subs.length sc, .int .i64 t.mn, .int .i64 t.mx, .bool t.lz, .int .i64 t.ix, .string t.nm] 30)
  go_enter Try.func31, Try.ntmps31
  go_upto_region 1 with fail
  generalize w.alloc (.cells #[.int .i64 t.kind, .slice RA t.rs.length rc, .int .i64 t.am, .slice SA t.subs.length sc, .int .i64 t.mn, .int .i64 t.mx, .bool t.lz, .int .i64 t.ix, .string t.nm] 30) = w2 at *
  have HU := hideP hU
  obtain ⟨e0, e1, e2, e3, e4, e5, e6, e7, e8⟩ := nine C0
  clear C0 hU
  have h_a := Y_a.out
  have f_a : (t.am == 0) = true := by simp [h_a]
  clear h_a
  have h_s := Y_s.out
  have f_s : ((t.subs.length : Int) == 0) = true := by simp [h_s]
  clear h_s
  have h_c := Y_c.out
  obtain ⟨m1, m2, f_z⟩ := count_parts h_c
  have f_m : (t.mn == 0) = true := by simp [m1]
  have f_x : (t.mx == 0) = true := by simp [m2]
  clear m1 m2 h_c
  have h_g := Y_g.out
  obtain ⟨m3, f_n⟩ := group_parts h_g
  have f_i : (t.ix == 0) = true := by simp [m3]
  clear m3 h_g
  go_wp2_with fail
  go_ret
  exact ⟨rfl, HU.out⟩
set_option maxRecDepth 100000 in
set_option maxHeartbeats 4000000 in
theorem bare_3 (t : Tree) (w : World) (RA : Option Addr) (rc : Nat) (SA : Option Addr) (sc : Nat) (h_r : t.rs.length = 0) (h_s : t.subs.length = 0) (h_c : countB t = true) (h_g : groupB t = true) (hrn : t.rs.length ≤ 140737488355328) (hnl : t.subs.length ≤ 140737488355328) :
    Calls Try.prog 31 #[.agg #[.int .i64 t.kind, .slice RA t.rs.length rc, .int .i64 t.am, .slice SA t.subs.length sc, .int .i64 t.mn, .int .i64 t.mx, .bool t.lz, .int .i64 t.ix, .string t.nm], .bool false, .bool true, .bool false, .bool false, .bool false] w fun e w' => e = .returned (.bool true) ∧ Upd Nob w w' := by
  have Y_r := hideP h_r
  clear h_r
  have Y_s := hideP h_s
  clear h_s
  have Y_c := hideP h_c
  clear h_c
  have Y_g := hideP h_g
  clear h_g
  have C0 := Cells.new w 30 #[.int .i64 t.kind, .slice RA t.rs.length rc, .int .i64 t.am, .slice SA t.subs.length sc, .int .i64 t.mn, .int .i64 t.mx, .bool t.lz, .int .i64 t.ix, .string t.nm]
  have hU := (Upd.refl Nob w).alloc (.cells #[.int .i64 t.kind, .slice RA t.rs.length rc, .int .i64 t.am, .slice SA t.subs.length sc, .int .i64 t.mn, .int .i64 t.mx, .bool t.lz, .int .i64 t.ix, .string t.nm] 30)
  go_enter Try.func31, Try.ntmps31
  go_upto_region 1 with fail
  generalize w.alloc (.cells #[.int .i64 t.kind, .slice RA t.rs.length rc, .int .i64 t.am, .slice SA t.subs.length sc, .int .i64 t.mn, .int .i64 t.mx, .bool t.lz, .int .i64 t.ix, .string t.nm] 30) = w2 at *
  have HU := hideP hU
  obtain ⟨e0, e1, e2, e3, e4, e5, e6, e7, e8⟩ := nine C0
  clear C0 hU
  have h_r := Y_r.out
  have f_r : ((t.rs.length : Int) == 0) = true := by simp [h_r]
  clear h_r
  have h_s := Y_s.out
  have f_s : ((t.subs.length : Int) == 0) = true := by simp [h_s]
  clear h_s
  have h_c := Y_c.out
  obtain ⟨m1, m2, f_z⟩ := count_parts h_c
  have f_m : (t.mn == 0) = true := by simp [m1]
  have f_x : (t.mx == 0) = true := by simp [m2]
  clear m1 m2 h_c
  have h_g := Y_g.out
  obtain ⟨m3, f_n⟩ := group_parts h_g
  have f_i : (t.ix == 0) = true := by simp [m3]
  clear m3 h_g
  go_wp2_with fail
  go_ret
  exact ⟨rfl, HU.out⟩
set_option maxRecDepth 100000 in
set_option maxHeartbeats 4000000 in
theorem bare_4 (t : Tree) (w : World) (RA : Option Addr) (rc : Nat) (SA : Option Addr) (sc : Nat) (h_r : t.rs.length = 0) (h_a : t.am = 0) (h_c : countB t = true) (h_g : groupB t = true) (hrn : t.rs.length ≤ 140737488355328) (hnl : t.subs.length ≤ 140737488355328) :
    Calls Try.prog 31 #[.agg #[.int .i64 t.kind, .slice RA t.rs.length rc, .int .i64 t.am, .slice SA t.subs.length sc, .int .i64 t.mn, .int .i64 t.mx, .bool t.lz, .int .i64 t.ix, .string t.nm], .bool false, .bool false, .bool true, .bool false, .bool false] w fun e w' => e = .returned (.bool true) ∧ Upd Nob w w' := by
  have Y_r := hideP h_r
  clear h_r
  have Y_a := hideP h_a
  clear h_a
  have Y_c := hideP h_c
  clear h_c
  have Y_g := hideP h_g
  clear h_g
  have C0 := Cells.new w 30 #[.int .i64 t.kind, .slice RA t.rs.length rc, .int .i64 t.am, .slice SA t.subs.length sc, .int .i64 t.mn, .int .i64 t.mx, .bool t.lz, .int .i64 t.ix, .string t.nm]
  have hU := (Upd.refl Nob w).alloc (.cells #[.int .i64 t.kind, .slice RA t.rs.length rc, .int .i64 t.am, .slice SA t.subs.length sc, .int .i64 t.mn, .int .i64 t.mx, .bool t.lz, .int .i64 t.ix, .string t.nm] 30)
  go_enter Try.func31, Try.ntmps31
  go_upto_region 1 with fail
  generalize w.alloc (.cells #[.int .i64 t.kind, .slice RA t.rs.length rc, .int .i64 t.am, .slice SA t.subs.length sc, .int .i64 t.mn, .int .i64 t.mx, .bool t.lz, .int .i64 t.ix, .string t.nm] 30) = w2 at *
  have HU := hideP hU
  obtain ⟨e0, e1, e2, e3, e4, e5, e6, e7, e8⟩ := nine C0
  clear C0 hU
  have h_r := Y_r.out
  have f_r : ((t.rs.length : Int) == 0) = true := by simp [h_r]
  clear h_r
  have h_a := Y_a.out
  have f_a : (t.am == 0) = true := by simp [h_a]
  clear h_a
  have h_c := Y_c.out
  obtain ⟨m1, m2, f_z⟩ := count_parts h_c
  have f_m : (t.mn == 0) = true := by simp [m1]
  have f_x : (t.mx == 0) = true := by simp [m2]
  clear m1 m2 h_c
  have h_g := Y_g.out
  obtain ⟨m3, f_n⟩ := group_parts h_g
  have f_i : (t.ix == 0) = true := by simp [m3]
  clear m3 h_g
  go_wp2_with fail
  go_ret
  exact ⟨rfl, HU.out⟩
set_option maxRecDepth 100000 in
set_option maxHeartbeats 4000000 in
theorem bare_6 (t : Tree) (w : World) (RA : Option Addr) (rc : Nat) (SA : Option Addr) (sc : Nat) (h_r : t.rs.length = 0) (h_a : t.am = 0) (h_g : groupB t = true) (hrn : t.rs.length ≤ 140737488355328) (hnl : t.subs.length ≤ 140737488355328) :
    Calls Try.prog 31 #[.agg #[.int .i64 t.kind, .slice RA t.rs.length rc, .int .i64 t.am, .slice SA t.subs.length sc, .int .i64 t.mn, .int .i64 t.mx, .bool t.lz, .int .i64 t.ix, .string t.nm], .bool false, .bool false, .bool true, .bool true, .bool false] w fun e w' => e = .returned (.bool true) ∧ Upd Nob w w' := by
  have Y_r := hideP h_r
  clear h_r
  have Y_a := hideP h_a
  clear h_a
  have Y_g := hideP h_g
  clear h_g
  have C0 := Cells.new w 30 #[.int .i64 t.kind, .slice RA t.rs.length rc, .int .i64 t.am, .slice SA t.subs.length sc, .int .i64 t.mn, .int .i64 t.mx, .bool t.lz, .int .i64 t.ix, .string t.nm]
  have hU := (Upd.refl Nob w).alloc (.cells #[.int .i64 t.kind, .slice RA t.rs.length rc, .int .i64 t.am, .slice SA t.subs.length sc, .int .i64 t.mn, .int .i64 t.mx, .bool t.lz, .int .i64 t.ix, .string t.nm] 30)
  go_enter Try.func31, Try.ntmps31
  go_upto_region 1 with fail
  generalize w.alloc (.cells #[.int .i64 t.kind, .slice RA t.rs.length rc, .int .i64 t.am, .slice SA t.subs.length sc, .int .i64 t.mn, .int .i64 t.mx, .bool t.lz, .int .i64 t.ix, .string t.nm] 30) = w2 at *
  have HU := hideP hU
  obtain ⟨e0, e1, e2, e3, e4, e5, e6, e7, e8⟩ := nine C0
  clear C0 hU
  have h_r := Y_r.out
  have f_r : ((t.rs.length : Int) == 0) = true := by simp [h_r]
  clear h_r
  have h_a := Y_a.out
  have f_a : (t.am == 0) = true := by simp [h_a]
  clear h_a
  have h_g := Y_g.out
  obtain ⟨m3, f_n⟩ := group_parts h_g
  have f_i : (t.ix == 0) = true := by simp [m3]
  clear m3 h_g
  go_wp2_with fail
  go_ret
  exact ⟨rfl, HU.out⟩
theorem refAs_yes (w : World) (x : Int) (h : asB x = true) : Calls Try.prog 33 #[.int .i64 x] w fun e w' => e = .returned (.bool true) ∧ w = w' := by
  unfold asB at h
  have h := of_decide_eq_true h
  rcases h with rfl | rfl | rfl | rfl | rfl | rfl
  · go_enter Try.func33, Try.ntmps33
    go_wp2_with fail
    go_ret
    exact ⟨rfl, rfl⟩
  · go_enter Try.func33, Try.ntmps33
    go_wp2_with fail
    go_ret
    exact ⟨rfl, rfl⟩
  · go_enter Try.func33, Try.ntmps33
    go_wp2_with fail
    go_ret
    exact ⟨rfl, rfl⟩
  · go_enter Try.func33, Try.ntmps33
    go_wp2_with fail
    go_ret
    exact ⟨rfl, rfl⟩
  · go_enter Try.func33, Try.ntmps33
    go_wp2_with fail
    go_ret
    exact ⟨rfl, rfl⟩
  · go_enter Try.func33, Try.ntmps33
    go_wp2_with fail
    go_ret
    exact ⟨rfl, rfl⟩

set_option maxRecDepth 100000 in
set_option maxHeartbeats 8000000 in
theorem refNode_yes (t : Tree) (w : World) (S : Nat → Prop) (cs : Array Value) (h7 : t.kind ≠ 7) (hb : nodeB t = true) (h1 : NodeR w S cs t) :
    Calls Try.prog 24 #[.agg cs] w fun e w' => e = .returned (.bool true) ∧ Upd Nob w w' := by
  obtain ⟨RA, rc, SA, sc, rfl, hr1, ho, hs1⟩ := h1.top
  have C0 := Cells.new w 30 (nodeCells t RA rc SA sc)
  have hU := (Upd.refl Nob w).alloc (.cells (nodeCells t RA rc SA sc) 30)
  have HR := hideP (hr1.upd hU (fun _ _ => not_nob))
  have hnl := ho.n
  have hrn := hr1.n
  clear h1 hr1 hs1 ho
  unfold nodeCells at C0 hU HR
  unfold nodeCells
  go_enter Try.func24, Try.ntmps24
  go_upto_region 1 with fail
  generalize w.alloc (.cells #[.int .i64 t.kind, .slice RA t.rs.length rc, .int .i64 t.am, .slice SA t.subs.length sc, .int .i64 t.mn, .int .i64 t.mx, .bool t.lz, .int .i64 t.ix, .string t.nm] 30) = w2 at *
  have HU := hideP hU
  have HC := hideP C0
  obtain ⟨e0, e1, e2, e3, e4, e5, e6, e7, e8⟩ := nine C0
  clear C0 hU
  have HE := hideP (show ∀ x y : Int, ¬ x = y → (x == y) = false from fun x y h => by simpa using h)
  by_cases hk : t.kind = 1
  · rw [nb1 hk] at hb
    simp only [Bool.and_eq_true, decide_eq_true_eq] at hb
    obtain ⟨hp, hs, hc, hg⟩ := hb
    have k1 : (t.kind == 1) = true := by rw [hk]; rfl
    have HP1 := hideP (And.intro (plain_parts hp) (And.intro hs (And.intro hc hg)))
    clear hk hp hs hc hg
    go_wp2_with (go_at_call 31; refine (bare_1 t _ RA rc SA sc HP1.out.1.1 HP1.out.1.2 HP1.out.2.1 HP1.out.2.2.1 HP1.out.2.2.2 hrn hnl).mono ?_; rintro e w3 ⟨rfl, hU3⟩; have HU3 := hideP (HU.out.trans hU3 (fun _ _ h => h)); clear hU3)
    try go_ret
    exact ⟨rfl, HU3.out⟩
  have n1 := hk
  clear hk
  by_cases hk : t.kind = 2
  · rw [nb2 hk] at hb
    simp only [Bool.and_eq_true, decide_eq_true_eq] at hb
    obtain ⟨ha, hs, hc, hg, hr⟩ := hb
    have k1 : (t.kind == 1) = false := by rw [hk]; rfl
    have k2 : (t.kind == 2) = true := by rw [hk]; rfl
    have HP1 := hideP (And.intro ha (And.intro hs (And.intro hc hg)))
    have HRB := hideP hr
    clear hk ha hs hc hg hr
    go_wp2_with (go_at_call 32; refine (ref_right _ _ _ _ _ _ HR.out).mono ?_; rintro e w3 ⟨he, q, hq⟩; rw [HRB.out] at he; subst he; have HU3 := hideP (show Upd Nob w w3 by rw [hq]; exact HU.out.drewN _); have HC3 := hideP (HC.out.upd (show Upd Nob w2 w3 by rw [hq]; exact (Upd.refl _ _).drewN _) not_nob); obtain ⟨d0, d1, d2, d3, d4, d5, d6, d7, d8⟩ := nine HC3.out; clear hq)
    refine (bare_2 t w3 RA rc SA sc HP1.out.1 HP1.out.2.1 HP1.out.2.2.1 HP1.out.2.2.2 hrn hnl).mono ?_
    rintro e w4 ⟨rfl, hU4⟩
    have HU4 := hideP (HU3.out.trans hU4 (fun _ _ h => h))
    clear hU4
    go_wp2_with fail
    try go_ret
    exact ⟨rfl, HU4.out⟩
  have n2 := hk
  clear hk
  by_cases hk : t.kind = 3
  · rw [nb3 hk] at hb
    simp only [Bool.and_eq_true, decide_eq_true_eq] at hb
    obtain ⟨hr, hs, hc, hg, ha⟩ := hb
    have k1 : (t.kind == 1) = false := by rw [hk]; rfl
    have k2 : (t.kind == 2) = false := by rw [hk]; rfl
    have k3 : (t.kind == 3) = true := by rw [hk]; rfl
    have HP1 := hideP (And.intro hr (And.intro hs (And.intro hc hg)))
    have HA := hideP ha
    clear hk hr hs hc hg ha
    go_wp2_with (first | (go_at_call 33; refine (refAs_yes _ _ HA.out).mono ?_; rintro e w9 ⟨rfl, rfl⟩) | (go_at_call 31; refine (bare_3 t _ RA rc SA sc HP1.out.1 HP1.out.2.1 HP1.out.2.2.1 HP1.out.2.2.2 hrn hnl).mono ?_; rintro e w3 ⟨rfl, hU3⟩; have HU3 := hideP (HU.out.trans hU3 (fun _ _ h => h)); clear hU3))
    try go_ret
    exact ⟨rfl, HU3.out⟩
  have n3 := hk
  clear hk
  by_cases hk : t.kind = 4
  · rw [nb4 (by omega)] at hb
    simp only [Bool.and_eq_true, decide_eq_true_eq] at hb
    obtain ⟨hp, hs, hc, hg⟩ := hb
    have k1 : (t.kind == 1) = false := by rw [hk]; rfl
    have k2 : (t.kind == 2) = false := by rw [hk]; rfl
    have k3 : (t.kind == 3) = false := by rw [hk]; rfl
    have k4 : (t.kind == 4) = true := by rw [hk]; rfl
    have c1 : (2 : Int) ≤ (t.subs.length : Int) := by omega
    have HP1 := hideP (And.intro (plain_parts hp) (And.intro hc hg))
    clear hk hp hs hc hg
    go_wp2_with (go_at_call 31; refine (bare_4 t _ RA rc SA sc HP1.out.1.1 HP1.out.1.2 HP1.out.2.1 HP1.out.2.2 hrn hnl).mono ?_; rintro e w3 ⟨rfl, hU3⟩; have HU3 := hideP (HU.out.trans hU3 (fun _ _ h => h)); clear hU3)
    try go_ret
    exact ⟨rfl, HU3.out⟩
  have n4 := hk
  clear hk
  by_cases hk : t.kind = 5
  · rw [nb4 (by omega)] at hb
    simp only [Bool.and_eq_true, decide_eq_true_eq] at hb
    obtain ⟨hp, hs, hc, hg⟩ := hb
    have k1 : (t.kind == 1) = false := by rw [hk]; rfl
    have k2 : (t.kind == 2) = false := by rw [hk]; rfl
    have k3 : (t.kind == 3) = false := by rw [hk]; rfl
    have k4 : (t.kind == 4) = false := by rw [hk]; rfl
    have k5 : (t.kind == 5) = true := by rw [hk]; rfl
    have c1 : (2 : Int) ≤ (t.subs.length : Int) := by omega
    have HP1 := hideP (And.intro (plain_parts hp) (And.intro hc hg))
    clear hk hp hs hc hg
    go_wp2_with (go_at_call 31; refine (bare_4 t _ RA rc SA sc HP1.out.1.1 HP1.out.1.2 HP1.out.2.1 HP1.out.2.2 hrn hnl).mono ?_; rintro e w3 ⟨rfl, hU3⟩; have HU3 := hideP (HU.out.trans hU3 (fun _ _ h => h)); clear hU3)
    try go_ret
    exact ⟨rfl, HU3.out⟩
  have n5 := hk
  clear hk
  by_cases hk : t.kind = 6
  · rw [nb6 hk] at hb
    simp only [Bool.and_eq_true, decide_eq_true_eq] at hb
    obtain ⟨hp, hs, hg, hm, hx⟩ := hb
    have k1 : (t.kind == 1) = false := by rw [hk]; rfl
    have k2 : (t.kind == 2) = false := by rw [hk]; rfl
    have k3 : (t.kind == 3) = false := by rw [hk]; rfl
    have k4 : (t.kind == 4) = false := by rw [hk]; rfl
    have k5 : (t.kind == 5) = false := by rw [hk]; rfl
    have k6 : (t.kind == 6) = true := by rw [hk]; rfl
    have c1 : ((t.subs.length : Int) == 1) = true := by simp [hs]
    obtain ⟨m1, m2⟩ := hm
    have HP1 := hideP (And.intro (plain_parts hp) hg)
    clear hk hp hs hg
    by_cases g1 : t.mx = -1
    · have cg : (t.mx == -1) = true := by simp [g1]
      clear g1 hx
      (go_wp2_with (go_at_call 31; refine (bare_6 t _ RA rc SA sc HP1.out.1.1 HP1.out.1.2 HP1.out.2 hrn hnl).mono ?_; rintro e w3 ⟨rfl, hU3⟩; have HU3 := hideP (HU.out.trans hU3 (fun _ _ h => h)); clear hU3))
      try go_ret
      exact ⟨rfl, HU3.out⟩
    · have cg : (t.mx == -1) = false := HE.out _ _ g1
      have g2 : t.mn ≤ t.mx := by omega
      have g3 : t.mx ≤ 1000 := by omega
      clear g1 hx
      (go_wp2_with (go_at_call 31; refine (bare_6 t _ RA rc SA sc HP1.out.1.1 HP1.out.1.2 HP1.out.2 hrn hnl).mono ?_; rintro e w3 ⟨rfl, hU3⟩; have HU3 := hideP (HU.out.trans hU3 (fun _ _ h => h)); clear hU3))
      try go_ret
      exact ⟨rfl, HU3.out⟩
  have n6 := hk
  clear hk
  rw [nb0 (by omega)] at hb
  cases hb
end Go.Proofs.Ytlaofcgllchedaa

/-
  The walks of heronref05.count, Sound where they say yes; heronlaw05.great, Deep: some answer.
-/
namespace Go.Proofs.Ytlaofcgllchedaa
open Go.RowKit
set_option linter.unusedVariables false

set_option maxRecDepth 100000 in
set_option maxHeartbeats 8000000 in
theorem refCount_go (n : Nat) : ∀ (t : Tree) (w : World) (S : Nat → Prop) (cs : Array Value) (l : Nat) (d : Int), SizeOf.sizeOf t ≤ n → NodeR w S cs t → NoG t → OkA t d → cntT t ≤ l → l ≤ 200000 → 0 ≤ d →
    Calls Try.prog 20 #[.agg cs, .int .i64 (l : Int), .int .i64 d] w fun e w' => e = .returned (.int .i64 ((l - cntT t : Nat) : Int)) ∧ Upd Nob w w' := by
  induction n with
  | zero => exact fun t _ _ _ _ _ h => absurd h (size_pos t)
  | succ n ih =>
  intro t w S cs l d hn h1 hg hok hcl hl2 hd0
  obtain ⟨RA, rc, SA, sc, rfl, hr1, ho, hs1⟩ := h1.top
  have C0 := Cells.new w 30 (nodeCells t RA rc SA sc)
  have hU := (Upd.refl Nob w).alloc (.cells (nodeCells t RA rc SA sc) 30)
  have hd1 := hok.top.2.1
  have HCT := hideP (cntT_eq t)
  have IH := hideP ih
  have HN := hideP hn
  have HG := hideP hg.top
  have HOK := hideP hok.top
  have HCL := hideP hcl
  have H1 := hideP (h1.upd_ hU (fun _ _ => not_nob))
  have hnl := ho.n
  have hb : nodeB t = true := by
    rcases hok.top.1 with ⟨_, h⟩ | ⟨h, _⟩
    · exact h
    · exact absurd h hg.top.1
  have HB := hideP hb
  clear ih hn h1 hr1 hs1 ho hg hok hcl hb
  unfold nodeCells at C0 hU H1
  unfold nodeCells
  go_enter Try.func20, Try.ntmps20
  go_upto_region 1 with fail
  generalize w.alloc (.cells #[.int .i64 t.kind, .slice RA t.rs.length rc, .int .i64 t.am, .slice SA t.subs.length sc, .int .i64 t.mn, .int .i64 t.mx, .bool t.lz, .int .i64 t.ix, .string t.nm] 30) = w2 at *
  have HU := hideP hU
  have HC := hideP C0
  obtain ⟨e0, e1, e2, e3, e4, e5, e6, e7, e8⟩ := nine C0
  clear C0 hU
  have g1 : ¬ (10000 : Int) < d := by omega
  obtain ⟨m, hm, hml⟩ : ∃ m : Nat, (l : Int) - 1 = (m : Int) ∧ l = m + 1 := ⟨l - 1, by have := HCL.out; have := HCT.out; omega, by have := HCL.out; have := HCT.out; omega⟩
  have HML := hideP hml
  clear hml
  go_wp2_with (go_at_call 24; refine (refNode_yes t _ _ _ HG.out.1 HB.out H1.out).mono ?_; rintro e w3 ⟨rfl, hU3⟩; have HU3 := hideP (HU.out.trans hU3 (fun _ _ h => h)); have HC3 := hideP (HC.out.upd hU3 not_nob); have HN3 := hideP (H1.out.upd_ hU3 (fun _ _ => not_nob)).open_.2.2; clear hU3 e0 e1 e2 e3 e4 e5 e6 e7 e8)
  go_loopg [1, 8] t.subs.length (fun gk v1 v8 wr => ∃ k : Nat, k + gk = t.subs.length ∧ v8 = .int .i64 (k : Int) ∧ v1 = .int .i64 ((m - cntL (t.subs.take k) : Nat) : Int) ∧ cntL (t.subs.take k) ≤ m ∧ Upd Nob w3 wr)
  case atStart => exact ⟨0, by omega, rfl, by simp [cntL], by simp [cntL], Upd.refl _ _⟩
  case round =>
    obtain ⟨k, hk, rfl, rfl, hkl, hUr⟩ := hrel
    have b3 : wr.cell? ⟨w.heap.size, 0 + 3, none⟩ = some (.slice SA t.subs.length sc) := (HC3.out.upd hUr not_nob).cellv rfl
    by_cases hlt : k < t.subs.length
    · have g2 : (k : Int) < (t.subs.length : Int) := by omega
      obtain ⟨ad, g, o, x, PA, pc, QA, qc, rfl, hadd, hSg, hgl, hx, hX, hlx, hcs⟩ := NodeR.sub HN3.out hlt
      have up : ∀ (a : Addr) v, a.block < w3.heap.size → w3.cell? a = some v → wr.cell? a = some v := fun a v hb ha => (hUr.cell hb not_nob).trans ha
      obtain ⟨p0, p1, p2, p3, p4, p5, p6, p7, p8⟩ := sub_cells (fun j v hv => up ⟨g, o + j, none⟩ v hgl (hcs j v hv))
      have hxn : SizeOf.sizeOf x ≤ n := by have := HN.out; omega
      have HX := hideP (hX.upd_ hUr (fun _ _ => not_nob))
      have HXK := hideP hx
      have HKL := hideP hkl
      have HST := hideP (cntL_step hx)
      have q1 : cntT x ≤ m - cntL (t.subs.take k) := by
        have h1 := cntL_step hx
        have h2 := cntL_take t.subs (k + 1)
        have h3 := HCT.out
        have h4 := HCL.out
        have h5 := HML.out
        omega
      have HQ1 := hideP q1
      have q2 : m - cntL (t.subs.take k) ≤ 200000 := by have := HML.out; omega
      have HUr := hideP hUr
      have vw : IntKind.i64.wrap (d + 1) = d + 1 := by rw [IntKind.wrap_i64]; omega
      obtain ⟨v, hv⟩ : ∃ v : Nat, m - cntL (t.subs.take k) = v := ⟨_, rfl⟩
      have HV := hideP hv
      rw [hv] at q2
      rw [hv]
      have g3 : (0 : Int) ≤ (v : Int) := by omega
      have HK := hideP hk
      clear up hcs hX hx hlx hUr q1 hkl hv hk
      go_wp2_with fail
      refine (IH.out x wr _ _ v (d + 1) hxn HX.out (HG.out.2 k x HXK.out) (HOK.out.2.2 k x HXK.out) (by have := HQ1.out; have := HV.out; omega) q2 (by omega)).mono ?_
      rintro e w5 ⟨rfl, hU5⟩
      have HU5 := hideP (HUr.out.trans hU5 (fun _ _ h => h))
      clear hU5 b3 p0 p1 p2 p3 p4 p5 p6 p7 p8
      go_wp2_with fail
      have hk := HK.out
      go_roundg (t.subs.length - (k + 1))
      case measure => omega
      case rel => exact ⟨k + 1, by omega, by go_num, by rw [HST.out, ← HV.out, Nat.sub_sub], by have := HST.out; have := HQ1.out; have := HKL.out; omega, HU5.out⟩
    · have g2 : ¬ (k : Int) < (t.subs.length : Int) := by omega
      obtain rfl : k = t.subs.length := by omega
      rw [List.take_length]
      have HE := hideP (show m - cntL t.subs = l - cntT t by have := HCT.out; have := HML.out; omega)
      have HUr := hideP hUr
      clear hUr hkl
      obtain ⟨v, hv⟩ : ∃ v : Nat, m - cntL t.subs = v := ⟨_, rfl⟩
      have HV := hideP hv
      rw [hv]
      clear hv
      go_wp2_with fail
      try go_ret
      exact ⟨by rw [← HE.out, HV.out]; rfl, HU3.out.trans HUr.out (fun _ _ h => h)⟩

set_option maxHeartbeats 2000000 in
theorem refSound_yes (t : Tree) (w : World) (S : Nat → Prop) (cs : Array Value) (h1 : NodeR w S cs t) (hg : NoG t) (hok : SoundOk t) :
    Calls Try.prog 12 #[.agg cs] w fun e w' => e = .returned (.int .i64 0) ∧ Upd Nob w w' := by
  obtain ⟨RA, rc, SA, sc, rfl, -⟩ := h1.top
  have HN := hideP h1
  have HG := hideP hg
  have HOK := hideP hok
  clear h1 hg hok
  unfold nodeCells at HN ⊢
  have C0 := Cells.new w 30 #[.int .i64 t.kind, .slice RA t.rs.length rc, .int .i64 t.am, .slice SA t.subs.length sc, .int .i64 t.mn, .int .i64 t.mx, .bool t.lz, .int .i64 t.ix, .string t.nm]
  have hU2 := (Upd.refl Nob w).alloc (.cells #[.int .i64 t.kind, .slice RA t.rs.length rc, .int .i64 t.am, .slice SA t.subs.length sc, .int .i64 t.mn, .int .i64 t.mx, .bool t.lz, .int .i64 t.ix, .string t.nm] 30)
  go_enter Try.func12, Try.ntmps12
  go_upto_region 1 with fail
  generalize w.alloc (.cells #[.int .i64 t.kind, .slice RA t.rs.length rc, .int .i64 t.am, .slice SA t.subs.length sc, .int .i64 t.mn, .int .i64 t.mx, .bool t.lz, .int .i64 t.ix, .string t.nm] 30) = w2 at *
  obtain ⟨e0, e1, e2, e3, e4, e5, e6, e7, e8⟩ := nine C0
  clear C0
  go_wp2_with fail
  refine (refCount_go _ t w2 S _ 200000 1 (Nat.le_refl _) (HN.out.upd_ hU2 (fun _ _ => not_nob)) HG.out HOK.out.1 HOK.out.2 (by omega) (by omega)).mono ?_
  rintro e w3 ⟨rfl, hU3⟩
  have HU3 := hideP (hU2.trans hU3 (fun _ _ h => h))
  clear hU3 hU2 e0 e1 e2 e3 e4 e5 e6 e7 e8
  have g1 : ¬ ((200000 - cntT t : Nat) : Int) < 0 := by omega
  obtain ⟨v, hv⟩ : ∃ v : Nat, 200000 - cntT t = v := ⟨_, rfl⟩
  rw [hv] at g1 ⊢
  clear hv
  go_wp2_with fail
  try go_ret
  exact ⟨rfl, HU3.out⟩

/-- some number from -1 to l -/
def GreatAns (l : Int) (w : World) (e : Ending) (w' : World) : Prop := ∃ v : Int, e = .returned (.int .i64 v) ∧ -1 ≤ v ∧ v ≤ l ∧ Upd Nob w w'
set_option maxRecDepth 100000 in
set_option maxHeartbeats 8000000 in
theorem great_go (n : Nat) : ∀ (t : Tree) (w : World) (S : Nat → Prop) (cs : Array Value) (l : Int), SizeOf.sizeOf t ≤ n → NodeR w S cs t → 0 ≤ l → l ≤ 4194304 →
    Calls Try.prog 17 #[.agg cs, .int .i64 l] w (GreatAns l w) := by
  induction n with
  | zero => exact fun t _ _ _ _ h => absurd h (size_pos t)
  | succ n ih =>
  intro t w S cs l hn h1 hl0 hl1
  obtain ⟨RA, rc, SA, sc, rfl, hr1, ho, hs1⟩ := h1.top
  have C0 := Cells.new w 30 (nodeCells t RA rc SA sc)
  have hU := (Upd.refl Nob w).alloc (.cells (nodeCells t RA rc SA sc) 30)
  have IH := hideP ih
  have HN := hideP hn
  have H1 := hideP (h1.upd_ hU (fun _ _ => not_nob))
  have hnl := ho.n
  clear ih hn h1 hr1 hs1 ho
  unfold nodeCells at C0 hU H1
  unfold nodeCells
  generalize hP : GreatAns l w = P
  have HP := hideP (show ∀ (v : Int) w', -1 ≤ v → v ≤ l → Upd Nob w w' → P (.returned (.int .i64 v)) w' from fun v w' a b c => by rw [← hP]; exact ⟨v, rfl, a, b, c⟩)
  clear hP
  go_enter Try.func17, Try.ntmps17
  go_upto_region 1 with fail
  generalize w.alloc (.cells #[.int .i64 t.kind, .slice RA t.rs.length rc, .int .i64 t.am, .slice SA t.subs.length sc, .int .i64 t.mn, .int .i64 t.mx, .bool t.lz, .int .i64 t.ix, .string t.nm] 30) = w3 at *
  have HU3 := hideP hU
  have HC3 := hideP C0
  have HN3 := hideP H1.out.open_.2.2
  clear C0 hU
  obtain ⟨m, hm⟩ : ∃ m : Int, l - 1 = m := ⟨_, rfl⟩
  have m0 : -1 ≤ m := by omega
  have m1 : m ≤ 4194304 := by omega
  have HM := hideP hm
  go_wp2_with fail
  clear hm
  go_loopg [1, 5] t.subs.length (fun gk v1 v5 wr => ∃ (k : Nat) (v : Int), k + gk = t.subs.length ∧ v5 = .int .i64 (k : Int) ∧ v1 = .int .i64 v ∧ -1 ≤ v ∧ v ≤ m ∧ Upd Nob w3 wr)
  case atStart => exact ⟨0, m, by omega, rfl, rfl, m0, Int.le_refl _, Upd.refl _ _⟩
  case round =>
    obtain ⟨k, v, hk, rfl, rfl, v0, v1, hUr⟩ := hrel
    have b3 : wr.cell? ⟨w.heap.size, 0 + 3, none⟩ = some (.slice SA t.subs.length sc) := (HC3.out.upd hUr not_nob).cellv rfl
    by_cases hlt : k < t.subs.length
    · have g2 : (k : Int) < (t.subs.length : Int) := by omega
      by_cases g3 : 0 ≤ v
      · obtain ⟨ad, g, o, x, PA, pc, QA, qc, rfl, hadd, hSg, hgl, hx, hX, hlx, hcs⟩ := NodeR.sub HN3.out hlt
        have up : ∀ (a : Addr) v, a.block < w3.heap.size → w3.cell? a = some v → wr.cell? a = some v := fun a v hb ha => (hUr.cell hb not_nob).trans ha
        obtain ⟨p0, p1, p2, p3, p4, p5, p6, p7, p8⟩ := sub_cells (fun j v hv => up ⟨g, o + j, none⟩ v hgl (hcs j v hv))
        have hxn : SizeOf.sizeOf x ≤ n := by have := HN.out; omega
        have HX := hideP (hX.upd_ hUr (fun _ _ => not_nob))
        have HUr := hideP hUr
        have HK := hideP hk
        clear up hcs hX hx hlx hUr hk
        go_wp2_with fail
        refine (IH.out x wr _ _ v hxn HX.out g3 (by omega)).mono ?_
        rintro e w5 ⟨v', rfl, v2, v3, hU5⟩
        have HU5 := hideP (HUr.out.trans hU5 (fun _ _ h => h))
        clear hU5 b3 p0 p1 p2 p3 p4 p5 p6 p7 p8
        go_wp2_with fail
        have hk := HK.out
        go_roundg (t.subs.length - (k + 1))
        case measure => omega
        case rel => exact ⟨k + 1, v', by omega, by go_num, rfl, v2, by omega, HU5.out⟩
      · have HUr := hideP hUr
        clear hUr
        go_wp2_with fail
        try go_ret
        exact HP.out _ _ v0 (by have := HM.out; omega) (HU3.out.trans HUr.out (fun _ _ h => h))
    · have g2 : ¬ (k : Int) < (t.subs.length : Int) := by omega
      have HUr := hideP hUr
      clear hUr
      go_wp2_with fail
      try go_ret
      exact HP.out _ _ v0 (by have := HM.out; omega) (HU3.out.trans HUr.out (fun _ _ h => h))

/-- some answer -/
def DeepAns (w : World) (e : Ending) (w' : World) : Prop := ∃ b, e = .returned (.bool b) ∧ Upd Nob w w'
set_option maxHeartbeats 2000000 in
theorem deep_any (t : Tree) (w : World) (S : Nat → Prop) (cs : Array Value) (h1 : NodeR w S cs t) :
    Calls Try.prog 10 #[.agg cs] w (DeepAns w) := by
  obtain ⟨RA, rc, SA, sc, rfl, -⟩ := h1.top
  have HN := hideP h1
  clear h1
  unfold nodeCells at HN ⊢
  generalize hP : DeepAns w = P
  have HP := hideP (show ∀ b w', Upd Nob w w' → P (.returned (.bool b)) w' from fun b w' a => by rw [← hP]; exact ⟨b, rfl, a⟩)
  clear hP
  have C0 := Cells.new w 30 #[.int .i64 t.kind, .slice RA t.rs.length rc, .int .i64 t.am, .slice SA t.subs.length sc, .int .i64 t.mn, .int .i64 t.mx, .bool t.lz, .int .i64 t.ix, .string t.nm]
  have hU2 := (Upd.refl Nob w).alloc (.cells #[.int .i64 t.kind, .slice RA t.rs.length rc, .int .i64 t.am, .slice SA t.subs.length sc, .int .i64 t.mn, .int .i64 t.mx, .bool t.lz, .int .i64 t.ix, .string t.nm] 30)
  go_enter Try.func10, Try.ntmps10
  go_upto_region 1 with fail
  generalize w.alloc (.cells #[.int .i64 t.kind, .slice RA t.rs.length rc, .int .i64 t.am, .slice SA t.subs.length sc, .int .i64 t.mn, .int .i64 t.mx, .bool t.lz, .int .i64 t.ix, .string t.nm] 30) = w2 at *
  obtain ⟨e0, e1, e2, e3, e4, e5, e6, e7, e8⟩ := nine C0
  clear C0
  go_wp2_with fail
  refine (great_go _ t w2 S _ 4194304 (Nat.le_refl _) (HN.out.upd_ hU2 (fun _ _ => not_nob)) (by omega) (by omega)).mono ?_
  rintro e w3 ⟨v, rfl, -, -, hU3⟩
  have HU3 := hideP (hU2.trans hU3 (fun _ _ h => h))
  clear hU3 hU2 e0 e1 e2 e3 e4 e5 e6 e7 e8
  go_wp2_with fail
  try go_ret
  exact HP.out _ _ HU3.out
end Go.Proofs.Ytlaofcgllchedaa
