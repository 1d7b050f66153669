/-
  NodeG, put together.
-/
import Derived.Test.YtlaofcgllchedaaZ06NameX

/-
  The walk of printer.node, every kind. Printed by gen_node.py.
-/
namespace Go.Proofs.Ytlaofcgllchedaa
open Go.RowKit
set_option linter.unusedVariables false

/-- what node's answer says: of a group only how many Subs and ranges, if it may be -/
def NodePost (t : Tree) (r : Bool) : Prop := (t.kind ≠ 7 → r = nodeB t) ∧ (t.kind = 7 → r = true → t.subs.length = 1 ∧ t.rs.length = 0)
def NodeAns (t : Tree) (w : World) (e : Ending) (w' : World) : Prop := ∃ r, e = .returned (.bool r) ∧ NodePost t r ∧ Upd Nob w w'
theorem np_of {t : Tree} {r : Bool} (hk : t.kind ≠ 7) (h : nodeB t = r) : NodePost t r := ⟨fun _ => h.symm, fun h7 => absurd h7 hk⟩
theorem np_no {t : Tree} (hk : t.kind = 7) : NodePost t false := ⟨fun h => absurd hk h, fun _ h => by cases h⟩
theorem np_yes {t : Tree} (hk : t.kind = 7) {r : Bool} (hs : t.subs.length = 1) (hp : plainB t = true) : NodePost t r := ⟨fun h => absurd hk h, fun _ _ => ⟨hs, by
  unfold plainB at hp
  simp at hp
  simp [hp.1]⟩⟩
theorem nb1 {t : Tree} (h : t.kind = 1) : nodeB t = (plainB t && (decide (t.subs.length = 0) && (countB t && groupB t))) := by unfold nodeB; rw [if_pos h]
theorem nb2 {t : Tree} (h : t.kind = 2) : nodeB t = (decide (t.am = 0) && (decide (t.subs.length = 0) && (countB t && (groupB t && rightB t.rs)))) := by unfold nodeB; rw [if_neg (by omega), if_pos h]
theorem nb3 {t : Tree} (h : t.kind = 3) : nodeB t = (decide (t.rs.length = 0) && (decide (t.subs.length = 0) && (countB t && (groupB t && asB t.am)))) := by unfold nodeB; rw [if_neg (by omega), if_neg (by omega), if_pos h]
theorem nb4 {t : Tree} (h : t.kind = 4 ∨ t.kind = 5) : nodeB t = (plainB t && (decide (2 ≤ t.subs.length) && (countB t && groupB t))) := by unfold nodeB; rw [if_neg (by omega), if_neg (by omega), if_neg (by omega), if_pos h]
theorem nb6 {t : Tree} (h : t.kind = 6) : nodeB t = (plainB t && (decide (t.subs.length = 1) && (groupB t && (decide (0 ≤ t.mn ∧ t.mn ≤ 1000) && decide (t.mx = -1 ∨ t.mn ≤ t.mx ∧ t.mx ≤ 1000))))) := by unfold nodeB; rw [if_neg (by omega), if_neg (by omega), if_neg (by omega), if_neg (by omega), if_pos h]
theorem nb0 {t : Tree} (h : ¬ (1 ≤ t.kind ∧ t.kind ≤ 6)) : nodeB t = false := by unfold nodeB; rw [if_neg (by omega), if_neg (by omega), if_neg (by omega), if_neg (by omega), if_neg (by omega)]

set_option maxRecDepth 100000 in
set_option maxHeartbeats 8000000 in
theorem node_any (t : Tree) (w : World) (S : Nat → Prop) (cs : Array Value) (h1 : NodeR w S cs t) :
    Calls Try.prog 29 #[.agg cs] w (NodeAns t w) := by
  obtain ⟨RA, rc, SA, sc, rfl, hr1, ho, hs1⟩ := h1.top
  have C0 := Cells.new w 30 (nodeCells t RA rc SA sc)
  have hU := (Upd.refl Nob w).alloc (.cells (nodeCells t RA rc SA sc) 30)
  have HR := hideP (hr1.upd hU (fun _ _ => not_nob))
  have hnl := ho.n
  have hrn := hr1.n
  have hns := ho.s
  clear h1 hr1 hs1 ho
  unfold nodeCells at C0 hU HR
  unfold nodeCells
  generalize hPP : NodeAns t w = P
  have HP := hideP (show ∀ r w', NodePost t r → Upd Nob w w' → P (.returned (.bool r)) w' from fun r w' h1 h2 => by rw [← hPP]; exact ⟨r, rfl, h1, h2⟩)
  clear hPP
  go_enter Try.func29, Try.ntmps29
  go_upto_region 1 with fail
  generalize w.alloc (.cells #[.int .i64 t.kind, .slice RA t.rs.length rc, .int .i64 t.am, .slice SA t.subs.length sc, .int .i64 t.mn, .int .i64 t.mx, .bool t.lz, .int .i64 t.ix, .string t.nm] 30) = w2 at *
  have HU := hideP hU
  obtain ⟨e0, e1, e2, e3, e4, e5, e6, e7, e8⟩ := nine C0
  clear C0 hU
  have b1 : ∀ x : Int, ¬ x = 0 → (x == 0) = false := fun x h => by simpa using h
  have HB := hideP b1
  clear b1
  go_cut [3] (fun v3 wc => v3 = .bool (plainB t) ∧ w2 = wc)
  case first =>
    by_cases h0 : t.rs.length = 0
    · have hb : ((t.rs.length : Int) == 0) = true := by simp [h0]
      by_cases ha : t.am = 0
      · have hc : (t.am == 0) = true := by simp [ha]
        have HQ := hideP (show plainB t = true by simp [plainB, h0, ha])
        clear h0 ha
        go_wp2_with fail
        go_meet
        exact ⟨by rw [HQ.out], rfl⟩
      · have hc : (t.am == 0) = false := HB.out _ ha
        have HQ := hideP (show plainB t = false by simp [plainB, h0, ha])
        clear h0 ha
        go_wp2_with fail
        go_meet
        exact ⟨by rw [HQ.out], rfl⟩
    · have hb : ((t.rs.length : Int) == 0) = false := HB.out _ (by omega)
      have HQ := hideP (show plainB t = false by simp [plainB, h0])
      clear h0
      go_wp2_with fail
      go_meet
      exact ⟨by rw [HQ.out], rfl⟩
  case rest =>
  obtain ⟨rfl, rfl⟩ := hcut
  go_upto_region 2 with fail
  go_cut [4] (fun v4 wc => v4 = .bool (countB t) ∧ w2 = wc)
  case first =>
    by_cases h0 : t.mn = 0
    · have c_h0 : (t.mn == 0) = true := by simp [h0]
      by_cases h1 : t.mx = 0
      · have c_h1 : (t.mx == 0) = true := by simp [h1]
        have HQ := hideP (show countB t = !t.lz by simp [countB, h0, h1])
        clear h0 h1
        go_wp2_with fail
        go_meet
        exact ⟨by rw [HQ.out], rfl⟩
      · have c_h1 : (t.mx == 0) = false := HB.out _ h1
        have HQ := hideP (show countB t = false by simp [countB, h0, h1])
        clear h0 h1
        go_wp2_with fail
        go_meet
        exact ⟨by rw [HQ.out], rfl⟩
    · have c_h0 : (t.mn == 0) = false := HB.out _ h0
      have HQ := hideP (show countB t = false by simp [countB, h0])
      clear h0
      go_wp2_with fail
      go_meet
      exact ⟨by rw [HQ.out], rfl⟩
  case rest =>
  obtain ⟨rfl, rfl⟩ := hcut
  go_upto_region 3 with fail
  go_cut [5] (fun v5 wc => v5 = .bool (groupB t) ∧ w2 = wc)
  case first =>
    by_cases h0 : t.ix = 0
    · have c_h0 : (t.ix == 0) = true := by simp [h0]
      have HQ := hideP (show groupB t = t.nm.toList.isEmpty by simp [groupB, h0])
      clear h0
      go_wp2_with fail
      go_meet
      exact ⟨by rw [HQ.out], rfl⟩
    · have c_h0 : (t.ix == 0) = false := HB.out _ h0
      have HQ := hideP (show groupB t = false by simp [groupB, h0])
      clear h0
      go_wp2_with fail
      go_meet
      exact ⟨by rw [HQ.out], rfl⟩
  case rest =>
  obtain ⟨rfl, rfl⟩ := hcut
  go_upto_region 4 with fail
  have HE := hideP (show ∀ x y : Int, ¬ x = y → (x == y) = false from fun x y h => by simpa using h)
  by_cases hk : t.kind = 1
  · skip
    have k1 : (t.kind == 1) = true := by rw [hk]; rfl
    by_cases h0 : plainB t = true
    · skip
      by_cases h1 : t.subs.length = 0
      · have ch1 : ((t.subs.length : Int) == 0) = true := by simp [h1]
        by_cases h2 : countB t = true
        · skip
          by_cases h3 : groupB t = true
          · skip
            have HQ := hideP (show NodePost t true from np_of (by omega) (by rw [nb1 hk]; simp [h0, h1, h2, h3]))
            clear hk h1
            go_wp2_with fail
            try go_ret
            exact HP.out _ _ HQ.out HU.out
          · replace h3 : groupB t = false := by simpa using h3
            have HQ := hideP (show NodePost t false from np_of (by omega) (by rw [nb1 hk]; simp [h0, h1, h2, h3]))
            clear hk h1
            go_wp2_with fail
            try go_ret
            exact HP.out _ _ HQ.out HU.out
        · replace h2 : countB t = false := by simpa using h2
          have HQ := hideP (show NodePost t false from np_of (by omega) (by rw [nb1 hk]; simp [h0, h1, h2]))
          clear hk h1
          go_wp2_with fail
          try go_ret
          exact HP.out _ _ HQ.out HU.out
      · have ch1 : ((t.subs.length : Int) == 0) = false := HE.out _ _ (by omega)
        have HQ := hideP (show NodePost t false from np_of (by omega) (by rw [nb1 hk]; simp [h0, h1]))
        clear hk h1
        go_wp2_with fail
        try go_ret
        exact HP.out _ _ HQ.out HU.out
    · replace h0 : plainB t = false := by simpa using h0
      have HQ := hideP (show NodePost t false from np_of (by omega) (by rw [nb1 hk]; simp [h0]))
      clear hk 
      go_wp2_with fail
      try go_ret
      exact HP.out _ _ HQ.out HU.out
  have n1 := hk
  clear hk
  by_cases hk : t.kind = 2
  · skip
    have k1 : (t.kind == 1) = false := by rw [hk]; rfl
    have k2 : (t.kind == 2) = true := by rw [hk]; rfl
    by_cases h0 : t.am = 0
    · have ch0 : (t.am == 0) = true := by simp [h0]
      by_cases h1 : t.subs.length = 0
      · have ch1 : ((t.subs.length : Int) == 0) = true := by simp [h1]
        by_cases h2 : countB t = true
        · skip
          by_cases h3 : groupB t = true
          · skip
            have HQ := hideP (show NodePost t (rightB t.rs) from np_of (by omega) (by rw [nb2 hk]; simp [h0, h1, h2, h3]))
            clear hk h0 h1
            go_wp2_with (go_at_call 44; refine (right_any _ _ _ _ _ _ HR.out).mono ?_; rintro e w3 ⟨rfl, hU3⟩; have HU3 := hideP (HU.out.trans hU3 (fun _ _ h => h)); clear hU3)
            try go_ret
            exact HP.out _ _ HQ.out HU3.out
          · replace h3 : groupB t = false := by simpa using h3
            have HQ := hideP (show NodePost t false from np_of (by omega) (by rw [nb2 hk]; simp [h0, h1, h2, h3]))
            clear hk h0 h1
            go_wp2_with fail
            try go_ret
            exact HP.out _ _ HQ.out HU.out
        · replace h2 : countB t = false := by simpa using h2
          have HQ := hideP (show NodePost t false from np_of (by omega) (by rw [nb2 hk]; simp [h0, h1, h2]))
          clear hk h0 h1
          go_wp2_with fail
          try go_ret
          exact HP.out _ _ HQ.out HU.out
      · have ch1 : ((t.subs.length : Int) == 0) = false := HE.out _ _ (by omega)
        have HQ := hideP (show NodePost t false from np_of (by omega) (by rw [nb2 hk]; simp [h0, h1]))
        clear hk h0 h1
        go_wp2_with fail
        try go_ret
        exact HP.out _ _ HQ.out HU.out
    · have ch0 : (t.am == 0) = false := HE.out _ _ (by omega)
      have HQ := hideP (show NodePost t false from np_of (by omega) (by rw [nb2 hk]; simp [h0]))
      clear hk h0
      go_wp2_with fail
      try go_ret
      exact HP.out _ _ HQ.out HU.out
  have n2 := hk
  clear hk
  by_cases hk : t.kind = 3
  · skip
    have k1 : (t.kind == 1) = false := by rw [hk]; rfl
    have k2 : (t.kind == 2) = false := by rw [hk]; rfl
    have k3 : (t.kind == 3) = true := by rw [hk]; rfl
    by_cases h0 : t.rs.length = 0
    · have ch0 : ((t.rs.length : Int) == 0) = true := by simp [h0]
      by_cases h1 : t.subs.length = 0
      · have ch1 : ((t.subs.length : Int) == 0) = true := by simp [h1]
        by_cases h2 : countB t = true
        · skip
          by_cases h3 : groupB t = true
          · skip
            have HQ := hideP (show NodePost t (asB t.am) from np_of (by omega) (by rw [nb3 hk]; simp [h0, h1, h2, h3]))
            clear hk h0 h1
            obtain ⟨v, hv⟩ : ∃ v, asB t.am = v := ⟨_, rfl⟩
            rw [hv] at HQ
            go_wp2_with (go_at_call 45; refine (assertion_any _ t.am).mono ?_; rintro e w3 ⟨⟨s, rfl, hs⟩, rfl⟩; rw [hv] at hs)
            try go_ret
            cases v
            · simpa [hs] using HP.out _ _ HQ.out HU.out
            · simpa [hs] using HP.out _ _ HQ.out HU.out
          · replace h3 : groupB t = false := by simpa using h3
            have HQ := hideP (show NodePost t false from np_of (by omega) (by rw [nb3 hk]; simp [h0, h1, h2, h3]))
            clear hk h0 h1
            go_wp2_with fail
            try go_ret
            exact HP.out _ _ HQ.out HU.out
        · replace h2 : countB t = false := by simpa using h2
          have HQ := hideP (show NodePost t false from np_of (by omega) (by rw [nb3 hk]; simp [h0, h1, h2]))
          clear hk h0 h1
          go_wp2_with fail
          try go_ret
          exact HP.out _ _ HQ.out HU.out
      · have ch1 : ((t.subs.length : Int) == 0) = false := HE.out _ _ (by omega)
        have HQ := hideP (show NodePost t false from np_of (by omega) (by rw [nb3 hk]; simp [h0, h1]))
        clear hk h0 h1
        go_wp2_with fail
        try go_ret
        exact HP.out _ _ HQ.out HU.out
    · have ch0 : ((t.rs.length : Int) == 0) = false := HE.out _ _ (by omega)
      have HQ := hideP (show NodePost t false from np_of (by omega) (by rw [nb3 hk]; simp [h0]))
      clear hk h0
      go_wp2_with fail
      try go_ret
      exact HP.out _ _ HQ.out HU.out
  have n3 := hk
  clear hk
  by_cases hk : t.kind = 4
  · skip
    have k1 : (t.kind == 1) = false := by rw [hk]; rfl
    have k2 : (t.kind == 2) = false := by rw [hk]; rfl
    have k3 : (t.kind == 3) = false := by rw [hk]; rfl
    have k4 : (t.kind == 4) = true := by rw [hk]; rfl
    by_cases h0 : plainB t = true
    · skip
      by_cases h1 : 2 ≤ t.subs.length
      · have ch1 : (2 : Int) ≤ (t.subs.length : Int) := by omega
        by_cases h2 : countB t = true
        · skip
          by_cases h3 : groupB t = true
          · skip
            have HQ := hideP (show NodePost t true from np_of (by omega) (by rw [nb4 (by omega)]; simp [h0, h1, h2, h3]))
            clear hk h1
            go_wp2_with fail
            try go_ret
            exact HP.out _ _ HQ.out HU.out
          · replace h3 : groupB t = false := by simpa using h3
            have HQ := hideP (show NodePost t false from np_of (by omega) (by rw [nb4 (by omega)]; simp [h0, h1, h2, h3]))
            clear hk h1
            go_wp2_with fail
            try go_ret
            exact HP.out _ _ HQ.out HU.out
        · replace h2 : countB t = false := by simpa using h2
          have HQ := hideP (show NodePost t false from np_of (by omega) (by rw [nb4 (by omega)]; simp [h0, h1, h2]))
          clear hk h1
          go_wp2_with fail
          try go_ret
          exact HP.out _ _ HQ.out HU.out
      · have ch1 : ¬ (2 : Int) ≤ (t.subs.length : Int) := by omega
        have HQ := hideP (show NodePost t false from np_of (by omega) (by rw [nb4 (by omega)]; simp [h0, h1]))
        clear hk h1
        go_wp2_with fail
        try go_ret
        exact HP.out _ _ HQ.out HU.out
    · replace h0 : plainB t = false := by simpa using h0
      have HQ := hideP (show NodePost t false from np_of (by omega) (by rw [nb4 (by omega)]; simp [h0]))
      clear hk 
      go_wp2_with fail
      try go_ret
      exact HP.out _ _ HQ.out HU.out
  have n4 := hk
  clear hk
  by_cases hk : t.kind = 5
  · skip
    have k1 : (t.kind == 1) = false := by rw [hk]; rfl
    have k2 : (t.kind == 2) = false := by rw [hk]; rfl
    have k3 : (t.kind == 3) = false := by rw [hk]; rfl
    have k4 : (t.kind == 4) = false := by rw [hk]; rfl
    have k5 : (t.kind == 5) = true := by rw [hk]; rfl
    by_cases h0 : plainB t = true
    · skip
      by_cases h1 : 2 ≤ t.subs.length
      · have ch1 : (2 : Int) ≤ (t.subs.length : Int) := by omega
        by_cases h2 : countB t = true
        · skip
          by_cases h3 : groupB t = true
          · skip
            have HQ := hideP (show NodePost t true from np_of (by omega) (by rw [nb4 (by omega)]; simp [h0, h1, h2, h3]))
            clear hk h1
            go_wp2_with fail
            try go_ret
            exact HP.out _ _ HQ.out HU.out
          · replace h3 : groupB t = false := by simpa using h3
            have HQ := hideP (show NodePost t false from np_of (by omega) (by rw [nb4 (by omega)]; simp [h0, h1, h2, h3]))
            clear hk h1
            go_wp2_with fail
            try go_ret
            exact HP.out _ _ HQ.out HU.out
        · replace h2 : countB t = false := by simpa using h2
          have HQ := hideP (show NodePost t false from np_of (by omega) (by rw [nb4 (by omega)]; simp [h0, h1, h2]))
          clear hk h1
          go_wp2_with fail
          try go_ret
          exact HP.out _ _ HQ.out HU.out
      · have ch1 : ¬ (2 : Int) ≤ (t.subs.length : Int) := by omega
        have HQ := hideP (show NodePost t false from np_of (by omega) (by rw [nb4 (by omega)]; simp [h0, h1]))
        clear hk h1
        go_wp2_with fail
        try go_ret
        exact HP.out _ _ HQ.out HU.out
    · replace h0 : plainB t = false := by simpa using h0
      have HQ := hideP (show NodePost t false from np_of (by omega) (by rw [nb4 (by omega)]; simp [h0]))
      clear hk 
      go_wp2_with fail
      try go_ret
      exact HP.out _ _ HQ.out HU.out
  have n5 := hk
  clear hk
  by_cases hk : t.kind = 6
  · skip
    have k1 : (t.kind == 1) = false := by rw [hk]; rfl
    have k2 : (t.kind == 2) = false := by rw [hk]; rfl
    have k3 : (t.kind == 3) = false := by rw [hk]; rfl
    have k4 : (t.kind == 4) = false := by rw [hk]; rfl
    have k5 : (t.kind == 5) = false := by rw [hk]; rfl
    have k6 : (t.kind == 6) = true := by rw [hk]; rfl
    by_cases h0 : plainB t = true
    · skip
      by_cases h1 : t.subs.length = 1
      · have ch1 : ((t.subs.length : Int) == 1) = true := by simp [h1]
        by_cases h2 : groupB t = true
        · skip
          by_cases h3 : 0 ≤ t.mn
          · have ch3 : (0 : Int) ≤ t.mn := by omega
            by_cases h4 : t.mn ≤ 1000
            · have ch4 : t.mn ≤ (1000 : Int) := by omega
              by_cases g1 : t.mx = -1
              · have cg1 : (t.mx == -1) = true := by simp [g1]
                have HQ := hideP (show NodePost t true from np_of (by omega) (by rw [nb6 hk]; simp [h0, h1, h2, h3, h4, g1]))
                clear hk h1 h3 h4 g1
                go_wp2_with fail
                try go_ret
                exact HP.out _ _ HQ.out HU.out
              · have cg1 : (t.mx == -1) = false := HE.out _ _ g1
                by_cases g2 : t.mn ≤ t.mx
                · by_cases g3 : t.mx ≤ 1000
                  · skip
                    have HQ := hideP (show NodePost t true from np_of (by omega) (by rw [nb6 hk]; simp [h0, h1, h2, h3, h4, g1, g2, g3]))
                    clear hk 
                    go_wp2_with fail
                    try go_ret
                    exact HP.out _ _ HQ.out HU.out
                  · skip
                    have HQ := hideP (show NodePost t false from np_of (by omega) (by rw [nb6 hk]; simp [h0, h1, h2, h3, h4, g1, g2, g3]; try omega))
                    clear hk 
                    go_wp2_with fail
                    try go_ret
                    exact HP.out _ _ HQ.out HU.out
                · skip
                  have HQ := hideP (show NodePost t false from np_of (by omega) (by rw [nb6 hk]; simp [h0, h1, h2, h3, h4, g1, g2]; try omega))
                  clear hk 
                  go_wp2_with fail
                  try go_ret
                  exact HP.out _ _ HQ.out HU.out
            · have ch4 : ¬ t.mn ≤ (1000 : Int) := by omega
              have HQ := hideP (show NodePost t false from np_of (by omega) (by rw [nb6 hk]; simp [h0, h1, h2, h3, h4]))
              clear hk h1 h3 h4
              go_wp2_with fail
              try go_ret
              exact HP.out _ _ HQ.out HU.out
          · have ch3 : ¬ (0 : Int) ≤ t.mn := by omega
            have HQ := hideP (show NodePost t false from np_of (by omega) (by rw [nb6 hk]; simp [h0, h1, h2, h3]))
            clear hk h1 h3
            go_wp2_with fail
            try go_ret
            exact HP.out _ _ HQ.out HU.out
        · replace h2 : groupB t = false := by simpa using h2
          have HQ := hideP (show NodePost t false from np_of (by omega) (by rw [nb6 hk]; simp [h0, h1, h2]))
          clear hk h1
          go_wp2_with fail
          try go_ret
          exact HP.out _ _ HQ.out HU.out
      · have ch1 : ((t.subs.length : Int) == 1) = false := HE.out _ _ (by omega)
        have HQ := hideP (show NodePost t false from np_of (by omega) (by rw [nb6 hk]; simp [h0, h1]))
        clear hk h1
        go_wp2_with fail
        try go_ret
        exact HP.out _ _ HQ.out HU.out
    · replace h0 : plainB t = false := by simpa using h0
      have HQ := hideP (show NodePost t false from np_of (by omega) (by rw [nb6 hk]; simp [h0]))
      clear hk 
      go_wp2_with fail
      try go_ret
      exact HP.out _ _ HQ.out HU.out
  have n6 := hk
  clear hk
  by_cases hk : t.kind = 7
  · skip
    have k1 : (t.kind == 1) = false := by rw [hk]; rfl
    have k2 : (t.kind == 2) = false := by rw [hk]; rfl
    have k3 : (t.kind == 3) = false := by rw [hk]; rfl
    have k4 : (t.kind == 4) = false := by rw [hk]; rfl
    have k5 : (t.kind == 5) = false := by rw [hk]; rfl
    have k6 : (t.kind == 6) = false := by rw [hk]; rfl
    have k7 : (t.kind == 7) = true := by rw [hk]; rfl
    by_cases h0 : plainB t = true
    · skip
      by_cases h1 : t.subs.length = 1
      · have ch1 : ((t.subs.length : Int) == 1) = true := by simp [h1]
        by_cases h2 : countB t = true
        · skip
          by_cases h3 : 1 ≤ t.ix
          · have ch3 : (1 : Int) ≤ t.ix := by omega
            by_cases h4 : t.ix ≤ 500
            · have ch4 : t.ix ≤ (500 : Int) := by omega
              have HQ := hideP (show ∀ r, NodePost t r from fun r => np_yes hk h1 h0)
              clear hk h1 h3 h4
              rcases hem : t.nm.toList.isEmpty with _ | _
              · go_wp2_with (go_at_call 46; refine (name_any _ t.nm hns).mono ?_; rintro e w3 ⟨⟨v, rfl⟩, rfl⟩)
                try go_ret
                exact HP.out _ _ (HQ.out _) HU.out
              · go_wp2_with fail
                try go_ret
                exact HP.out _ _ (HQ.out _) HU.out
            · have ch4 : ¬ t.ix ≤ (500 : Int) := by omega
              have HQ := hideP (show NodePost t false from np_no hk)
              clear hk h1 h3 h4
              go_wp2_with fail
              try go_ret
              exact HP.out _ _ HQ.out HU.out
          · have ch3 : ¬ (1 : Int) ≤ t.ix := by omega
            have HQ := hideP (show NodePost t false from np_no hk)
            clear hk h1 h3
            go_wp2_with fail
            try go_ret
            exact HP.out _ _ HQ.out HU.out
        · replace h2 : countB t = false := by simpa using h2
          have HQ := hideP (show NodePost t false from np_no hk)
          clear hk h1
          go_wp2_with fail
          try go_ret
          exact HP.out _ _ HQ.out HU.out
      · have ch1 : ((t.subs.length : Int) == 1) = false := HE.out _ _ (by omega)
        have HQ := hideP (show NodePost t false from np_no hk)
        clear hk h1
        go_wp2_with fail
        try go_ret
        exact HP.out _ _ HQ.out HU.out
    · replace h0 : plainB t = false := by simpa using h0
      have HQ := hideP (show NodePost t false from np_no hk)
      clear hk 
      go_wp2_with fail
      try go_ret
      exact HP.out _ _ HQ.out HU.out
  have n7 := hk
  clear hk
  have HQ := hideP (show NodePost t false from np_of n7 (nb0 (by omega)))
  have k1 := HE.out _ _ n1
  have k2 := HE.out _ _ n2
  have k3 := HE.out _ _ n3
  have k4 := HE.out _ _ n4
  have k5 := HE.out _ _ n5
  have k6 := HE.out _ _ n6
  have k7 := HE.out _ _ n7
  clear n1 n2 n3 n4 n5 n6 n7
  go_wp2_with fail
  try go_ret
  exact HP.out _ _ HQ.out HU.out
end Go.Proofs.Ytlaofcgllchedaa
