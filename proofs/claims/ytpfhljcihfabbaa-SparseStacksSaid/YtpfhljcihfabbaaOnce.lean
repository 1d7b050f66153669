/-
  heronlaw03.SparseOnce: the walk of the law.
-/
import Derived.Test.YtpfhljcihfabbaaAwake
import Derived.Deep.LoopGhost
import Derived.Deep.DeepCutAuto
namespace Go.Proofs.Ytpfhljcihfabbaa
open Go.RowKit
set_option linter.unusedVariables false

theorem bound_le (n : Int) : bound n ≤ 1048576 := by unfold bound; omega
theorem lt_bound {n : Int} {i : Nat} (h : i < bound n) : (i : Int) < n := by unfold bound at h; omega

/-- the blocks of a set -/
def SF (b g : Nat) (A : Option Addr) (n c : Nat) : Nat → Prop := fun k => k = b ∨ k = g ∨ (Value.slice A n c).ownBlock = some k
theorem SetR.fp_lt {w : World} {base b g N : Nat} {A : Option Addr} {c : Nat} {ats L : List Nat} (h : SetR w base b g N A c ats L) {k : Nat} (hk : SF b g A L.length c k) : base ≤ k ∧ k < w.heap.size := by
  rcases hk with rfl | rfl | hk
  · exact ⟨h.low, h.blk.lt⟩
  · exact h.at_.lt _ rfl
  · exact h.own.lt _ hk
theorem SetR.lower {w : World} {base base' b g N : Nat} {A : Option Addr} {c : Nat} {ats L : List Nat} (h : SetR w base b g N A c ats L) (hb : base' ≤ base) : SetR w base' b g N A c ats L :=
  ⟨h.blk, own_base h.own (fun k hk => Nat.le_trans hb (h.own.lt k hk).1), own_base h.at_ (fun k hk => Nat.le_trans hb (h.at_.lt k hk).1), h.apart, Nat.le_trans hb h.low, h.ok⟩
theorem SetP.both {w w' : World} {base b g N : Nat} {A : Option Addr} {n c : Nat} {ats L : List Nat} (h : SetP w w' base b g N A n c ats L) :
    ∃ A' c', SetR w' base b g N A' c' ats L ∧ ∀ k, SF b g A' L.length c' k → SF b g A n c k ∨ w.heap.size ≤ k := by
  obtain ⟨A', c', h1, h2⟩ := h.ex
  refine ⟨A', c', h1, fun k hk => ?_⟩
  rcases hk with rfl | rfl | hk
  · exact .inl (.inl rfl)
  · exact .inl (.inr (.inl rfl))
  · rcases h2 with h2 | ⟨j, h2, hj⟩
    · exact .inl (.inr (.inr (h2 ▸ hk)))
    · rw [h2] at hk; injection hk with hk; subst hk; exact .inr hj
theorem SetR.keep {F : Nat → Prop} {w w' : World} {base b g N : Nat} {A : Option Addr} {c : Nat} {ats L : List Nat} (h : SetR w base b g N A c ats L) (hU : Upd F w w') (hF : ∀ k, SF b g A L.length c k → ¬ F k) : SetR w' base b g N A c ats L :=
  h.upd hU (hF b (.inl rfl)) (hF g (.inr (.inl rfl))) (fun k hk => hF k (.inr (.inr hk)))

/-- two sets that hold L, and a list of the law's own, V; no block is two's. -/
structure Once (w wr : World) (b g : Nat) (A : Option Addr) (c : Nat) (ats L : List Nat) (b' g' : Nat) (A' : Option Addr) (c' : Nat) (ats' L' : List Nat) (N : Nat) (B : Option Addr) (d : Nat) (V : List Int) : Prop where
  s : SetR wr w.heap.size b g N A c ats L
  u : SetR wr w.heap.size b' g' N A' c' ats' L'
  l : wr.ownsRow w.heap.size 3 1 (.slice B V.length d) V.length (intv V)
  su : ∀ k, SF b g A L.length c k → ¬ SF b' g' A' L'.length c' k
  sl : ∀ k, SF b g A L.length c k → (Value.slice B V.length d).ownBlock ≠ some k
  ul : ∀ k, SF b' g' A' L'.length c' k → (Value.slice B V.length d).ownBlock ≠ some k
  upd : Upd Nob w wr

section
variable {w wr w1 : World} {b g b' g' N c c' d : Nat} {A A' B : Option Addr} {ats L ats' L' ats2 L2 : List Nat} {V : List Int}
/-- a call on the first set -/
theorem Once.first (h : Once w wr b g A c ats L b' g' A' c' ats' L' N B d V) (hP : SetP wr w1 w.heap.size b g N A L.length c ats2 L2) :
    ∃ A2 c2, Once w w1 b g A2 c2 ats2 L2 b' g' A' c' ats' L' N B d V := by
  obtain ⟨A2, c2, hR, hF⟩ := hP.both
  have hU := hP.upd
  refine ⟨A2, c2, hR, h.u.keep hU (fun k hk hk' => h.su k hk' hk), own_upd h.l hU (fun k hk hk' => h.sl k hk' hk), fun k hk hk' => ?_, fun k hk hk' => ?_, fun k hk hk' => h.ul k hk hk', hP.nob h.s rfl h.upd (Nat.le_refl _)⟩
  · rcases hF k hk with h1 | h1
    · exact h.su k h1 hk'
    · have := (h.u.fp_lt hk').2; omega
  · rcases hF k hk with h1 | h1
    · exact h.sl k h1 hk'
    · have := (h.l.lt k hk').2; omega
/-- a call on the second -/
theorem Once.second (h : Once w wr b g A c ats L b' g' A' c' ats' L' N B d V) (hP : SetP wr w1 w.heap.size b' g' N A' L'.length c' ats2 L2) :
    ∃ A2 c2, Once w w1 b g A c ats L b' g' A2 c2 ats2 L2 N B d V := by
  obtain ⟨A2, c2, hR, hF⟩ := hP.both
  have hU := hP.upd
  refine ⟨A2, c2, h.s.keep hU (fun k hk hk' => h.su k hk hk'), hR, own_upd h.l hU (fun k hk hk' => h.ul k hk' hk), fun k hk hk' => ?_, fun k hk hk' => h.sl k hk hk', fun k hk hk' => ?_, hP.nob h.u rfl h.upd (Nat.le_refl _)⟩
  · rcases hF k hk' with h1 | h1
    · exact h.su k hk h1
    · have := (h.s.fp_lt hk).2; omega
  · rcases hF k hk with h1 | h1
    · exact h.ul k h1 hk'
    · have := (h.l.lt k hk').2; omega
/-- an append to the list -/
theorem Once.app {w5 : World} {v' : Value} {x : Int} (h : Once w wr b g A c ats L b' g' A' c' ats' L' N B d V) (o : Obj)
    (hown : w5.ownsRow w.heap.size 3 1 v' (V.length + 1) (intv V ++ [.int .i64 x])) (hg : (wr.alloc o).grownBy w5 (Value.slice B V.length d).ownBlock)
    (hat : v'.ownBlock = (Value.slice B V.length d).ownBlock ∨ v'.ownBlock = some (wr.heap.size + 1)) :
    ∃ B2 d2, v' = .slice B2 (V.length + 1) d2 ∧ Once w w5 b g A c ats L b' g' A' c' ats' L' N B2 d2 (V ++ [x]) := by
  obtain ⟨B2, d2, rfl⟩ := own_shape hown
  have hV : (V ++ [x]).length = V.length + 1 := by simp
  have hU : Upd (fun k => (Value.slice B V.length d).ownBlock = some k) wr w5 := ((Upd.refl _ _).alloc _).grown hg (fun k hk _ => hk)
  refine ⟨B2, d2, rfl, h.s.keep hU (fun k hk hk' => h.sl k hk hk'), h.u.keep hU (fun k hk hk' => h.ul k hk hk'), by rw [hV, intv_append]; exact hown, h.su, fun k hk hk' => ?_, fun k hk hk' => ?_, ?_⟩
  · rw [hV] at hk'
    rcases hat with e | e
    · exact h.sl k hk (e ▸ hk')
    · rw [e] at hk'; injection hk' with hk'; have := (h.s.fp_lt hk).2; omega
  · rw [hV] at hk'
    rcases hat with e | e
    · exact h.ul k hk (e ▸ hk')
    · rw [e] at hk'; injection hk' with hk'; have := (h.u.fp_lt hk).2; omega
  · refine h.upd.trans hU (fun k hk hk' => ?_)
    have := (h.l.lt k hk').1; omega
end

/-- may it be added? -/
def newB (N : Nat) (L : List Nat) (x : Int) : Bool := decide (0 ≤ x ∧ x < N ∧ x.toNat ∉ L)

/-- Add, whatever the number: the set behind it. -/
def after (N : Nat) (ats L : List Nat) (x : Int) : List Nat × List Nat := if newB N L x = true then (ats.set x.toNat L.length, L ++ [x.toNat]) else (ats, L)
theorem SetP.refl {w : World} {base b g N : Nat} {A : Option Addr} {c : Nat} {ats L : List Nat} (h : SetR w base b g N A c ats L) : SetP w w base b g N A L.length c ats L := ⟨⟨A, c, h, .inl rfl⟩, Upd.refl _ _⟩

theorem add_any (w : World) (base b g N : Nat) (A : Option Addr) (c : Nat) (ats L : List Nat) (x : Int) (h : SetR w base b g N A c ats L) (hx : In64 x) (hN : N ≤ 1048576) (hbase : base ≤ w.heap.size) :
    Calls Try.prog 27 #[.pointer (some ⟨b, 0, none⟩), .int .i64 x] w fun e w' => e = .returned (.bool (newB N L x)) ∧ SetP w w' base b g N A L.length c (after N ats L x).1 (after N ats L x).2 := by
  by_cases hn : newB N L x = true
  · have hh : 0 ≤ x ∧ x < N ∧ x.toNat ∉ L := by simpa [newB] using hn
    obtain ⟨i, rfl⟩ := Int.eq_ofNat_of_zero_le hh.1
    refine (add_yes w base b g N A c ats L i h hN (by omega) (by simpa using hh.2.2) hbase).mono ?_
    rintro e w' ⟨rfl, hP⟩
    unfold after
    rw [if_pos hn, hn]
    exact ⟨rfl, by simpa using hP⟩
  · refine (add_no w base b g N A c ats L x h hx.1 hx.2 hN ?_).mono ?_
    · by_cases h0 : x < 0
      · exact .inl h0
      by_cases h1 : (N : Int) ≤ x
      · exact .inr (.inl h1)
      · refine .inr (.inr ?_)
        simp only [newB, decide_eq_true_eq] at hn
        simp only [hasB, decide_eq_true_eq]
        refine ⟨by omega, ?_⟩
        exact Classical.byContradiction fun hc => hn ⟨by omega, by omega, hc⟩
    · rintro e w' ⟨rfl, rfl⟩
      unfold after
      rw [if_neg hn]
      have : newB N L x = false := by simpa using hn
      rw [this]
      exact ⟨rfl, SetP.refl h⟩

set_option maxRecDepth 100000 in
set_option maxHeartbeats 4000000 in
theorem once_any (w : World) (n0 : Int) (A B : Option Addr) (n c m d : Nat) (xs ys : List Int) (hn0 : In64 n0) (hx : Reads w (· < w.heap.size) 1 A n (intv xs)) (hy : Reads w (· < w.heap.size) 1 B m (intv ys))
    (hxi : ∀ x ∈ xs, In64 x) (hyi : ∀ x ∈ ys, In64 x) (hn : n * 8 ≤ 140737488351232) (hm : m * 8 ≤ 140737488351232) :
    Calls Try.prog 5 #[.int .i64 n0, .slice A n c, .slice B m d] w fun e w' => e = .returned (.bool true) ∧ Upd Nob w w' := by
  obtain ⟨i0, hi0, hz0, hz1, hz2⟩ := info_parts info_int
  have hN := bound_le n0
  go_enter Try.func5, Try.ntmps5
  go_wp2_with fail
  refine (awake_any w).mono ?_
  rintro e w1 ⟨rfl, hU1⟩
  go_wp2_with fail
  refine (new_any w1 n0 hn0.1 hn0.2).mono ?_
  rintro e w2 ⟨b, g, rfl, hg2, hb2, hS2, hU2⟩
  go_wp2_with fail
  refine (new_any w2 n0 hn0.1 hn0.2).mono ?_
  rintro e w3 ⟨b', g', rfl, hg3, hb3, hS3, hU3⟩
  have h3 : Once w w3 b g none 0 (List.replicate (bound n0) 0) [] b' g' none 0 (List.replicate (bound n0) 0) [] (bound n0) none 0 [] := by
    refine ⟨(hS2.lower hU1.size).keep hU3 (fun _ _ => not_nob), hS3.lower (Nat.le_trans hU1.size hU2.size), ⟨by simp [intv], .inl ⟨rfl, rfl⟩⟩, fun k hk hk' => ?_, by simp [Value.ownBlock], by simp [Value.ownBlock], (hU1.trans hU2 (fun _ _ h => h)).trans hU3 (fun _ _ h => h)⟩
    have h1 := (hS2.fp_lt hk).2
    have h2 := (hS3.fp_lt hk').1
    omega
  clear hS2 hS3 hU1 hU2 hU3 hg2 hb2 hg3 hb3
  go_wp2_with fail
  go_loopg [10] n (fun gk v10 wr => ∃ (k : Nat) (A1 : Option Addr) (c1 : Nat) (ats1 L1 : List Nat), k + gk = n ∧ v10 = .int .i64 (k : Int) ∧ Once w wr b g A1 c1 ats1 L1 b' g' none 0 (List.replicate (bound n0) 0) [] (bound n0) none 0 [])
  case atStart => exact ⟨0, _, _, _, _, by omega, rfl, h3⟩
  case round =>
    clear h3
    obtain ⟨k, A1, c1, ats1, L1, hk, rfl, h⟩ := hrel
    by_cases hlt : k < n
    · obtain ⟨ad, x, rfl, hxk, hcu⟩ := (hx.upd h.upd (fun _ _ => not_nob)).int1 hlt
      have H1 := hide hx
      have H2 := hide hy
      have hxx := hxi x (List.mem_of_getElem? hxk)
      clear hx hy hxk
      go_wp2_with (go_at_call 27; refine (add_any wr _ b g _ A1 c1 ats1 L1 x h.s hxx hN h.upd.size).mono ?_; rintro e w4 ⟨rfl, hP⟩)
      obtain ⟨A2, c2, h4⟩ := h.first hP
      clear hP h
      go_roundg (n - (k + 1))
      case measure => omega
      case rel => exact ⟨k + 1, A2, c2, _, _, by omega, by go_num, h4⟩
    · have hkn : k = n := by omega
      clear hk hx hxi
      subst hkn
      go_wp2_with fail
      refine (setClear_any wr _ b g _ A1 c1 ats1 L1 h.s).mono ?_
      rintro e w4 ⟨rfl, hP⟩
      obtain ⟨A2, c2, h4⟩ := h.first hP
      clear hP h
      go_wp2_with fail
      go_loopg [11, 12] m (fun gk v11 v12 wi => ∃ (j : Nat) (A1 : Option Addr) (c1 : Nat) (ats1 : List Nat) (A3 : Option Addr) (c3 : Nat) (ats3 L : List Nat) (A5 : Option Addr) (c5 : Nat), j + gk = m ∧ L.length ≤ j ∧ v12 = .int .i64 (j : Int) ∧ v11 = .slice A5 L.length c5 ∧
        Once w wi b g A1 c1 ats1 L b' g' A3 c3 ats3 L (bound n0) A5 c5 (L.map Int.ofNat))
      case atStart => exact ⟨0, _, _, _, _, _, _, [], _, _, by omega, by simp, rfl, rfl, h4⟩
      case round =>
        clear h4
        obtain ⟨j, A1, c1, ats1, A3, c3, ats3, L, A5, c5, hj, hLj, rfl, rfl, h⟩ := hrel
        by_cases hjm : j < m
        · obtain ⟨ad, x, rfl, hxj, _⟩ := hy.int1 hjm
          have hcell : ∀ W, Upd Nob w W → W.cell? (ad.add j) = some (.int .i64 x) := by
            intro W hW
            obtain ⟨ad', x', e1, e2, h2⟩ := (hy.upd hW (fun _ _ => not_nob)).int1 hjm
            injection e1 with e1
            rw [hxj] at e2
            injection e2 with e2
            subst e1; subst e2
            exact h2
          have hxx := hyi x (List.mem_of_getElem? hxj)
          have HC := hide hcell
          have HY := hide hy
          have hc0 := hcell wr h.upd
          clear hcell hy hxj
          have hx1 := hxx.1
          have hx2 := hxx.2
          by_cases hnew : newB (bound n0) L x = true
          · have hh : 0 ≤ x ∧ x < (bound n0 : Nat) ∧ x.toNat ∉ L := by simpa [newB] using hnew
            have hb0 : hasB L x = false := by
              unfold hasB
              simp [hh.2.2]
            have hb1 : hasB (L ++ [x.toNat]) x = true := by
              unfold hasB
              simp [hh.1]
            have ha : after (bound n0) ats1 L x = (ats1.set x.toNat L.length, L ++ [x.toNat]) := by unfold after; rw [if_pos hnew]
            have ha' : after (bound n0) ats3 L x = (ats3.set x.toNat L.length, L ++ [x.toNat]) := by unfold after; rw [if_pos hnew]
            have hlt : ¬ n0 ≤ x := by
              have := @lt_bound n0 x.toNat (by omega)
              omega
            have hlt0 : ¬ x < 0 := by omega
            have hxt : Int.ofNat x.toNat = x := by have := Int.toNat_of_nonneg hh.1; simpa using this
            have K0 := hide hb0
            have K1 := hide hb1
            have K2 := hide hnew
            clear hb0 hb1 hnew hh
            go_wp2_with fail
            refine (has_any wr _ b g _ A1 c1 ats1 L x h.s hxx.1 hxx.2 hN).mono ?_
            rintro e w' ⟨he, rfl⟩
            rw [K0.out] at he
            subst he
            go_wp2_with fail
            refine (add_any wr _ b g _ A1 c1 ats1 L x h.s hxx hN h.upd.size).mono ?_
            rintro e w4 ⟨he, hP⟩
            rw [K2.out] at he
            subst he
            rw [ha] at hP
            obtain ⟨A7, c7, h7⟩ := h.first hP
            have hc1 := HC.out w4 h7.upd
            clear hP h hc0 ha
            go_wp2_with fail
            refine (add_any w4 _ b' g' _ A3 c3 ats3 L x h7.u hxx hN h7.upd.size).mono ?_
            rintro e w5 ⟨he, hP⟩
            rw [K2.out] at he
            subst he
            rw [ha'] at hP
            obtain ⟨A8, c8, h8⟩ := h7.second hP
            have hc2 := HC.out w5 h8.upd
            clear hP h7 hc1 ha'
            go_wp2_with fail
            refine (has_any w5 _ b g _ A7 c7 _ _ x h8.s hxx.1 hxx.2 hN).mono ?_
            rintro e w' ⟨he, rfl⟩
            rw [K1.out] at he
            subst he
            have hown := h8.l
            have hb8 := h8.upd.size
            rw [List.length_map] at hown
            go_wp2_with (at_builtin; refine wpList_append_own_at _ rfl _ _ 22 rfl w.heap.size 3 i0 (.int .i64 0) 1 8 Try.underlying22 hi0 hz0 hz1 hz2 rfl (by decide) _ _ _ rfl (hown.alloc _) ⟨w5.heap.size, 0, none⟩ 1 1 [.int .i64 x] rfl rfl ?c1 ?c2 ?c3 ?c4 ?c5 ?_)
            case c1 =>
              intro j u hj
              match j, hj with
              | 0, hj => simp at hj; subst hj; simp [Addr.add]
            case c2 => intro u hu; simp at hu; subst hu; rfl
            case c3 => unfold maxLen; omega
            case c4 => omega
            case c5 => simp; omega
            intro v' w6 hown' hg _ hat
            obtain ⟨B2, d2, rfl, h9⟩ := h8.app (v' := v') (x := x) _ (by rw [List.length_map]; exact hown') (by rw [List.length_map]; exact hg) (by rw [List.length_map]; exact hat)
            clear hown hown' hg hat h8 hb8 hc2
            rw [List.length_map]
            have hL1 : (L ++ [x.toNat]).length = L.length + 1 := by simp
            have h9' : Once w w6 b g A7 c7 (ats1.set x.toNat L.length) (L ++ [x.toNat]) b' g' A8 c8 (ats3.set x.toNat L.length) (L ++ [x.toNat]) (bound n0) B2 d2 ((L ++ [x.toNat]).map Int.ofNat) := by
              rw [List.map_append, List.map_cons, List.map_nil, hxt]; exact h9
            clear h9 hxt
            have HL := hide hL1
            clear hL1
            go_wp2_with fail
            go_roundg (m - (j + 1))
            case measure => omega
            case rel => exact ⟨j + 1, A7, c7, _, A8, c8, _, _, B2, d2, by omega, by rw [HL.out]; omega, by go_num, by rw [HL.out], h9'⟩
          · have hnf : newB (bound n0) L x = false := by simpa using hnew
            have ha : after (bound n0) ats1 L x = (ats1, L) := by unfold after; rw [if_neg hnew]
            have ha' : after (bound n0) ats3 L x = (ats3, L) := by unfold after; rw [if_neg hnew]
            have K2 := hide hnf
            clear hnf hnew
            obtain ⟨hb, hbe⟩ : ∃ hb, hasB L x = hb := ⟨_, rfl⟩
            have K0 := hide hbe
            clear hbe
            go_wp2_with fail
            refine (has_any wr _ b g _ A1 c1 ats1 L x h.s hxx.1 hxx.2 hN).mono ?_
            rintro e w' ⟨he, rfl⟩
            rw [K0.out] at he
            subst he
            go_wp2_with fail
            refine (add_any wr _ b g _ A1 c1 ats1 L x h.s hxx hN h.upd.size).mono ?_
            rintro e w4 ⟨he, hP⟩
            rw [K2.out] at he
            subst he
            rw [ha] at hP
            obtain ⟨A7, c7, h7⟩ := h.first hP
            have hc1 := HC.out w4 h7.upd
            clear hP h hc0 ha
            go_wp2_with fail
            refine (add_any w4 _ b' g' _ A3 c3 ats3 L x h7.u hxx hN h7.upd.size).mono ?_
            rintro e w5 ⟨he, hP⟩
            rw [K2.out] at he
            subst he
            rw [ha'] at hP
            obtain ⟨A8, c8, h8⟩ := h7.second hP
            have hc2 := HC.out w5 h8.upd
            clear hP h7 hc1 ha'
            go_wp2_with fail
            refine (has_any w5 _ b g _ A7 c7 _ _ x h8.s hxx.1 hxx.2 hN).mono ?_
            rintro e w' ⟨he, rfl⟩
            rw [K0.out] at he
            subst he
            cases hb
            all_goals
              go_wp2_with fail
              go_roundg (m - (j + 1))
              case measure => omega
              case rel => exact ⟨j + 1, A7, c7, _, A8, c8, _, L, A5, c5, by omega, by omega, by go_num, rfl, h8⟩
        · have hlenL := h.s.ok.length_le
          have hiv : intv (L.map Int.ofNat) = ints L := by simp [intv, ints]
          have hs1 : sameB (L.map Int.ofNat) (L.map Int.ofNat) = true := by simp [sameB]
          have K1 := hide hs1
          have hl := h.l
          rw [List.length_map] at hl
          have hu := h.u
          have hs := h.s
          have hUw := h.upd
          clear hs1 h hy hyi
          go_wp2_with fail
          refine (list_any wr _ b g _ A1 c1 _ L hs hN).mono ?_
          rintro e w4 ⟨A7, c7, rfl, ho7, hU4⟩
          have hl4 := own_upd hl hU4 (fun _ _ => not_nob)
          have hu4 := hu.keep hU4 (fun _ _ => not_nob)
          have hs4 := hs.keep hU4 (fun _ _ => not_nob)
          have hUw4 := hUw.trans hU4 (fun _ _ h => h)
          clear hl hu hs hUw hU4
          go_wp2_with fail
          refine (list_any w4 _ b' g' _ A3 c3 _ L hu4 hN).mono ?_
          rintro e w5 ⟨A8, c8, rfl, ho8, hU5⟩
          have hl5 := own_upd hl4 hU5 (fun _ _ => not_nob)
          have hs5 := hs4.keep hU5 (fun _ _ => not_nob)
          have hr7 := (Reads.of_own ho7).upd hU5 (fun _ _ => not_nob)
          have hr8 := Reads.of_own ho8
          have hUw5 := hUw4.trans hU5 (fun _ _ h => h)
          have hr5 := Reads.of_own hl5
          rw [← hiv] at hr7 hr8
          have e0 : w5.cell? ⟨b, 0, none⟩ = some (.slice A1 L.length c1) := hs5.blk.cellv rfl
          have HI := hide hiv
          clear hiv hl4 hu4 hs4 hUw4 hU5 hl5 hs5 ho7 ho8
          go_wp2_with fail
          refine (same_any w5 _ _ A7 A5 L.length L.length c7 c5 _ _ hr7 hr5 (by omega) (by omega)).mono ?_
          rintro e w6 ⟨he, q, rfl⟩
          rw [K1.out] at he
          subst he
          go_wp2_with fail
          refine (same_any (w5.drewN q) _ _ A8 A5 L.length L.length c8 c5 _ _ (hr8.upd ((Upd.refl Nob _).drewN q) (fun _ _ => not_nob)) (hr5.upd ((Upd.refl Nob _).drewN q) (fun _ _ => not_nob)) (by omega) (by omega)).mono ?_
          rintro e w6 ⟨he, q', rfl⟩
          rw [K1.out] at he
          subst he
          go_wp2_with (go_at_call 32; refine (setLen_any _ b A1 L.length c1 (by simpa using e0)).mono ?_; rintro e w' ⟨rfl, rfl⟩)
          go_ret
          exact ⟨rfl, by simpa using hUw5.drewN (q + q')⟩
end Go.Proofs.Ytpfhljcihfabbaa
