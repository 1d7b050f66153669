/-
  The walks of sparse.Set.
-/
import Derived.Test.YtnkefclbchpafaaSpPlain
import Derived.Test.YtnkefclbchpafaaVisR
namespace Go.Proofs.Ytnkefclbchpafaa
open Go.RowKit
set_option linter.unusedVariables false


theorem own_none {w : World} {base e n size : Nat} {A : Option Addr} {c : Nat} {xs : List Value} (h : w.ownsRow base e size (.slice A n c) n xs) : w.ownsRow base e size (.slice A 0 c) 0 [] := by
  rcases h.2 with ⟨h', _⟩ | ⟨g', cap', cur, h', hb, hg, hnc, hcm, hcs, ht⟩
  · injection h' with h1 h2 h3
    subst h1; subst h3
    exact ⟨by simp, .inl ⟨rfl, rfl⟩⟩
  · injection h' with h1 h2 h3
    subst h1; subst h3
    exact ⟨by simp, .inr ⟨g', c, cur, rfl, hb, hg, Nat.zero_le _, hcm, hcs, by simp⟩⟩
def ints (L : List Nat) : List Value := L.map fun (i : Nat) => Value.int .i64 (i : Int)
theorem ints_length (L : List Nat) : (ints L).length = L.length := by simp [ints]
theorem ints_at {L : List Nat} {k i : Nat} (h : L[k]? = some i) : (ints L)[k]? = some (.int .i64 (i : Int)) := by simp [ints, h]

/-- The set at block b is for numbers below N, holds L, in this order; its blocks: b, g ('at'), the list's. -/
structure SetR (w : World) (base b g N : Nat) (A : Option Addr) (c : Nat) (ats L : List Nat) : Prop where
  blk : Cells w b 105 #[.slice A L.length c, .slice (some ⟨g, 0, none⟩) N N]
  own : w.ownsRow base 3 1 (.slice A L.length c) L.length (ints L)
  at_ : w.ownsRow base 3 1 (.slice (some ⟨g, 0, none⟩) N N) N (ints ats)
  apart : (Value.slice A L.length c).ownBlock ≠ some g
  low : base ≤ b
  ok : SetOK N ats L

theorem SetR.upd {F : Nat → Prop} {w w' : World} {base b g N : Nat} {A : Option Addr} {c : Nat} {ats L : List Nat} (h : SetR w base b g N A c ats L) (hU : Upd F w w') (hb : ¬ F b) (hg : ¬ F g) (hA : ∀ k, (Value.slice A L.length c).ownBlock = some k → ¬ F k) : SetR w' base b g N A c ats L :=
  ⟨h.blk.upd hU hb, own_upd h.own hU hA, own_upd h.at_ hU (by intro k hk; simp [Value.ownBlock] at hk; subst hk; exact hg), h.apart, h.low, h.ok⟩

theorem made_ints (n : Nat) : (madeCells #[Value.int .i64 0] n).toList = ints (List.replicate n 0) := by
  rw [toList_madeCells_one]
  simp [ints]

/-- how many numbers a set is for -/
def bound (n : Int) : Nat := min n.toNat 1048576

/-- the greatest number, kept from being counted up -/
def K20 : Nat := 1048576
def SetNewPost (w : World) (n : Int) (e : Ending) (w' : World) : Prop := ∃ b g, e = .returned (.pointer (some ⟨b, 0, none⟩)) ∧ w.heap.size ≤ g ∧ w.heap.size ≤ b ∧
      SetR w' w.heap.size b g (bound n) none 0 (List.replicate (bound n) 0) [] ∧ Upd Nob w w'

set_option maxRecDepth 100000 in
set_option maxHeartbeats 400000 in
theorem setNew_any (w : World) (n : Int) (hn1 : -9223372036854775808 ≤ n) (hn2 : n ≤ 9223372036854775807) :
    Calls Try.prog 30 #[.int .i64 n] w (SetNewPost w n) := by
  obtain ⟨i0, hi, hz0, hz1, hz2⟩ := info_parts vinfo_int
  have hmk : ∀ (W : World) (k : Int), 0 ≤ k → k ≤ 1048576 → (Instr.makeSlice 28 (.int .i64 k) (.int .i64 k)).run Try.prog W = .ok (.slice (some ⟨W.heap.size, 0, none⟩) k.toNat k.toNat) (W.alloc (.cells (madeCells #[Value.int .i64 0] k.toNat) 3)) := by
    intro W k h0 h1
    have := run_make (P := Try.prog) W 28 3 i0 _ Try.underlying28 hi hz0 .i64 .i64 k k h0 (Int.le_refl _) (by rw [hz2]; omega) (by omega)
    rw [hz1, Nat.mul_one] at this
    exact this
  have fin : ∀ (N : Nat), bound n = N → SetNewPost w n (Ending.returned (.pointer (some ⟨w.heap.size + 1, 0, none⟩))) ((w.alloc (.cells (madeCells #[Value.int .i64 0] N) 3)).alloc (.cells #[.slice none 0 0, .slice (some ⟨w.heap.size, 0, none⟩) N N] 105)) := by
    intro N hN
    unfold SetNewPost
    rw [hN]
    have hNl : N ≤ 1048576 := by rw [← hN]; unfold bound; omega
    refine ⟨w.heap.size + 1, w.heap.size, rfl, Nat.le_refl _, by omega, ⟨?_, ?_, ?_, ?_, by omega, SetOK.empty N⟩, ((Upd.refl _ _).alloc _).alloc _⟩
    · have := Cells.new (w.alloc (.cells (madeCells #[Value.int .i64 0] N) 3)) 105 #[.slice none 0 0, .slice (some ⟨w.heap.size, 0, none⟩) N N]
      simpa using this
    · exact ⟨by simp [ints], .inl ⟨rfl, rfl⟩⟩
    · have := World.ownsRow_lit (base := w.heap.size) (e := 3) (size := 1) w (madeCells #[Value.int .i64 0] N) N (Nat.le_refl _) (by unfold maxLen; omega) (by simp [size_madeCells])
      rw [made_ints] at this
      exact this.alloc _
    · simp [Value.ownBlock]
  by_cases h0 : n < 0
  · have m0 := fun W => hmk W 0 (by omega) (by omega)
    have hb : bound n = 0 := by unfold bound; omega
    clear hmk
    go_enter Try.func30, Try.ntmps30
    go_wp2
    go_ret
    exact fin 0 hb
  · by_cases h1 : 1048576 < n
    · have m0 := fun W => hmk W 1048576 (by omega) (by omega)
      have hb : bound n = 1048576 := by unfold bound; omega
      clear hmk
      go_enter Try.func30, Try.ntmps30
      go_wp2
      go_ret
      exact fin K20 hb
    · obtain ⟨N, rfl⟩ := Int.eq_ofNat_of_zero_le (by omega : 0 ≤ n)
      have m0 := fun W => hmk W (N : Int) (by omega) (by omega)
      have hb : bound (N : Int) = N := by unfold bound; omega
      clear hmk
      go_enter Try.func30, Try.ntmps30
      go_wp2
      go_ret
      exact fin N hb

/-- is the number in? -/
def inSetB (L : List Nat) (x : Int) : Bool := decide (0 ≤ x ∧ x.toNat ∈ L)

set_option maxRecDepth 100000 in
set_option maxHeartbeats 400000 in
theorem setHas_any (w : World) (base b g N : Nat) (A : Option Addr) (c : Nat) (ats L : List Nat) (x : Int) (h : SetR w base b g N A c ats L) (hx1 : -9223372036854775808 ≤ x) (hx2 : x ≤ 9223372036854775807) (hN : N ≤ 1048576) :
    Calls Try.prog 73 #[.pointer (some ⟨b, 0, none⟩), .int .i64 x] w fun e w' => e = .returned (.bool (inSetB L x)) ∧ w = w' := by
  have e0 : w.cell? ⟨b, 0, none⟩ = some (.slice A L.length c) := h.blk.cellv rfl
  have e1 : w.cell? ⟨b, 0 + 1, none⟩ = some (.slice (some ⟨g, 0, none⟩) N N) := h.blk.cellv rfl
  have hlen := h.ok.length_le
  by_cases h0 : x < 0
  · have hr : inSetB L x = false := by unfold inSetB; simp; omega
    rw [hr]; clear hr
    go_enter Try.func73, Try.ntmps73
    go_wp2
    go_ret
    exact ⟨rfl, rfl⟩
  obtain ⟨i, rfl⟩ := Int.eq_ofNat_of_zero_le (by omega : 0 ≤ x)
  by_cases h1 : N ≤ i
  · have hr : inSetB L (i : Int) = false := by
      unfold inSetB
      have : i ∉ L := fun hm => by have := h.ok.lt hm; omega
      simp [this]
    rw [hr]; clear hr
    go_enter Try.func73, Try.ntmps73
    go_wp2
    go_ret
    exact ⟨rfl, rfl⟩
  have hi : i < N := by omega
  obtain ⟨k, hk⟩ : ∃ k, ats[i]? = some k := ⟨_, List.getElem?_eq_getElem (by rw [h.ok.len]; exact hi)⟩
  have c1 : w.cell? ⟨g, i, none⟩ = some (.int .i64 (k : Int)) := by rw [h.at_.cellAt i (by omega)]; exact ints_at hk
  by_cases h2 : k < L.length
  · obtain ⟨y, hy⟩ : ∃ y, L[k]? = some y := ⟨_, List.getElem?_eq_getElem h2⟩
    obtain ⟨q, A1, hq, hc⟩ : ∃ q, A = some ⟨q, 0, none⟩ ∧ w.cell? ⟨q, k, none⟩ = some (.int .i64 (y : Int)) ∧ L.length ≤ c := by
      rcases h.own.2 with ⟨h', h''⟩ | ⟨q, cap', cur, h', hb, hg, hnc, hcm, hcs, ht⟩
      · omega
      · injection h' with e1 e2 e3
        subst e1; subst e3
        have := h.own.cellAt k (by omega)
        rw [ints_at hy] at this
        exact ⟨q, rfl, this, hnc⟩
    subst A1
    have hm := h.ok.mem hk
    by_cases h3 : y = i
    · subst h3
      have hr : inSetB L (y : Int) = true := by
        unfold inSetB
        simp [hm.2 hy]
      rw [hr]; clear hr hm h
      go_enter Try.func73, Try.ntmps73
      go_wp2
      go_ret
      exact ⟨rfl, rfl⟩
    · have hr : inSetB L (i : Int) = false := by
        have : i ∉ L := fun hi' => by
          have := hm.1 hi'
          rw [hy] at this; injection this with this; exact h3 this
        unfold inSetB
        simp [this]
      rw [hr]; clear hr hm h
      have h4 : ((y : Int) == (i : Int)) = false := by simp; omega
      go_enter Try.func73, Try.ntmps73
      go_wp2
      go_ret
      exact ⟨rfl, rfl⟩
  · have hr : inSetB L (i : Int) = false := by
      have hm := h.ok.mem hk
      have : i ∉ L := fun hi' => by
        have := hm.1 hi'
        rw [List.getElem?_eq_none (by omega)] at this
        cases this
      unfold inSetB
      simp [this]
    rw [hr]; clear hr h
    have hd : decide ((k : Int) < (L.length : Int)) = false := by simp; omega
    go_enter Try.func73, Try.ntmps73
    go_wp2
    go_ret
    exact ⟨rfl, rfl⟩

/-- What Add, Clear leave: the set with other lists; what else was there is as it was. -/
structure SetP (w w' : World) (base b g N : Nat) (A : Option Addr) (n c : Nat) (ats L : List Nat) : Prop where
  ex : ∃ A' c', SetR w' base b g N A' c' ats L ∧ ((Value.slice A' L.length c').ownBlock = (Value.slice A n c).ownBlock ∨ ∃ k, (Value.slice A' L.length c').ownBlock = some k ∧ w.heap.size ≤ k)
  upd : Upd (fun k => k = b ∨ k = g ∨ (Value.slice A n c).ownBlock = some k) w w'

set_option maxRecDepth 100000 in
set_option maxHeartbeats 400000 in
theorem setAdd_no (w : World) (base b g N : Nat) (A : Option Addr) (c : Nat) (ats L : List Nat) (x : Int) (h : SetR w base b g N A c ats L) (hx1 : -9223372036854775808 ≤ x) (hx2 : x ≤ 9223372036854775807) (hN : N ≤ 1048576)
    (hno : x < 0 ∨ (N : Int) ≤ x ∨ inSetB L x = true) :
    Calls Try.prog 51 #[.pointer (some ⟨b, 0, none⟩), .int .i64 x] w fun e w' => e = .returned (.bool false) ∧ w = w' := by
  have e1 : w.cell? ⟨b, 0 + 1, none⟩ = some (.slice (some ⟨g, 0, none⟩) N N) := h.blk.cellv rfl
  by_cases h0 : x < 0
  · clear hno
    go_enter Try.func51, Try.ntmps51
    go_wp2_with fail
    go_ret
    exact ⟨rfl, rfl⟩
  obtain ⟨i, rfl⟩ := Int.eq_ofNat_of_zero_le (by omega : 0 ≤ x)
  by_cases h1 : N ≤ i
  · clear hno
    go_enter Try.func51, Try.ntmps51
    go_wp2_with fail
    go_ret
    exact ⟨rfl, rfl⟩
  have hh : inSetB L (i : Int) = true := by rcases hno with h | h | h; omega; omega; exact h
  have hi : i < N := by omega
  clear hno
  go_enter Try.func51, Try.ntmps51
  go_wp2_with (go_at_call 73; refine (setHas_any w base b g N A c ats L (i : Int) h hx1 hx2 hN).mono ?_; rintro e w' ⟨rfl, rfl⟩)
  go_ret
  exact ⟨rfl, rfl⟩

theorem ints_set (L : List Nat) (i k : Nat) : (ints L).set i (.int .i64 (k : Int)) = ints (L.set i k) := by simp [ints, List.map_set]

set_option maxRecDepth 100000 in
set_option maxHeartbeats 800000 in
theorem setAdd_yes (w : World) (base b g N : Nat) (A : Option Addr) (c : Nat) (ats L : List Nat) (i : Nat) (h : SetR w base b g N A c ats L) (hN : N ≤ 1048576) (hi : i < N) (hno : i ∉ L) (hbase : base ≤ w.heap.size) :
    Calls Try.prog 51 #[.pointer (some ⟨b, 0, none⟩), .int .i64 (i : Int)] w fun e w' => e = .returned (.bool true) ∧ SetP w w' base b g N A L.length c (ats.set i L.length) (L ++ [i]) := by
  have hh : inSetB L (i : Int) = false := by unfold inSetB; simp [hno]
  have hlen := h.ok.length_le
  have e0 : w.cell? ⟨b, 0, none⟩ = some (.slice A L.length c) := h.blk.cellv rfl
  have e1 : w.cell? ⟨b, 0 + 1, none⟩ = some (.slice (some ⟨g, 0, none⟩) N N) := h.blk.cellv rfl
  obtain ⟨k, hk⟩ : ∃ k, ats[i]? = some k := ⟨_, List.getElem?_eq_getElem (by rw [h.ok.len]; exact hi)⟩
  have c1 : w.cell? ⟨g, i, none⟩ = some (.int .i64 (k : Int)) := by rw [h.at_.cellAt i (by omega)]; exact ints_at hk
  have f1 : w.frozen? ⟨g, i, none⟩ = false := h.at_.frozenAt i
  have hne : b ≠ g := by
    intro e
    subst e
    exact own_ne h.at_ h.blk (by decide) rfl
  have hAb : (Value.slice A L.length c).ownBlock ≠ some b := own_ne h.own h.blk (by decide)
  have hAg := h.apart
  obtain ⟨i0, hi0, hz0, hz1, hz2⟩ := info_parts vinfo_int
  have hx2 : (i : Int) ≤ 9223372036854775807 := by omega
  go_enter Try.func51, Try.ntmps51
  go_wp2_with (go_at_call 73; refine (setHas_any w base b g N A c ats L (i : Int) h (by omega) hx2 hN).mono ?_; rintro e w' ⟨rfl, rfl⟩)
  go_region
  have hb1 : Cells (w.setCell ⟨g, i, none⟩ (.int .i64 (L.length : Int))).drew b 105 #[.slice A L.length c, .slice (some ⟨g, 0, none⟩) N N] := (h.blk.far _ _ hne).drew
  have hU1 : Upd (fun k => k = b ∨ k = g ∨ (Value.slice A L.length c).ownBlock = some k) w (w.setCell ⟨g, i, none⟩ (.int .i64 (L.length : Int))).drew := ((Upd.refl _ _).setCell _ _ (fun _ => .inr (.inl rfl))).drew
  have o1 : (w.setCell ⟨g, i, none⟩ (.int .i64 (L.length : Int))).drew.ownsRow base 3 1 (.slice A L.length c) L.length (ints L) := (own_far h.own _ _ hAg).drew
  have a1 : (w.setCell ⟨g, i, none⟩ (.int .i64 (L.length : Int))).drew.ownsRow base 3 1 (.slice (some ⟨g, 0, none⟩) N N) N (ints (ats.set i L.length)) := by
    have := (h.at_.stored i (.int .i64 (L.length : Int))).1
    rw [ints_set] at this
    exact this.drew
  have hs1 : w.heap.size ≤ (w.setCell ⟨g, i, none⟩ (.int .i64 (L.length : Int))).drew.heap.size := hU1.size
  clear c1 f1 e0 e1
  generalize (w.setCell ⟨g, i, none⟩ (.int .i64 (L.length : Int))).drew = w1 at *
  have e0 : w1.cell? ⟨b, 0, none⟩ = some (.slice A L.length c) := hb1.cellv rfl
  go_wp2_with (at_builtin; refine wpList_append_own_at _ rfl _ _ 28 rfl base 3 i0 (.int .i64 0) 1 8 Try.underlying28 hi0 hz0 hz1 hz2 rfl (by decide) _ _ _ rfl (o1.alloc _) ⟨w1.heap.size, 0, none⟩ 1 1 [.int .i64 (i : Int)] rfl rfl ?c1 ?c2 ?c3 ?c4 ?c5 ?_)
  case c1 =>
    intro j u hj
    match j, hj with
    | 0, hj => simp at hj; subst hj; simp [Addr.add]
  case c2 => intro u hu; simp at hu; subst hu; rfl
  case c3 => unfold maxLen; omega
  case c4 => omega
  case c5 => simp; omega
  intro v' w2 hown' hg _ hat
  obtain ⟨A', c', rfl⟩ := own_shape hown'
  clear e0
  have hb2 : Cells w2 b 105 #[.slice A L.length c, .slice (some ⟨g, 0, none⟩) N N] := (hb1.alloc _).grown hg hAb
  have e0 : w2.cell? ⟨b, 0, none⟩ = some (.slice A L.length c) := hb2.cellv rfl
  have f0 := hb2.frozen 0
  have a2 : w2.ownsRow base 3 1 (.slice (some ⟨g, 0, none⟩) N N) N (ints (ats.set i L.length)) := (a1.alloc _).kept hg (.inr (fun e => hAg e.symm))
  go_wp2
  go_ret
  have hAb' : (Value.slice A' (L.length + 1) c').ownBlock ≠ some b := own_ne hown' hb2 (by decide)
  have hglt : g < w1.heap.size := (a1.lt g rfl).2
  have hAg' : (Value.slice A' (L.length + 1) c').ownBlock ≠ some g := by
    rcases hat with e | e
    · rw [e]; exact hAg
    · rw [e]; simp; omega
  have hL : (L ++ [i]).length = L.length + 1 := by simp
  refine ⟨rfl, ⟨A', c', ⟨?_, ?_, ?_, ?_, h.low, h.ok.add hi hno⟩, ?_⟩, ?_⟩
  · have := hb2.set_ 0 (.slice A' (L.length + 1) c')
    rw [hL]
    simpa using this
  · have := own_far hown' ⟨b, 0, none⟩ (.slice A' (L.length + 1) c') hAb'
    rw [hL]
    simpa [ints] using this
  · exact own_far a2 _ _ (by simpa [Value.ownBlock] using fun e => hne e.symm)
  · rw [hL]; exact hAg'
  · rw [hL]
    rcases hat with e | e
    · exact .inl e
    · exact .inr ⟨_, e, by first | omega | (simp; omega)⟩
  · refine ((hU1.alloc _).grown hg ?_).setCell _ _ ?_
    · intro k hk _; exact .inr (.inr hk)
    · intro _; exact .inl rfl

set_option maxRecDepth 100000 in
set_option maxHeartbeats 400000 in
theorem setClear_any (w : World) (base b g N : Nat) (A : Option Addr) (c : Nat) (ats L : List Nat) (h : SetR w base b g N A c ats L) :
    Calls Try.prog 48 #[.pointer (some ⟨b, 0, none⟩)] w fun e w' => e = .returned (.tuple #[]) ∧ SetP w w' base b g N A L.length c ats [] := by
  have hAb : (Value.slice A L.length c).ownBlock ≠ some b := own_ne h.own h.blk (by decide)
  have hAg := h.apart
  have hne : b ≠ g := by
    intro e
    subst e
    exact own_ne h.at_ h.blk (by decide) rfl
  obtain ⟨i0, hi0, hz0, hz1, hz2⟩ := info_parts vinfo_int
  have e0 : w.cell? ⟨b, 0, none⟩ = some (.slice A L.length c) := h.blk.cellv rfl
  go_enter Try.func48, Try.ntmps48
  go_wp2_with ((with_reducible show wpList _ _ _ _ _ _); refine wpList_clear_own rfl (.tmp 5) 28 rfl base 3 i0 (.int .i64 0) 1 Try.underlying28 hi0 hz0 rfl (by decide) (.slice A L.length c) L.length (ints L) rfl h.own ?_)
  intro w1 o1 hg
  have hb1 := h.blk.grown hg hAb
  clear e0
  have e0 : w1.cell? ⟨b, 0, none⟩ = some (.slice A L.length c) := hb1.cellv rfl
  have f0 := hb1.frozen 0
  have o2 := own_none o1
  have a1 := h.at_.kept hg (.inr (fun e => hAg e.symm))
  go_wp2
  go_end0
  have hAb' : (Value.slice A 0 c).ownBlock ≠ some b := by intro e; apply hAb; cases A <;> exact e
  refine ⟨rfl, ⟨A, c, ⟨?_, own_far o2 _ _ hAb', own_far a1 _ _ (by simpa [Value.ownBlock] using fun e => hne e.symm), ?_, h.low, h.ok.cleared⟩, .inl (by cases A <;> rfl)⟩, ?_⟩
  · have := hb1.set_ 0 (.slice A 0 c)
    simpa using this
  · intro e; apply hAg; cases A <;> exact e
  · refine ((Upd.refl _ _).grown hg ?_).setCell _ _ ?_
    · intro k hk _; exact .inr (.inr hk)
    · intro _; exact .inl rfl

end Go.Proofs.Ytnkefclbchpafaa
