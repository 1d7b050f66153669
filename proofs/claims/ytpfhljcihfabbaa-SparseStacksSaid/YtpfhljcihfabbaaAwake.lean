/-
  The walk of the law's awake: what the document tells of a few calls.
-/
import Derived.Test.YtpfhljcihfabbaaSame
namespace Go.Proofs.Ytpfhljcihfabbaa
open Go.RowKit
set_option linter.unusedVariables false

theorem SetP.one {w w' : World} {base b g N : Nat} {A : Option Addr} {n c : Nat} {ats L : List Nat} (h : SetP w w' base b g N A n c ats L) :
    ∃ A' c', SetR w' base b g N A' c' ats L := by
  obtain ⟨A', c', h1, _⟩ := h.ex
  exact ⟨A', c', h1⟩
theorem SetR.base_g {w : World} {base b g N : Nat} {A : Option Addr} {c : Nat} {ats L : List Nat} (h : SetR w base b g N A c ats L) : base ≤ g := (h.at_.lt g rfl).1
/-- the set's blocks are all the call's own: nothing old has turned -/
theorem SetP.nob {w0 w w' : World} {base b g N n : Nat} {A : Option Addr} {c : Nat} {ats L ats' L' : List Nat} (h : SetP w w' base b g N A n c ats' L') (hR : SetR w base b g N A c ats L) (hn : n = L.length)
    (h0 : Upd Nob w0 w) (hb : w0.heap.size ≤ base) : Upd Nob w0 w' := by
  subst hn
  refine h0.trans h.upd (fun k hk hF => ?_)
  rcases hF with rfl | rfl | hF
  · have := hR.low; omega
  · have := hR.base_g; omega
  · have := (hR.own.lt k hF).1; omega
theorem StkP.nob {w0 w w' : World} {base b off : Nat} {t : TypeId} {cs : Array Value} {A : Option Addr} {n c : Nat} {e : TypeId} {n' : Nat} {xs xs' : List Value} {m' : Int} (h : StkP w w' base b off t cs A n c e n' xs' m')
    (ho : w.ownsRow base e 1 (.slice A n c) n xs) (h0 : Upd Nob w0 w) (hb : w0.heap.size ≤ base) (hbb : w0.heap.size ≤ b) : Upd Nob w0 w' := by
  refine h0.trans h.upd (fun k hk hF => ?_)
  rcases hF with rfl | hF
  · omega
  · have := (ho.lt k hF).1; omega

set_option maxHeartbeats 2000000 in
theorem awake_any (w : World) : Calls Try.prog 6 #[] w fun e w' => e = .returned (.bool true) ∧ Upd Nob w w' := by
  go_enter Try.func6, Try.ntmps6
  go_wp2_with fail
  refine (new_any w 5 (by omega) (by omega)).mono ?_
  rintro e w1 ⟨b, g, rfl, hg, hb, h1, hU1⟩
  have hbd : bound 5 = 5 := rfl
  rw [hbd] at h1
  clear hbd
  go_wp2_with fail
  refine (add_yes w1 _ b g 5 _ _ _ [] 3 h1 (by omega) (by omega) (by simp) hU1.size).mono ?_
  rintro e w2 ⟨rfl, hP⟩
  have hU2 := hP.nob h1 rfl hU1 (Nat.le_refl _)
  obtain ⟨A2, c2, h2⟩ := hP.one
  clear h1 hP
  go_wp2_with fail
  refine (add_yes w2 _ b g 5 _ _ _ _ 1 h2 (by omega) (by omega) (by simp) hU2.size).mono ?_
  rintro e w3 ⟨rfl, hP⟩
  have hU3 := hP.nob h2 rfl hU2 (Nat.le_refl _)
  obtain ⟨A3, c3, h3⟩ := hP.one
  clear h2 hP hU1
  go_wp2_with fail
  refine (add_no w3 _ b g 5 _ _ _ _ 3 h3 (by omega) (by omega) (by omega) (.inr (.inr (by simp [hasB])))).mono ?_
  rintro e w' ⟨rfl, rfl⟩
  go_wp2_with fail
  refine (add_no w3 _ b g 5 _ _ _ _ 5 h3 (by omega) (by omega) (by omega) (.inr (.inl (by omega)))).mono ?_
  rintro e w' ⟨rfl, rfl⟩
  go_wp2_with fail
  refine (list_any w3 _ b g 5 _ _ _ _ h3 (by omega)).mono ?_
  rintro e w4 ⟨A4, c4, rfl, ho4, hU4⟩
  have hU4' := hU3.trans hU4 (fun _ _ h => h)
  clear hU4 hU2
  obtain ⟨q, rfl, hq, hbq, hc4⟩ := own_last (n := 1) ho4
  have d0 : w4.cell? ⟨q, 0, none⟩ = some (.int .i64 3) := by rw [ho4.cellAt 0 (by simp)]; rfl
  have d1 : w4.cell? ⟨q, 0 + 1, none⟩ = some (.int .i64 1) := by rw [ho4.cellAt 1 (by simp)]; rfl
  clear ho4 h3
  go_wp2_with fail
  have hz4 : w4.heap.size ≤ (w4.alloc (.cells #[.slice none 0 0, .int .i64 0] 25)).heap.size := by simp
  have hU5 := hU4'.alloc (.cells #[.slice none 0 0, .int .i64 0] 25)
  have o5 := World.ownsRow_nil (w4.alloc (.cells #[.slice none 0 0, .int .i64 0] 25)) w4.heap.size 3 1
  have d0' := (World.cell?_alloc_lt w4 (.cells #[.slice none 0 0, .int .i64 0] 25) ⟨q, 0, none⟩ hq).trans d0
  have d1' := (World.cell?_alloc_lt w4 (.cells #[.slice none 0 0, .int .i64 0] 25) ⟨q, 0 + 1, none⟩ hq).trans d1
  have hC5 := Cells.new w4 25 #[.slice none 0 0, .int .i64 0]
  have hsz := hU4'.size
  clear d0 d1
  generalize w4.alloc (.cells #[.slice none 0 0, .int .i64 0] 25) = w5 at *
  generalize hbk : w4.heap.size = bs at *
  clear hbk
  refine (push_int w5 bs bs 0 25 _ none 0 0 [] 0 7 hC5 rfl rfl o5 (by decide) (by omega) hz4).mono ?_
  rintro e w6 ⟨rfl, hP⟩
  have hU6 := hP.nob o5 hU5 (by omega) (by omega)
  have e0 : w6.cell? ⟨q, 0, none⟩ = some (.int .i64 3) := (hP.upd.cell (p := ⟨q, 0, none⟩) (by have := hz4; simp; omega) (by rintro (h | h); simp at h; omega; cases h)).trans d0'
  have e1 : w6.cell? ⟨q, 0 + 1, none⟩ = some (.int .i64 1) := (hP.upd.cell (p := ⟨q, 0 + 1, none⟩) (by have := hz4; simp; omega) (by rintro (h | h); simp at h; omega; cases h)).trans d1'
  have hz6 : bs ≤ w6.heap.size := Nat.le_trans hz4 hP.upd.size
  obtain ⟨A6, c6, hC6, o6, _⟩ := hP.ex
  clear hP d0' d1' hC5 o5 hU5
  have hC6' : Cells w6 bs 25 #[.slice A6 1 c6, .int .i64 1] := hC6
  clear hC6
  go_wp2_with fail
  refine (push_int w6 bs bs 0 25 _ A6 1 c6 _ 1 8 hC6' rfl rfl o6 (by decide) (by omega) hz6).mono ?_
  rintro e w7 ⟨rfl, hP⟩
  have hU7 := hP.nob o6 hU6 (by omega) (by omega)
  have hq6 := fun k hk => (o6.lt k hk).1
  have f0 : w7.cell? ⟨q, 0, none⟩ = some (.int .i64 3) := (hP.upd.cell (p := ⟨q, 0, none⟩) (by simp; omega) (by rintro (h | h); simp at h; omega; have := hq6 _ h; simp at this; omega)).trans e0
  have f1 : w7.cell? ⟨q, 0 + 1, none⟩ = some (.int .i64 1) := (hP.upd.cell (p := ⟨q, 0 + 1, none⟩) (by simp; omega) (by rintro (h | h); simp at h; omega; have := hq6 _ h; simp at this; omega)).trans e1
  have hz7 : bs ≤ w7.heap.size := Nat.le_trans hz6 hP.upd.size
  obtain ⟨A7, c7, hC7, o7, _⟩ := hP.ex
  have hC7' : Cells w7 bs 25 #[.slice A7 2 c7, .int .i64 2] := hC7
  clear hC7 hP e0 e1 hC6' o6 hU6 hq6
  go_wp2_with fail
  refine (pop_int_some w7 bs bs 0 25 _ A7 1 c7 [.int .i64 7] 2 8 hC7' rfl rfl rfl o7 (by decide) (by omega)).mono ?_
  rintro e w8 ⟨rfl, hP⟩
  have hU8 := hP.nob o7 hU7 (by omega) (by omega)
  have hq6 := fun k hk => (o7.lt k hk).1
  have e0 : w8.cell? ⟨q, 0, none⟩ = some (.int .i64 3) := (hP.upd.cell (p := ⟨q, 0, none⟩) (by simp; omega) (by rintro (h | h); simp at h; omega; have := hq6 _ h; simp at this; omega)).trans f0
  have e1 : w8.cell? ⟨q, 0 + 1, none⟩ = some (.int .i64 1) := (hP.upd.cell (p := ⟨q, 0 + 1, none⟩) (by simp; omega) (by rintro (h | h); simp at h; omega; have := hq6 _ h; simp at this; omega)).trans f1
  obtain ⟨A8, c8, hC8, o8, _⟩ := hP.ex
  have hC8' : Cells w8 bs 25 #[.slice A8 1 c8, .int .i64 2] := hC8
  have m8 : w8.cell? ⟨bs, 0 + 1, none⟩ = some (.int .i64 2) := hC8'.cellv rfl
  clear hC8 hP f0 f1 hC7' o7 hU7 hq6
  go_wp2_with (go_at_call 10; refine (most_int w8 bs 0 2 m8).mono ?_; rintro e w' ⟨rfl, rfl⟩)
  go_ret
  exact ⟨rfl, hU8⟩
end Go.Proofs.Ytpfhljcihfabbaa
