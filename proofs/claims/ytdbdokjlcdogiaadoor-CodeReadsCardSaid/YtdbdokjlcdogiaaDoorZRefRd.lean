/-
  RefRd, put together.
-/
import Derived.Test.YtdbdokjlcdogiaaDoorZ09OwnR
import Derived.StillTailTactics

/-
  The walks of heronref10's reader over bytes: varied, next, op. Printed by gen_refrd.py.
-/
namespace Go.Proofs.YtdbdokjlcdogiaaDoor
open Go.RowKit
set_option linter.unusedVariables false

/-- a number by at most f more bytes; true: bad -/
def varF : Nat → Int → Int → Bool → List Int → Int × List Int × Bool
  | 0, _, _, _, r => (0, r, true)
  | _ + 1, _, _, _, [] => (0, [], true)
  | f + 1, n, step, first, x :: r => if x < 128 then (n + x % 128 * step, r, decide (x = 0) && !first) else varF f (n + x % 128 * step) (step * 128) false r
def varB (bs : List Int) : Int × List Int × Bool := varF 5 0 1 true bs
/-- the reader at rb: all its bytes, those that are left, is it bad? -/
structure RdR (w : World) (S : Nat → Prop) (rb : Nat) (all rest : List Int) (bad : Bool) : Prop where
  at_ : ∃ A c k, Cells w rb 56 #[.slice none 0 0, .slice A all.length c, .int .i64 (k : Nat), .bool bad] ∧ Reads w S 1 A all.length (bytv all) ∧ k ≤ all.length ∧ all.drop k = rest
  bytes : Bys all
  few : all.length ≤ 8388608
  ne : ∀ b, S b → b ≠ rb
theorem RdR.upd {F : Nat → Prop} {w w' : World} {S : Nat → Prop} {rb : Nat} {all rest : List Int} {bad : Bool} (h : RdR w S rb all rest bad) (hU : Upd F w w') (h1 : ¬ F rb) (h2 : ∀ b, S b → ¬ F b) : RdR w' S rb all rest bad := by
  obtain ⟨A, c, k, hc, hr, hl, hd⟩ := h.at_
  exact ⟨⟨A, c, k, hc.upd hU h1, hr.upd hU h2, hl, hd⟩, h.bytes, h.few, h.ne⟩
theorem RdR.rest_ {w : World} {S : Nat → Prop} {rb : Nat} {all rest : List Int} {bad : Bool} (h : RdR w S rb all rest bad) : Bys rest ∧ rest.length ≤ all.length := by
  obtain ⟨A, c, k, hc, hr, hl, hd⟩ := h.at_
  refine ⟨fun x hx => h.bytes x ?_, ?_⟩
  · rw [← hd] at hx
    exact List.mem_of_mem_drop hx
  · rw [← hd, List.length_drop]
    omega
/-- the reader's parts, at its place -/
theorem RdR.next_ {w : World} {S : Nat → Prop} {rb : Nat} {all : List Int} {x : Int} {r : List Int} {bad : Bool} (h : RdR w S rb all (x :: r) bad) :
    ∃ ad c k, Cells w rb 56 #[.slice none 0 0, .slice (some ad) all.length c, .int .i64 (k : Nat), .bool bad] ∧ Reads w S 1 (some ad) all.length (bytv all) ∧ k < all.length ∧ all.drop (k + 1) = r ∧ w.cell? (ad.add k) = some (.int .u8 x) ∧ ad.block ≠ rb ∧ 0 ≤ x ∧ x ≤ 255 := by
  obtain ⟨A, c, k, hc, hr, hl, hd⟩ := h.at_
  have hk : k < all.length := by
    have := congrArg List.length hd
    rw [List.length_drop] at this
    simp at this
    omega
  obtain ⟨ad, e, hb, hs, hcell⟩ := hr.2 (by omega)
  subst e
  have hx : all[k]? = some x := by
    have := congrArg (·[0]?) hd
    simpa [List.getElem?_drop] using this
  refine ⟨ad, c, k, hc, hr, hk, ?_, hcell k _ (by simp [bytv, hx]), h.ne _ hs, h.bytes x (List.mem_of_getElem? hx)⟩
  have := congrArg (List.drop 1) hd
  rw [List.drop_drop] at this
  simpa using this
theorem RdR.end_ {w : World} {S : Nat → Prop} {rb : Nat} {all : List Int} {bad : Bool} (h : RdR w S rb all [] bad) :
    ∃ A c, Cells w rb 56 #[.slice none 0 0, .slice A all.length c, .int .i64 (all.length : Nat), .bool bad] := by
  obtain ⟨A, c, k, hc, hr, hl, hd⟩ := h.at_
  have hk : k = all.length := by
    have := congrArg List.length hd
    rw [List.length_drop] at this
    simp at this
    omega
  subst hk
  exact ⟨A, c, hc⟩
theorem RdR.move {w w' : World} {S : Nat → Prop} {rb : Nat} {all rest r : List Int} {bad bad' : Bool} (h : RdR w S rb all rest bad) {A : Option Addr} {c k : Nat} (hc : Cells w' rb 56 #[.slice none 0 0, .slice A all.length c, .int .i64 (k : Nat), .bool bad'])
    (hr : Reads w S 1 A all.length (bytv all)) (hU : Upd (fun b => b = rb) w w') (hk : k ≤ all.length) (hd : all.drop k = r) : RdR w' S rb all r bad' :=
  ⟨⟨A, c, k, hc, hr.upd hU (fun b hb e => h.ne b hb e), hk, hd⟩, h.bytes, h.few, h.ne⟩
theorem RdR.drew {w : World} {S : Nat → Prop} {rb : Nat} {all rest : List Int} {bad : Bool} (h : RdR w S rb all rest bad) : RdR w.drew S rb all rest bad := h.upd ((Upd.refl Nob w).drew) not_nob (fun _ _ => not_nob)
theorem RdR.flag {w : World} {S : Nat → Prop} {rb : Nat} {all rest : List Int} {bad : Bool} (h : RdR w S rb all rest bad) (b : Bool) : RdR (w.setCell ⟨rb, 3, none⟩ (.bool b)) S rb all rest b := by
  obtain ⟨A, c, k, hc, hr, hl, hd⟩ := h.at_
  exact h.move (hc.set_ 3 (.bool b)) hr ((Upd.refl _ w).setCell _ _ (fun _ => rfl)) hl hd
theorem RdR.step {w : World} {S : Nat → Prop} {rb : Nat} {all rest r : List Int} {bad : Bool} (h : RdR w S rb all rest bad) {A : Option Addr} {c k : Nat} (hc : Cells w rb 56 #[.slice none 0 0, .slice A all.length c, .int .i64 (k : Nat), .bool bad])
    (hr : Reads w S 1 A all.length (bytv all)) (hk : k < all.length) (hd : all.drop (k + 1) = r) : RdR (w.setCell ⟨rb, 2, none⟩ (.int .i64 ((k : Int) + 1))) S rb all r bad :=
  h.move (k := k + 1) (hc.set_ 2 (.int .i64 ((k : Int) + 1))) hr ((Upd.refl _ w).setCell _ _ (fun _ => rfl)) hk hd
theorem updRb (w : World) (rb o : Nat) (v : Value) : Upd (fun b => b = rb) w (w.setCell ⟨rb, o, none⟩ v) := (Upd.refl _ w).setCell _ _ (fun _ => rfl)
def VarAns (w : World) (S : Nat → Prop) (rb : Nat) (all : List Int) (R : Int × List Int × Bool) (e : Ending) (w' : World) : Prop := e = .returned (.int .i64 R.1) ∧ RdR w' S rb all R.2.1 R.2.2 ∧ Upd (fun b => b = rb) w w'

set_option maxRecDepth 100000 in
set_option maxHeartbeats 4000000 in
theorem varied_any (w : World) (S : Nat → Prop) (rb : Nat) (all rest : List Int) (h : RdR w S rb all rest false) :
    Calls Tryd.prog 52 #[.pointer (some ⟨rb, 0, none⟩)] w (VarAns w S rb all (varB rest)) := by
  have H := hideP h
  generalize hP : VarAns w S rb all (varB rest) = P
  have HP := hideP (show ∀ v r b w', varB rest = (v, r, b) → RdR w' S rb all r b → Upd (fun b => b = rb) w w' → P (.returned (.int .i64 v)) w' from fun v r b w' h1 h2 h3 => by rw [← hP, h1]; exact ⟨rfl, h2, h3⟩)
  clear h hP
  go_enter Tryd.func52, Tryd.ntmps52
  go_wp2_with fail
  go_loopg [3, 4, 5] 5 (fun gk v3 v4 v5 wr => ∃ (i : Nat) (n : Int) (q : List Int), i + gk = 5 ∧ v5 = .int .i64 (i : Int) ∧ v3 = .int .i64 n ∧ v4 = .int .i64 (128 ^ i) ∧ 0 ≤ n ∧ n < 128 ^ i ∧ RdR wr S rb all q false ∧ varF (5 - i) n (128 ^ i) (decide (i = 0)) q = varB rest ∧ Upd (fun b => b = rb) w wr)
  case atStart => exact ⟨0, 0, rest, by omega, rfl, rfl, rfl, by omega, by decide, H.out, rfl, Upd.refl _ _⟩
  case round =>
    obtain ⟨i, n, q, hk, rfl, rfl, rfl, hn0, hn1, hR, hF, hU⟩ := hrel
    have HU := hideP hU
    have HF := hideP hF
    have HR := hideP hR
    have hi : i = 0 ∨ i = 1 ∨ i = 2 ∨ i = 3 ∨ i = 4 ∨ i = 5 := by omega
    clear hF hR hU
    rcases hi with rfl | rfl | rfl | rfl | rfl | rfl
    · have hn2 : n < 1 := by simpa using hn1
      have hp : (128 : Int) ^ 0 = 1 := by decide
      have hp2 : (128 : Int) ^ (0 + 1) = 128 := by decide
      rw [hp]
      clear hn1
      cases q with
      | nil =>
        obtain ⟨A, c, hc⟩ := HR.out.end_
        have c1 := hc.cellv (i := 0 + 1) rfl
        have c2 := hc.cellv (i := 0 + 2) rfl
        have c3 := hc.cellv (i := 0 + 3) rfl
        have f3 := hc.frozen (0 + 3)
        clear hc hk
        go_wp2_with fail
        go_region
        go_wp2_with fail
        exact HP.out _ [] true _ (HF.out.symm.trans (by simp [varF])) (HR.out.flag true).drew ((HU.out.trans (updRb _ _ 3 (.bool true)) (fun _ _ h => h)).drew)
      | cons x r =>
        obtain ⟨ad, c, k, hc, hrd, hkl, hd, hcx, hne, hx0, hx1⟩ := HR.out.next_
        have c1 := hc.cellv (i := 0 + 1) rfl
        have c2 := hc.cellv (i := 0 + 2) rfl
        have c3 := hc.cellv (i := 0 + 3) rfl
        have f2 := hc.frozen (0 + 2)
        have f3 := hc.frozen (0 + 3)
        have g1 : (k : Int) < (all.length : Int) := by omega
        have g2 : ¬ (all.length : Int) ≤ (k : Int) := by omega
        have hfew := HR.out.few
        have HRS := hideP (HR.out.step hc hrd hkl hd)
        have HK := hideP hk
        clear hrd hd hc hk
        by_cases hlt : x < 128
        · by_cases hz : x = 0
          · subst hz
            go_wp2_with fail
            go_region
            go_wp2_with fail
            go_region
            go_wp2_with fail
            exact HP.out _ r _ _ (HF.out.symm.trans (by simp [varF])) ((HRS.out.flag false).drew.drew) (((HU.out.trans (updRb _ _ 2 (.int .i64 ((k : Int) + 1))) (fun _ _ h => h)).trans (updRb _ _ 3 (.bool false)) (fun _ _ h => h)).drew.drew)
          · go_wp2_with fail
            go_region
            go_wp2_with fail
            go_region
            go_wp2_with fail
            exact HP.out _ r _ _ (HF.out.symm.trans (by simp [varF, hlt, hz])) ((HRS.out.flag false).drew.drew) (((HU.out.trans (updRb _ _ 2 (.int .i64 ((k : Int) + 1))) (fun _ _ h => h)).trans (updRb _ _ 3 (.bool false)) (fun _ _ h => h)).drew.drew)
        · go_wp2_with fail
          go_region
          go_wp2_with fail
          go_region
          go_wp2_with fail
          go_roundg (5 - 1)
          case measure => have := HK.out; omega
          case rel => exact ⟨1, n + x % 128 * 1, r, by omega, rfl, by (first | rfl | (congr 1; omega)), by rfl, by omega, by rw [hp2]; omega, HRS.out.drew.drew, by rw [← HF.out]; simp [varF, show ¬ x < 128 by omega], (HU.out.trans (updRb _ _ 2 (.int .i64 ((k : Int) + 1))) (fun _ _ h => h)).drew.drew⟩
    · have hn2 : n < 128 := by simpa using hn1
      have hp : (128 : Int) ^ 1 = 128 := by decide
      have hp2 : (128 : Int) ^ (1 + 1) = 16384 := by decide
      rw [hp]
      clear hn1
      cases q with
      | nil =>
        obtain ⟨A, c, hc⟩ := HR.out.end_
        have c1 := hc.cellv (i := 0 + 1) rfl
        have c2 := hc.cellv (i := 0 + 2) rfl
        have c3 := hc.cellv (i := 0 + 3) rfl
        have f3 := hc.frozen (0 + 3)
        clear hc hk
        go_wp2_with fail
        go_region
        go_wp2_with fail
        exact HP.out _ [] true _ (HF.out.symm.trans (by simp [varF])) (HR.out.flag true).drew ((HU.out.trans (updRb _ _ 3 (.bool true)) (fun _ _ h => h)).drew)
      | cons x r =>
        obtain ⟨ad, c, k, hc, hrd, hkl, hd, hcx, hne, hx0, hx1⟩ := HR.out.next_
        have c1 := hc.cellv (i := 0 + 1) rfl
        have c2 := hc.cellv (i := 0 + 2) rfl
        have c3 := hc.cellv (i := 0 + 3) rfl
        have f2 := hc.frozen (0 + 2)
        have f3 := hc.frozen (0 + 3)
        have g1 : (k : Int) < (all.length : Int) := by omega
        have g2 : ¬ (all.length : Int) ≤ (k : Int) := by omega
        have hfew := HR.out.few
        have HRS := hideP (HR.out.step hc hrd hkl hd)
        have HK := hideP hk
        clear hrd hd hc hk
        by_cases hlt : x < 128
        · by_cases hz : x = 0
          · subst hz
            go_wp2_with fail
            go_region
            go_wp2_with fail
            go_region
            go_wp2_with fail
            exact HP.out _ r _ _ (HF.out.symm.trans (by simp [varF])) ((HRS.out.flag true).drew.drew) (((HU.out.trans (updRb _ _ 2 (.int .i64 ((k : Int) + 1))) (fun _ _ h => h)).trans (updRb _ _ 3 (.bool true)) (fun _ _ h => h)).drew.drew)
          · go_wp2_with fail
            go_region
            go_wp2_with fail
            go_region
            go_wp2_with fail
            exact HP.out _ r _ _ (HF.out.symm.trans (by simp [varF, hlt, hz])) ((HRS.out.flag false).drew.drew) (((HU.out.trans (updRb _ _ 2 (.int .i64 ((k : Int) + 1))) (fun _ _ h => h)).trans (updRb _ _ 3 (.bool false)) (fun _ _ h => h)).drew.drew)
        · go_wp2_with fail
          go_region
          go_wp2_with fail
          go_region
          go_wp2_with fail
          go_roundg (5 - 2)
          case measure => have := HK.out; omega
          case rel => exact ⟨2, n + x % 128 * 128, r, by omega, rfl, by (first | rfl | (congr 1; omega)), by rfl, by omega, by rw [hp2]; omega, HRS.out.drew.drew, by rw [← HF.out]; simp [varF, show ¬ x < 128 by omega], (HU.out.trans (updRb _ _ 2 (.int .i64 ((k : Int) + 1))) (fun _ _ h => h)).drew.drew⟩
    · have hn2 : n < 16384 := by simpa using hn1
      have hp : (128 : Int) ^ 2 = 16384 := by decide
      have hp2 : (128 : Int) ^ (2 + 1) = 2097152 := by decide
      rw [hp]
      clear hn1
      cases q with
      | nil =>
        obtain ⟨A, c, hc⟩ := HR.out.end_
        have c1 := hc.cellv (i := 0 + 1) rfl
        have c2 := hc.cellv (i := 0 + 2) rfl
        have c3 := hc.cellv (i := 0 + 3) rfl
        have f3 := hc.frozen (0 + 3)
        clear hc hk
        go_wp2_with fail
        go_region
        go_wp2_with fail
        exact HP.out _ [] true _ (HF.out.symm.trans (by simp [varF])) (HR.out.flag true).drew ((HU.out.trans (updRb _ _ 3 (.bool true)) (fun _ _ h => h)).drew)
      | cons x r =>
        obtain ⟨ad, c, k, hc, hrd, hkl, hd, hcx, hne, hx0, hx1⟩ := HR.out.next_
        have c1 := hc.cellv (i := 0 + 1) rfl
        have c2 := hc.cellv (i := 0 + 2) rfl
        have c3 := hc.cellv (i := 0 + 3) rfl
        have f2 := hc.frozen (0 + 2)
        have f3 := hc.frozen (0 + 3)
        have g1 : (k : Int) < (all.length : Int) := by omega
        have g2 : ¬ (all.length : Int) ≤ (k : Int) := by omega
        have hfew := HR.out.few
        have HRS := hideP (HR.out.step hc hrd hkl hd)
        have HK := hideP hk
        clear hrd hd hc hk
        by_cases hlt : x < 128
        · by_cases hz : x = 0
          · subst hz
            go_wp2_with fail
            go_region
            go_wp2_with fail
            go_region
            go_wp2_with fail
            exact HP.out _ r _ _ (HF.out.symm.trans (by simp [varF])) ((HRS.out.flag true).drew.drew) (((HU.out.trans (updRb _ _ 2 (.int .i64 ((k : Int) + 1))) (fun _ _ h => h)).trans (updRb _ _ 3 (.bool true)) (fun _ _ h => h)).drew.drew)
          · go_wp2_with fail
            go_region
            go_wp2_with fail
            go_region
            go_wp2_with fail
            exact HP.out _ r _ _ (HF.out.symm.trans (by simp [varF, hlt, hz])) ((HRS.out.flag false).drew.drew) (((HU.out.trans (updRb _ _ 2 (.int .i64 ((k : Int) + 1))) (fun _ _ h => h)).trans (updRb _ _ 3 (.bool false)) (fun _ _ h => h)).drew.drew)
        · go_wp2_with fail
          go_region
          go_wp2_with fail
          go_region
          go_wp2_with fail
          go_roundg (5 - 3)
          case measure => have := HK.out; omega
          case rel => exact ⟨3, n + x % 128 * 16384, r, by omega, rfl, by (first | rfl | (congr 1; omega)), by rfl, by omega, by rw [hp2]; omega, HRS.out.drew.drew, by rw [← HF.out]; simp [varF, show ¬ x < 128 by omega], (HU.out.trans (updRb _ _ 2 (.int .i64 ((k : Int) + 1))) (fun _ _ h => h)).drew.drew⟩
    · have hn2 : n < 2097152 := by simpa using hn1
      have hp : (128 : Int) ^ 3 = 2097152 := by decide
      have hp2 : (128 : Int) ^ (3 + 1) = 268435456 := by decide
      rw [hp]
      clear hn1
      cases q with
      | nil =>
        obtain ⟨A, c, hc⟩ := HR.out.end_
        have c1 := hc.cellv (i := 0 + 1) rfl
        have c2 := hc.cellv (i := 0 + 2) rfl
        have c3 := hc.cellv (i := 0 + 3) rfl
        have f3 := hc.frozen (0 + 3)
        clear hc hk
        go_wp2_with fail
        go_region
        go_wp2_with fail
        exact HP.out _ [] true _ (HF.out.symm.trans (by simp [varF])) (HR.out.flag true).drew ((HU.out.trans (updRb _ _ 3 (.bool true)) (fun _ _ h => h)).drew)
      | cons x r =>
        obtain ⟨ad, c, k, hc, hrd, hkl, hd, hcx, hne, hx0, hx1⟩ := HR.out.next_
        have c1 := hc.cellv (i := 0 + 1) rfl
        have c2 := hc.cellv (i := 0 + 2) rfl
        have c3 := hc.cellv (i := 0 + 3) rfl
        have f2 := hc.frozen (0 + 2)
        have f3 := hc.frozen (0 + 3)
        have g1 : (k : Int) < (all.length : Int) := by omega
        have g2 : ¬ (all.length : Int) ≤ (k : Int) := by omega
        have hfew := HR.out.few
        have HRS := hideP (HR.out.step hc hrd hkl hd)
        have HK := hideP hk
        clear hrd hd hc hk
        by_cases hlt : x < 128
        · by_cases hz : x = 0
          · subst hz
            go_wp2_with fail
            go_region
            go_wp2_with fail
            go_region
            go_wp2_with fail
            exact HP.out _ r _ _ (HF.out.symm.trans (by simp [varF])) ((HRS.out.flag true).drew.drew) (((HU.out.trans (updRb _ _ 2 (.int .i64 ((k : Int) + 1))) (fun _ _ h => h)).trans (updRb _ _ 3 (.bool true)) (fun _ _ h => h)).drew.drew)
          · go_wp2_with fail
            go_region
            go_wp2_with fail
            go_region
            go_wp2_with fail
            exact HP.out _ r _ _ (HF.out.symm.trans (by simp [varF, hlt, hz])) ((HRS.out.flag false).drew.drew) (((HU.out.trans (updRb _ _ 2 (.int .i64 ((k : Int) + 1))) (fun _ _ h => h)).trans (updRb _ _ 3 (.bool false)) (fun _ _ h => h)).drew.drew)
        · go_wp2_with fail
          go_region
          go_wp2_with fail
          go_region
          go_wp2_with fail
          go_roundg (5 - 4)
          case measure => have := HK.out; omega
          case rel => exact ⟨4, n + x % 128 * 2097152, r, by omega, rfl, by (first | rfl | (congr 1; omega)), by rfl, by omega, by rw [hp2]; omega, HRS.out.drew.drew, by rw [← HF.out]; simp [varF, show ¬ x < 128 by omega], (HU.out.trans (updRb _ _ 2 (.int .i64 ((k : Int) + 1))) (fun _ _ h => h)).drew.drew⟩
    · have hn2 : n < 268435456 := by simpa using hn1
      have hp : (128 : Int) ^ 4 = 268435456 := by decide
      have hp2 : (128 : Int) ^ (4 + 1) = 34359738368 := by decide
      rw [hp]
      clear hn1
      cases q with
      | nil =>
        obtain ⟨A, c, hc⟩ := HR.out.end_
        have c1 := hc.cellv (i := 0 + 1) rfl
        have c2 := hc.cellv (i := 0 + 2) rfl
        have c3 := hc.cellv (i := 0 + 3) rfl
        have f3 := hc.frozen (0 + 3)
        clear hc hk
        go_wp2_with fail
        go_region
        go_wp2_with fail
        exact HP.out _ [] true _ (HF.out.symm.trans (by simp [varF])) (HR.out.flag true).drew ((HU.out.trans (updRb _ _ 3 (.bool true)) (fun _ _ h => h)).drew)
      | cons x r =>
        obtain ⟨ad, c, k, hc, hrd, hkl, hd, hcx, hne, hx0, hx1⟩ := HR.out.next_
        have c1 := hc.cellv (i := 0 + 1) rfl
        have c2 := hc.cellv (i := 0 + 2) rfl
        have c3 := hc.cellv (i := 0 + 3) rfl
        have f2 := hc.frozen (0 + 2)
        have f3 := hc.frozen (0 + 3)
        have g1 : (k : Int) < (all.length : Int) := by omega
        have g2 : ¬ (all.length : Int) ≤ (k : Int) := by omega
        have hfew := HR.out.few
        have HRS := hideP (HR.out.step hc hrd hkl hd)
        have HK := hideP hk
        clear hrd hd hc hk
        by_cases hlt : x < 128
        · by_cases hz : x = 0
          · subst hz
            go_wp2_with fail
            go_region
            go_wp2_with fail
            go_region
            go_wp2_with fail
            exact HP.out _ r _ _ (HF.out.symm.trans (by simp [varF])) ((HRS.out.flag true).drew.drew) (((HU.out.trans (updRb _ _ 2 (.int .i64 ((k : Int) + 1))) (fun _ _ h => h)).trans (updRb _ _ 3 (.bool true)) (fun _ _ h => h)).drew.drew)
          · go_wp2_with fail
            go_region
            go_wp2_with fail
            go_region
            go_wp2_with fail
            exact HP.out _ r _ _ (HF.out.symm.trans (by simp [varF, hlt, hz])) ((HRS.out.flag false).drew.drew) (((HU.out.trans (updRb _ _ 2 (.int .i64 ((k : Int) + 1))) (fun _ _ h => h)).trans (updRb _ _ 3 (.bool false)) (fun _ _ h => h)).drew.drew)
        · go_wp2_with fail
          go_region
          go_wp2_with fail
          go_region
          go_wp2_with fail
          go_roundg (5 - 5)
          case measure => have := HK.out; omega
          case rel => exact ⟨5, n + x % 128 * 268435456, r, by omega, rfl, by (first | rfl | (congr 1; omega)), by rfl, by omega, by rw [hp2]; omega, HRS.out.drew.drew, by rw [← HF.out]; simp [varF, show ¬ x < 128 by omega], (HU.out.trans (updRb _ _ 2 (.int .i64 ((k : Int) + 1))) (fun _ _ h => h)).drew.drew⟩
    · have hp : (128 : Int) ^ 5 = 34359738368 := by decide
      rw [hp]
      obtain ⟨A, c, k, hc, -⟩ := HR.out.at_
      have c3 := hc.cellv (i := 0 + 3) rfl
      have f3 := hc.frozen (0 + 3)
      clear hc hn1 hk
      go_wp2_with fail
      exact HP.out _ q true _ (HF.out.symm.trans (by simp [varF])) (HR.out.flag true) (HU.out.trans (updRb _ _ 3 (.bool true)) (fun _ _ h => h))
end Go.Proofs.YtdbdokjlcdogiaaDoor
