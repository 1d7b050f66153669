/-
  RefOp, RefIP, RefI8, put together.
-/
import Derived.Test.YtdbdokjlcdogiaaDoorZRefRd

/-
  The walks of heronref10's next, op, many, over bytes.
-/
namespace Go.Proofs.YtdbdokjlcdogiaaDoor
open Go.RowKit
set_option linter.unusedVariables false

def nxt (bad : Bool) (rest : List Int) : Int × List Int × Bool := if bad then (0, rest, true) else varB rest
def opR (bad : Bool) (rest : List Int) : Int × List Int × Bool := if bad then (0, rest, true) else match rest with
  | [] => (0, [], false)
  | x :: r => (x, r, false)
set_option maxRecDepth 100000 in
set_option maxHeartbeats 4000000 in
theorem next_any (w : World) (S : Nat → Prop) (rb : Nat) (all rest : List Int) (bad : Bool) (h : RdR w S rb all rest bad) :
    Calls Tryd.prog 26 #[.pointer (some ⟨rb, 0, none⟩), .bool false] w (VarAns w S rb all (nxt bad rest)) := by
  obtain ⟨A, c, k, hc, -⟩ := h.at_
  have c3 := hc.cellv (i := 0 + 3) rfl
  clear hc
  have H := hideP h
  clear h
  cases bad with
  | true =>
    have e : nxt true rest = (0, rest, true) := rfl
    rw [e]
    go_enter Tryd.func26, Tryd.ntmps26
    go_wp2_with fail
    go_ret
    exact ⟨rfl, H.out, Upd.refl _ _⟩
  | false =>
    have e : nxt false rest = varB rest := rfl
    rw [e]
    generalize hP : VarAns w S rb all (varB rest) = P
    have HP := hideP hP
    clear hP e
    go_enter Tryd.func26, Tryd.ntmps26
    go_wp2_with (go_at_call 52; refine (varied_any w S rb all rest H.out).mono ?_; rintro e w3 ⟨rfl, hR3, hU3⟩)
    rw [← HP.out]
    exact ⟨rfl, hR3, hU3⟩
set_option maxRecDepth 100000 in
set_option maxHeartbeats 4000000 in
theorem op_any (w : World) (S : Nat → Prop) (rb : Nat) (all rest : List Int) (bad : Bool) (h : RdR w S rb all rest bad) :
    Calls Tryd.prog 53 #[.pointer (some ⟨rb, 0, none⟩), .bool false] w (VarAns w S rb all (opR bad rest)) := by
  have H := hideP h
  cases bad with
  | true =>
    obtain ⟨A, c, k, hc, -⟩ := h.at_
    have c3 := hc.cellv (i := 0 + 3) rfl
    clear hc h
    have e : opR true rest = (0, rest, true) := rfl
    rw [e]
    go_enter Tryd.func53, Tryd.ntmps53
    go_wp2_with fail
    go_ret
    exact ⟨rfl, H.out, Upd.refl _ _⟩
  | false =>
    cases rest with
    | nil =>
      obtain ⟨A, c, hc⟩ := h.end_
      have c1 := hc.cellv (i := 0 + 1) rfl
      have c2 := hc.cellv (i := 0 + 2) rfl
      have c3 := hc.cellv (i := 0 + 3) rfl
      clear hc h
      have e : opR false [] = (0, [], false) := rfl
      rw [e]
      go_enter Tryd.func53, Tryd.ntmps53
      go_wp2_with fail
      go_region
      go_wp2_with fail
      go_ret
      exact ⟨rfl, H.out.drew, (Upd.refl _ _).drew⟩
    | cons x r =>
      obtain ⟨ad, c, k, hc, hrd, hkl, hd, hcx, hne, hx0, hx1⟩ := h.next_
      have c1 := hc.cellv (i := 0 + 1) rfl
      have c2 := hc.cellv (i := 0 + 2) rfl
      have c3 := hc.cellv (i := 0 + 3) rfl
      have f2 := hc.frozen (0 + 2)
      have g2 : ¬ (all.length : Int) ≤ (k : Int) := by omega
      have g1 : (k : Int) < (all.length : Int) := by omega
      have hfew := h.few
      have k1 : IntKind.i64.wrap ((k : Int) + 1 - 1) = (k : Int) := by rw [IntKind.wrap_i64]; omega
      have HRS := hideP (h.step hc hrd hkl hd)
      have hcx2 : (w.setCell ⟨rb, 2, none⟩ (.int .i64 ((k : Int) + 1))).cell? (ad.add k) = some (.int .u8 x) := ((updRb w rb 2 (.int .i64 ((k : Int) + 1))).cell (p := ad.add k) (World.block_lt_of_cell? w _ hcx) (by rw [add_block]; exact hne)).trans hcx
      clear hc h hrd hd
      have e : opR false (x :: r) = (x, r, false) := rfl
      rw [e]
      go_enter Tryd.func53, Tryd.ntmps53
      go_wp2_with fail
      go_region
      go_wp2_with fail
      go_region
      go_wp2_with fail
      go_ret
      exact ⟨rfl, HRS.out.drew.drew, (updRb _ _ 2 (.int .i64 ((k : Int) + 1))).drew.drew⟩
def manyI (op : Int) : Nat := if op = 1 ∨ op = 2 ∨ op = 3 ∨ op = 4 then 2 else if op = 5 ∨ op = 7 then 1 else 0
set_option maxRecDepth 100000 in
theorem many_any (w : World) (op : Int) (h1 : 1 ≤ op) (h7 : op ≤ 7) : Calls Tryd.prog 54 #[.int .i64 op] w fun e w' => e = .returned (.int .i64 (manyI op : Nat)) ∧ w' = w := by
  have hc : op = 1 ∨ op = 2 ∨ op = 3 ∨ op = 4 ∨ op = 5 ∨ op = 6 ∨ op = 7 := by omega
  rcases hc with rfl | rfl | rfl | rfl | rfl | rfl | rfl
  all_goals
    go_enter Tryd.func54, Tryd.ntmps54
    go_wp2_with fail
    go_ret
    exact ⟨rfl, rfl⟩
end Go.Proofs.YtdbdokjlcdogiaaDoor

/-
  heronref10's instructions over bytes, in plain words.
-/
namespace Go.Proofs.YtdbdokjlcdogiaaDoor
open Go.RowKit
set_option linter.unusedVariables false

def pairsOf : List Int → List (Int × Int)
  | a :: b :: r => (a, b) :: pairsOf r
  | _ => []
/-- an instruction of its operation and its numbers -/
def mkI (op : Int) (l : List Int) : PInst :=
  if op = 1 then ⟨1, l.getD 0 0, 0, 0, pairsOf (l.drop 2)⟩
  else if op = 2 then ⟨2, l.getD 0 0, l.getD 1 0, 0, []⟩
  else if op = 3 ∨ op = 4 then ⟨op, l.getD 1 0, 0, l.getD 0 0, []⟩
  else if op = 5 then ⟨5, 0, 0, l.getD 0 0, []⟩
  else if op = 7 then ⟨7, l.getD 0 0, 0, 0, []⟩
  else ⟨op, 0, 0, 0, []⟩
/-- so many numbers -/
def numsR : Nat → Bool → List Int → List Int × List Int × Bool
  | 0, b, r => ([], r, b)
  | n + 1, b, r => ((nxt b r).1 :: (numsR n (nxt b r).2.2 (nxt b r).2.1).1, (numsR n (nxt b r).2.2 (nxt b r).2.1).2)
/-- so many numbers, as long as none is bad -/
def rngR : Nat → Bool → List Int → List Int × List Int × Bool
  | 0, b, r => ([], r, b)
  | n + 1, b, r => if b = true then ([], r, true) else ((varB r).1 :: (rngR n (varB r).2.2 (varB r).2.1).1, (rngR n (varB r).2.2 (varB r).2.1).2)
def instR (b : Bool) (r : List Int) : PInst × List Int × Bool :=
  if (opR b r).1 < 1 ∨ 7 < (opR b r).1 then (⟨0, 0, 0, 0, []⟩, (opR b r).2.1, true)
  else if (opR b r).1 = 1 then
    (mkI 1 ((numsR 2 (opR b r).2.2 (opR b r).2.1).1 ++ (rngR (2 * ((numsR 2 (opR b r).2.2 (opR b r).2.1).1.getD 1 0).toNat) (numsR 2 (opR b r).2.2 (opR b r).2.1).2.2 (numsR 2 (opR b r).2.2 (opR b r).2.1).2.1).1),
      (rngR (2 * ((numsR 2 (opR b r).2.2 (opR b r).2.1).1.getD 1 0).toNat) (numsR 2 (opR b r).2.2 (opR b r).2.1).2.2 (numsR 2 (opR b r).2.2 (opR b r).2.1).2.1).2)
  else (mkI (opR b r).1 (numsR (manyI (opR b r).1) (opR b r).2.2 (opR b r).2.1).1, (numsR (manyI (opR b r).1) (opR b r).2.2 (opR b r).2.1).2)

theorem varF_in : ∀ (f : Nat) (n step : Int) (b : Bool) (bs : List Int), Bys bs → 0 ≤ n → 0 < step → 0 ≤ (varF f n step b bs).1 ∧ (varF f n step b bs).1 + step ≤ n + step * 128 ^ f ∧ Bys (varF f n step b bs).2.1 ∧ (varF f n step b bs).2.1.length ≤ bs.length
  | 0, n, step, b, bs, hb, hn, hs => by
    unfold varF
    refine ⟨by simp, ?_, hb, Nat.le_refl _⟩
    simp
    omega
  | f + 1, n, step, b, [], hb, hn, hs => by
    unfold varF
    have hp : (1 : Int) ≤ 128 ^ (f + 1) := by exact_mod_cast Nat.one_le_pow (f + 1) 128 (by decide)
    have := Int.mul_le_mul_of_nonneg_left hp (show 0 ≤ step by omega)
    refine ⟨by simp, ?_, hb, Nat.le_refl _⟩
    show (0 : Int) + step ≤ _
    omega
  | f + 1, n, step, b, x :: r, hb, hn, hs => by
    have hx := hb x (by simp)
    have hbr : Bys r := fun y hy => hb y (by simp [hy])
    have hm0 : 0 ≤ x % 128 * step := Int.mul_nonneg (by omega) (by omega)
    have hm1 : x % 128 * step ≤ 127 * step := Int.mul_le_mul_of_nonneg_right (by omega) (by omega)
    have hp : (1 : Int) ≤ 128 ^ f := by exact_mod_cast Nat.one_le_pow f 128 (by decide)
    have hse : step * 128 ^ (f + 1) = 128 * (step * 128 ^ f) := by rw [Int.pow_succ, ← Int.mul_assoc, Int.mul_comm]
    have hsp : step ≤ step * 128 ^ f := by
      have := Int.mul_le_mul_of_nonneg_left hp (show 0 ≤ step by omega)
      omega
    unfold varF
    by_cases h1 : x < 128
    · rw [if_pos h1]
      exact ⟨(show (0 : Int) ≤ n + x % 128 * step by omega), (show n + x % 128 * step + step ≤ n + step * 128 ^ (f + 1) by rw [hse]; omega), hbr, by simp⟩
    · rw [if_neg h1]
      obtain ⟨a1, a2, a3, a4⟩ := varF_in f (n + x % 128 * step) (step * 128) false r hbr (by omega) (by omega)
      have he : step * 128 * 128 ^ f = 128 * (step * 128 ^ f) := by rw [Int.mul_comm step 128, Int.mul_assoc]
      refine ⟨a1, by rw [hse]; omega, a3, by simp; omega⟩
theorem varB_in {bs : List Int} (hb : Bys bs) : 0 ≤ (varB bs).1 ∧ (varB bs).1 < 34359738368 ∧ Bys (varB bs).2.1 ∧ (varB bs).2.1.length ≤ bs.length := by
  have := varF_in 5 0 1 true bs hb (by omega) (by omega)
  unfold varB
  refine ⟨this.1, ?_, this.2.2⟩
  have h := this.2.1
  have e : (0 : Int) + 1 * 128 ^ 5 = 34359738368 := by decide
  omega
/-- a number that is not bad takes a byte at least -/
theorem varF_less : ∀ (f : Nat) (n step : Int) (b : Bool) (bs : List Int), (varF f n step b bs).2.2 = false → (varF f n step b bs).2.1.length < bs.length
  | 0, n, step, b, bs, h => by simp [varF] at h
  | f + 1, n, step, b, [], h => by simp [varF] at h
  | f + 1, n, step, b, x :: r, h => by
    unfold varF at h ⊢
    by_cases h1 : x < 128
    · rw [if_pos h1]; simp
    · rw [if_neg h1] at h ⊢
      have := varF_less f _ _ false r h
      simp
      omega
def Num36 (x : Int) : Prop := 0 ≤ x ∧ x < 34359738368
theorem nxt_in {b : Bool} {r : List Int} (hb : Bys r) : Num36 (nxt b r).1 ∧ Bys (nxt b r).2.1 ∧ (nxt b r).2.1.length ≤ r.length := by
  unfold nxt
  cases b with
  | true => exact ⟨⟨by simp, by simp⟩, hb, Nat.le_refl _⟩
  | false => have := varB_in hb; exact ⟨⟨this.1, this.2.1⟩, this.2.2⟩
theorem numsR_in : ∀ (n : Nat) (b : Bool) (r : List Int), Bys r → (∀ x ∈ (numsR n b r).1, Num36 x) ∧ (numsR n b r).1.length = n ∧ Bys (numsR n b r).2.1 ∧ (numsR n b r).2.1.length ≤ r.length
  | 0, b, r, hb => ⟨fun x hx => by simp [numsR] at hx, rfl, hb, Nat.le_refl _⟩
  | n + 1, b, r, hb => by
    obtain ⟨a1, a2, a3⟩ := nxt_in (b := b) hb
    obtain ⟨c1, c2, c3, c4⟩ := numsR_in n (nxt b r).2.2 (nxt b r).2.1 a2
    unfold numsR
    refine ⟨fun x hx => ?_, by simp [c2], c3, by simp only; omega⟩
    rcases List.mem_cons.1 hx with rfl | hx
    · exact a1
    · exact c1 x hx
theorem rngR_in : ∀ (n : Nat) (b : Bool) (r : List Int), Bys r → (∀ x ∈ (rngR n b r).1, Num36 x) ∧ (rngR n b r).1.length ≤ r.length + 1 ∧ Bys (rngR n b r).2.1 ∧ (rngR n b r).2.1.length ≤ r.length
  | 0, b, r, hb => ⟨fun x hx => by simp [rngR] at hx, by simp [rngR], hb, Nat.le_refl _⟩
  | n + 1, true, r, hb => ⟨fun x hx => by simp [rngR] at hx, by simp [rngR], hb, by simp [rngR]⟩
  | n + 1, false, r, hb => by
    obtain ⟨a1, a2, a3, a4⟩ := varB_in hb
    obtain ⟨c1, c2, c3, c4⟩ := rngR_in n (varB r).2.2 (varB r).2.1 a3
    have e : rngR (n + 1) false r = ((varB r).1 :: (rngR n (varB r).2.2 (varB r).2.1).1, (rngR n (varB r).2.2 (varB r).2.1).2) := by rw [rngR, if_neg (by simp)]
    rw [e]
    refine ⟨fun x hx => ?_, ?_, c3, by simp only; omega⟩
    · rcases List.mem_cons.1 hx with rfl | hx
      · exact ⟨a1, a2⟩
      · exact c1 x hx
    · simp only [List.length_cons]
      cases hv : (varB r).2.2 with
      | true =>
        have : rngR n true (varB r).2.1 = ([], (varB r).2.1, true) := by cases n <;> simp [rngR]
        rw [this]
        simp
      | false =>
        have := varF_less 5 0 1 true r hv
        rw [hv] at c2
        unfold varB at c2 ⊢
        omega
theorem pairsOf_in : ∀ (l : List Int), (∀ x ∈ l, Num36 x) → In64s (pairsOf l) ∧ (pairsOf l).length ≤ l.length
  | [], h => ⟨fun x hx => by simp [pairsOf] at hx, by simp [pairsOf]⟩
  | [a], h => ⟨fun x hx => by simp [pairsOf] at hx, by simp [pairsOf]⟩
  | a :: b :: r, h => by
    obtain ⟨h1, h2⟩ := pairsOf_in r (fun x hx => h x (by simp [hx]))
    have ha := h a (by simp)
    have hb := h b (by simp)
    unfold pairsOf
    refine ⟨fun x hx => ?_, by simp; omega⟩
    rcases List.mem_cons.1 hx with rfl | hx
    · unfold Num36 at ha hb
      unfold In64
      simp only
      omega
    · exact h1 x hx
theorem in64_36 {x : Int} (h : Num36 x) : In64 x := by unfold Num36 at h; unfold In64; omega
theorem getD_36 {l : List Int} (h : ∀ x ∈ l, Num36 x) (i : Nat) : Num36 (l.getD i 0) := by
  rw [List.getD_eq_getElem?_getD]
  cases hx : l[i]? with
  | none => exact ⟨by simp, by simp⟩
  | some x => exact h x (List.mem_of_getElem? hx)
theorem mkI_in {op : Int} {l : List Int} (ho : 0 ≤ op ∧ op ≤ 255) (h : ∀ x ∈ l, Num36 x) (hl : l.length ≤ 100000000) : NumI (mkI op l) := by
  have g0 := in64_36 (getD_36 h 0)
  have g1 := in64_36 (getD_36 h 1)
  have s0 := in64_0
  have so : In64 op := by unfold In64; omega
  have k1 : In64 1 := by unfold In64; omega
  have k2 : In64 2 := by unfold In64; omega
  have k5 : In64 5 := by unfold In64; omega
  have k7 : In64 7 := by unfold In64; omega
  unfold mkI
  split
  · obtain ⟨a, b⟩ := pairsOf_in (l.drop 2) (fun x hx => h x (List.mem_of_mem_drop hx))
    refine ⟨⟨k1, g0, s0, s0⟩, a, ?_⟩
    rw [List.length_drop] at b
    show (pairsOf (l.drop 2)).length ≤ _
    omega
  split
  · exact numI_of k2 g0 g1 s0
  split
  · exact numI_of so g1 s0 g0
  split
  · exact numI_of k5 s0 s0 g0
  split
  · exact numI_of k7 g0 s0 s0
  · exact numI_of so s0 s0 s0
theorem opR_in {b : Bool} {r : List Int} (hb : Bys r) : 0 ≤ (opR b r).1 ∧ (opR b r).1 ≤ 255 ∧ Bys (opR b r).2.1 ∧ (opR b r).2.1.length ≤ r.length := by
  unfold opR
  cases b with
  | true => exact ⟨by simp, by simp, hb, Nat.le_refl _⟩
  | false =>
    cases r with
    | nil => exact ⟨by simp, by simp, hb, Nat.le_refl _⟩
    | cons x q => exact ⟨(hb x (by simp)).1, (hb x (by simp)).2, fun y (hy : y ∈ q) => hb y (List.mem_cons_of_mem _ hy), by simp⟩
theorem instR_in {b : Bool} {r : List Int} (hb : Bys r) (hl : r.length ≤ 8388608) : NumI (instR b r).1 ∧ Bys (instR b r).2.1 ∧ (instR b r).2.1.length ≤ r.length := by
  obtain ⟨o1, o2, o3, o4⟩ := opR_in (b := b) hb
  unfold instR
  split
  · exact ⟨⟨⟨in64_0, in64_0, in64_0, in64_0⟩, fun x hx => by simp at hx, by simp⟩, o3, o4⟩
  split
  · obtain ⟨n1, n2, n3, n4⟩ := numsR_in 2 (opR b r).2.2 (opR b r).2.1 o3
    obtain ⟨g1, g2, g3, g4⟩ := rngR_in (2 * ((numsR 2 (opR b r).2.2 (opR b r).2.1).1.getD 1 0).toNat) (numsR 2 (opR b r).2.2 (opR b r).2.1).2.2 (numsR 2 (opR b r).2.2 (opR b r).2.1).2.1 n3
    refine ⟨?_, g3, by simp only; omega⟩
    show NumI (mkI 1 _)
    refine mkI_in ⟨by decide, by decide⟩ (fun x hx => ?_) (by rw [List.length_append]; omega)
    rcases List.mem_append.1 hx with hx | hx
    · exact n1 x hx
    · exact g1 x hx
  · obtain ⟨n1, n2, n3, n4⟩ := numsR_in (manyI (opR b r).1) (opR b r).2.2 (opR b r).2.1 o3
    have hm : manyI (opR b r).1 ≤ 2 := by unfold manyI; split; omega; split <;> omega
    exact ⟨mkI_in ⟨o1, o2⟩ n1 (by omega), n3, by simp only; omega⟩
/-- what is bad stays bad -/
theorem numsR_bad : ∀ (n : Nat) (r : List Int), (numsR n true r).2 = (r, true)
  | 0, r => rfl
  | n + 1, r => by
    unfold numsR
    simp only [nxt, if_true]
    exact numsR_bad n r
/-- an instruction that is not bad takes a byte at least -/
theorem instR_less {r : List Int} (hb : Bys r) (h : (instR false r).2.2 = false) : (instR false r).2.1.length < r.length := by
  cases r with
  | nil => simp [instR, opR] at h
  | cons x q =>
    have hbq : Bys q := fun y hy => hb y (by simp [hy])
    have e1 : opR false (x :: q) = (x, q, false) := rfl
    unfold instR at h ⊢
    rw [e1] at h ⊢
    simp only at h ⊢
    split at h
    · cases h
    · rename_i h1
      rw [if_neg h1]
      split
      · obtain ⟨n1, n2, n3, n4⟩ := numsR_in 2 false q hbq
        obtain ⟨g1, g2, g3, g4⟩ := rngR_in (2 * ((numsR 2 false q).1.getD 1 0).toNat) (numsR 2 false q).2.2 (numsR 2 false q).2.1 n3
        simp only [List.length_cons]
        omega
      · obtain ⟨n1, n2, n3, n4⟩ := numsR_in (manyI x) false q hbq
        simp only [List.length_cons]
        omega
end Go.Proofs.YtdbdokjlcdogiaaDoor

/-
  The walk of heronref10.inst. Printed by tools/mkRefI.py.
-/
namespace Go.Proofs.YtdbdokjlcdogiaaDoor
open Go.RowKit
set_option linter.unusedVariables false

set_option maxRecDepth 100000 in
set_option maxHeartbeats 4000000 in
theorem refi_reg8 (Q : Exit → Act → World → Prop) (w : World) (la : Addr) (ln lc xb base i j c : Nat) (a b : Int) (y0 y1 y2 y3 : Value) (B : Option Addr) (acc : List (Int × Int)) (x0 x2 x3 x4 x7 x8 x9 x10 x11 x12 x13 x14 x15 x16 x17 x18 x19 x20 x21 x22 x23 x24 x25 x26 x27 x28 x29 x30 x31 x32 x33 x34 x35 x36 x37 x38 x39 x40 x41 x42 x43 x44 x45 x46 x47 x48 x49 x50 x51 x52 x53 x54 x55 x56 x57 x58 x59 x60 x61 x62 x63 x64 x65 x66 x67 x68 x69 x70 x71 : Value)
    (hC : Cells w xb 48 #[y0, y1, y2, y3, .slice B j c]) (hO : w.ownsRow base 50 2 (.slice B j c) j (pairv acc)) (hi : i + 1 < ln) (ca : w.cell? (la.add i) = some (.int .i64 a)) (cb : w.cell? ⟨la.block, la.off + (i + 1), none⟩ = some (.int .i64 b)) (hla : la.block < base) (hln : ln ≤ 100000000) (hba : base ≤ w.heap.size) (hj : j ≤ 100000000)
    (hyes : ∀ v23 v24 v25 v26 v27 v28 v29 v30 v31 v32 v33 v34 v35 v36 v37 gN cN w', Cells w' xb 48 #[y0, y1, y2, y3, .slice (some ⟨gN, 0, none⟩) (j + 1) cN] → w'.ownsRow base 50 2 (.slice (some ⟨gN, 0, none⟩) (j + 1) cN) (j + 1) (pairv (acc ++ [(a, b)])) → Upd (fun b => b = xb ∨ base ≤ b) w w' → Q .normal ⟨#[x0, .slice (some la) ln lc, x2, x3, x4, .pointer (some ⟨xb, 0, none⟩), .int .i64 (i : Nat), x7, x8, x9, x10, x11, x12, x13, x14, x15, x16, x17, x18, x19, x20, x21, x22, v23, v24, v25, v26, v27, v28, v29, v30, v31, v32, v33, v34, v35, v36, v37, x38, x39, x40, x41, x42, x43, x44, x45, x46, x47, x48, x49, x50, x51, x52, x53, x54, x55, x56, x57, x58, x59, x60, x61, x62, x63, x64, x65, x66, x67, x68, x69, x70, x71], []⟩ w') :
    (Code.region 8 #[{ dst := some 23, op := Op.fieldAddr 48 (Operand.tmp 5) 4, type := 0, pos := "ref.go:61", after := #[], guard := none },
    { dst := some 24, op := Op.load 46 (Operand.tmp 23), type := 46, pos := "ref.go:61", after := #[{ on := 0, ground := .data }], guard := none },
    { dst := some 25, op := Op.move (Operand.tmp 1), type := 71, pos := "ref.go:61", after := #[], guard := none },
    { dst := some 26, op := Op.move (Operand.tmp 6), type := 3, pos := "ref.go:61", after := #[], guard := none },
    { dst := some 27, op := Op.indexAddr 71 (Operand.tmp 25) (Operand.tmp 26), type := 0, pos := "ref.go:61", after := #[{ on := 2, ground := .data }, { on := 3, ground := .data }], guard := none },
    { dst := some 28, op := Op.load 3 (Operand.tmp 27), type := 3, pos := "ref.go:61", after := #[{ on := 4, ground := .data }], guard := none },
    { dst := some 29, op := Op.move (Operand.tmp 1), type := 71, pos := "ref.go:61", after := #[], guard := none },
    { dst := some 30, op := Op.move (Operand.tmp 6), type := 3, pos := "ref.go:61", after := #[], guard := none },
    { dst := some 31, op := Op.binOp BinOp.add 3 (Operand.tmp 30) (Operand.const (Value.int IntKind.i64 1)) 3, type := 3, pos := "ref.go:61", after := #[{ on := 7, ground := .data }], guard := none },
    { dst := some 32, op := Op.indexAddr 71 (Operand.tmp 29) (Operand.tmp 31), type := 0, pos := "ref.go:61", after := #[{ on := 6, ground := .data }, { on := 8, ground := .data }], guard := none },
    { dst := some 33, op := Op.load 3 (Operand.tmp 32), type := 3, pos := "ref.go:61", after := #[{ on := 9, ground := .data }], guard := none },
    { dst := some 34, op := Op.build 50 #[(0, Operand.tmp 28), (1, Operand.tmp 33)], type := 50, pos := "ref.go:61", after := #[{ on := 5, ground := .data }, { on := 10, ground := .data }], guard := none },
    { dst := some 35, op := Op.buildSlice 46 1 #[(0, Operand.tmp 34)], type := 46, pos := "ref.go:61", after := #[{ on := 11, ground := .data }], guard := none },
    { dst := some 36, op := Op.call { callee := Callee.builtin Builtin.append, args := #[Operand.tmp 24, Operand.tmp 35], argTypes := #[46, 46] }, type := 46, pos := "ref.go:61", after := #[{ on := 1, ground := .data }, { on := 12, ground := .data }], guard := none },
    { dst := some 37, op := Op.fieldAddr 48 (Operand.tmp 5) 4, type := 0, pos := "ref.go:61", after := #[{ on := 0, ground := .phase }, { on := 1, ground := .phase }, { on := 2, ground := .phase }, { on := 3, ground := .phase }, { on := 4, ground := .phase }, { on := 5, ground := .phase }, { on := 6, ground := .phase }, { on := 7, ground := .phase }, { on := 8, ground := .phase }, { on := 9, ground := .phase }, { on := 10, ground := .phase }, { on := 11, ground := .phase }, { on := 12, ground := .phase }, { on := 13, ground := .phase }], guard := none },
    { dst := none, op := Op.store 46 (Operand.tmp 37) (Operand.tmp 36), type := 0, pos := "ref.go:61", after := #[{ on := 14, ground := .data }, { on := 13, ground := .data }, { on := 13, ground := .chain }, { on := 0, ground := .phase }, { on := 1, ground := .phase }, { on := 2, ground := .phase }, { on := 3, ground := .phase }, { on := 4, ground := .phase }, { on := 5, ground := .phase }, { on := 6, ground := .phase }, { on := 7, ground := .phase }, { on := 8, ground := .phase }, { on := 9, ground := .phase }, { on := 10, ground := .phase }, { on := 11, ground := .phase }, { on := 12, ground := .phase }, { on := 13, ground := .phase }], guard := none }] true).wp Tryd.prog Q ⟨#[x0, .slice (some la) ln lc, x2, x3, x4, .pointer (some ⟨xb, 0, none⟩), .int .i64 (i : Nat), x7, x8, x9, x10, x11, x12, x13, x14, x15, x16, x17, x18, x19, x20, x21, x22, x23, x24, x25, x26, x27, x28, x29, x30, x31, x32, x33, x34, x35, x36, x37, x38, x39, x40, x41, x42, x43, x44, x45, x46, x47, x48, x49, x50, x51, x52, x53, x54, x55, x56, x57, x58, x59, x60, x61, x62, x63, x64, x65, x66, x67, x68, x69, x70, x71], []⟩ w := by
  obtain ⟨i0, hi0, hz0, hz1, hz2⟩ := info_parts finfo_range
  have HC := hideP hC
  have HO := hideP hO
  have HY := hideP hyes
  clear hyes hC hO
  refine Code.wp_mono (QuietQ.imp (G := fun _ _ _ => False) (fun _ _ _ h => h.elim)) ?_
  have g1 : (i : Int) < (ln : Int) := by omega
  have g3 : 0 ≤ (i : Int) + 1 := by omega
  have g2 : (i : Int) + 1 < (ln : Int) := by omega
  have k1 : IntKind.i64.wrap ((i : Int) + 1) = (i : Int) + 1 := by rw [IntKind.wrap_i64]; omega
  refine AnyJ.begin 15 (fun w' => w'.cell? ⟨xb, 0 + 4, none⟩ = some (.slice B j c) ∧ w'.cell? (la.add i) = some (.int .i64 a) ∧ w'.cell? ⟨la.block, la.off + (i + 1), none⟩ = some (.int .i64 b)) (by kernel_rfl) ⟨HC.out.cellv rfl, ca, cb⟩ (fun hSS => ?_)
  refine AnyJ.take (i := 0) (oi := { dst := some 23, op := Op.fieldAddr 48 (Operand.tmp 5) 4, type := 0, pos := "ref.go:61", after := #[], guard := none }) (v := ?v0nr1) ?a0nr1 ?b0nr1 ?c0nr1 ?d0nr1 ?e0nr1 (fun _ _ _ h => h) (Or.inl ⟨?f0nr1, ?y0nr1⟩) (by assumption) ?r0nr1
  case a0nr1 => rfl
  case b0nr1 => kernel_rfl
  case c0nr1 => kernel_rfl
  case d0nr1 => kernel_rfl
  case e0nr1 => kernel_rfl
  case f0nr1 => rfl
  case y0nr1 => (intro w' hSw; (try dsimp only at hSw); go_simp; try with_reducible rfl)
  try simp only [Act.put, List.setIfInBounds_toArray, List.set_cons_zero, List.set_cons_succ]
  refine AnyJ.take (i := 1) (oi := { dst := some 24, op := Op.load 46 (Operand.tmp 23), type := 46, pos := "ref.go:61", after := #[{ on := 0, ground := .data }], guard := none }) (v := ?v1nr2) ?a1nr2 ?b1nr2 ?c1nr2 ?d1nr2 ?e1nr2 (fun _ _ _ h => h) (Or.inl ⟨?f1nr2, ?y1nr2⟩) (by assumption) ?r1nr2
  case a1nr2 => rfl
  case b1nr2 => kernel_rfl
  case c1nr2 => kernel_rfl
  case d1nr2 => kernel_rfl
  case e1nr2 => kernel_rfl
  case f1nr2 => rfl
  case y1nr2 => (intro w' hSw; (try dsimp only at hSw); obtain ⟨y0, y1, y2⟩ := hSw; go_simp; try with_reducible rfl)
  try simp only [Act.put, List.setIfInBounds_toArray, List.set_cons_zero, List.set_cons_succ]
  refine AnyJ.take (i := 2) (oi := { dst := some 25, op := Op.move (Operand.tmp 1), type := 71, pos := "ref.go:61", after := #[], guard := none }) (v := ?v2nr3) ?a2nr3 ?b2nr3 ?c2nr3 ?d2nr3 ?e2nr3 (fun _ _ _ h => h) (Or.inl ⟨?f2nr3, ?y2nr3⟩) (by assumption) ?r2nr3
  case a2nr3 => rfl
  case b2nr3 => kernel_rfl
  case c2nr3 => kernel_rfl
  case d2nr3 => kernel_rfl
  case e2nr3 => kernel_rfl
  case f2nr3 => rfl
  case y2nr3 => (intro w' hSw; (try dsimp only at hSw); go_simp; try with_reducible rfl)
  try simp only [Act.put, List.setIfInBounds_toArray, List.set_cons_zero, List.set_cons_succ]
  refine AnyJ.take (i := 3) (oi := { dst := some 26, op := Op.move (Operand.tmp 6), type := 3, pos := "ref.go:61", after := #[], guard := none }) (v := ?v3nr4) ?a3nr4 ?b3nr4 ?c3nr4 ?d3nr4 ?e3nr4 (fun _ _ _ h => h) (Or.inl ⟨?f3nr4, ?y3nr4⟩) (by assumption) ?r3nr4
  case a3nr4 => rfl
  case b3nr4 => kernel_rfl
  case c3nr4 => kernel_rfl
  case d3nr4 => kernel_rfl
  case e3nr4 => kernel_rfl
  case f3nr4 => rfl
  case y3nr4 => (intro w' hSw; (try dsimp only at hSw); go_simp; try with_reducible rfl)
  try simp only [Act.put, List.setIfInBounds_toArray, List.set_cons_zero, List.set_cons_succ]
  refine AnyJ.take (i := 4) (oi := { dst := some 27, op := Op.indexAddr 71 (Operand.tmp 25) (Operand.tmp 26), type := 0, pos := "ref.go:61", after := #[{ on := 2, ground := .data }, { on := 3, ground := .data }], guard := none }) (v := ?v4nr5) ?a4nr5 ?b4nr5 ?c4nr5 ?d4nr5 ?e4nr5 (fun _ _ _ h => h) (Or.inl ⟨?f4nr5, ?y4nr5⟩) (by assumption) ?r4nr5
  case a4nr5 => rfl
  case b4nr5 => kernel_rfl
  case c4nr5 => kernel_rfl
  case d4nr5 => kernel_rfl
  case e4nr5 => kernel_rfl
  case f4nr5 => rfl
  case y4nr5 => (intro w' hSw; (try dsimp only at hSw); go_simp; try with_reducible rfl)
  try simp only [Act.put, List.setIfInBounds_toArray, List.set_cons_zero, List.set_cons_succ]
  refine AnyJ.take (i := 5) (oi := { dst := some 28, op := Op.load 3 (Operand.tmp 27), type := 3, pos := "ref.go:61", after := #[{ on := 4, ground := .data }], guard := none }) (v := ?v5nr6) ?a5nr6 ?b5nr6 ?c5nr6 ?d5nr6 ?e5nr6 (fun _ _ _ h => h) (Or.inl ⟨?f5nr6, ?y5nr6⟩) (by assumption) ?r5nr6
  case a5nr6 => rfl
  case b5nr6 => kernel_rfl
  case c5nr6 => kernel_rfl
  case d5nr6 => kernel_rfl
  case e5nr6 => kernel_rfl
  case f5nr6 => rfl
  case y5nr6 => (intro w' hSw; (try dsimp only at hSw); obtain ⟨y0, y1, y2⟩ := hSw; go_simp; try with_reducible rfl)
  try simp only [Act.put, List.setIfInBounds_toArray, List.set_cons_zero, List.set_cons_succ]
  refine AnyJ.take (i := 6) (oi := { dst := some 29, op := Op.move (Operand.tmp 1), type := 71, pos := "ref.go:61", after := #[], guard := none }) (v := ?v6nr7) ?a6nr7 ?b6nr7 ?c6nr7 ?d6nr7 ?e6nr7 (fun _ _ _ h => h) (Or.inl ⟨?f6nr7, ?y6nr7⟩) (by assumption) ?r6nr7
  case a6nr7 => rfl
  case b6nr7 => kernel_rfl
  case c6nr7 => kernel_rfl
  case d6nr7 => kernel_rfl
  case e6nr7 => kernel_rfl
  case f6nr7 => rfl
  case y6nr7 => (intro w' hSw; (try dsimp only at hSw); go_simp; try with_reducible rfl)
  try simp only [Act.put, List.setIfInBounds_toArray, List.set_cons_zero, List.set_cons_succ]
  refine AnyJ.take (i := 7) (oi := { dst := some 30, op := Op.move (Operand.tmp 6), type := 3, pos := "ref.go:61", after := #[], guard := none }) (v := ?v7nr8) ?a7nr8 ?b7nr8 ?c7nr8 ?d7nr8 ?e7nr8 (fun _ _ _ h => h) (Or.inl ⟨?f7nr8, ?y7nr8⟩) (by assumption) ?r7nr8
  case a7nr8 => rfl
  case b7nr8 => kernel_rfl
  case c7nr8 => kernel_rfl
  case d7nr8 => kernel_rfl
  case e7nr8 => kernel_rfl
  case f7nr8 => rfl
  case y7nr8 => (intro w' hSw; (try dsimp only at hSw); go_simp; try with_reducible rfl)
  try simp only [Act.put, List.setIfInBounds_toArray, List.set_cons_zero, List.set_cons_succ]
  refine AnyJ.take (i := 8) (oi := { dst := some 31, op := Op.binOp BinOp.add 3 (Operand.tmp 30) (Operand.const (Value.int IntKind.i64 1)) 3, type := 3, pos := "ref.go:61", after := #[{ on := 7, ground := .data }], guard := none }) (v := ?v8nr9) ?a8nr9 ?b8nr9 ?c8nr9 ?d8nr9 ?e8nr9 (fun _ _ _ h => h) (Or.inl ⟨?f8nr9, ?y8nr9⟩) (by assumption) ?r8nr9
  case a8nr9 => rfl
  case b8nr9 => kernel_rfl
  case c8nr9 => kernel_rfl
  case d8nr9 => kernel_rfl
  case e8nr9 => kernel_rfl
  case f8nr9 => rfl
  case y8nr9 => (intro w' hSw; (try dsimp only at hSw); go_simp; try with_reducible rfl)
  try simp only [Act.put, List.setIfInBounds_toArray, List.set_cons_zero, List.set_cons_succ]
  refine AnyJ.take (i := 9) (oi := { dst := some 32, op := Op.indexAddr 71 (Operand.tmp 29) (Operand.tmp 31), type := 0, pos := "ref.go:61", after := #[{ on := 6, ground := .data }, { on := 8, ground := .data }], guard := none }) (v := ?v9nr10) ?a9nr10 ?b9nr10 ?c9nr10 ?d9nr10 ?e9nr10 (fun _ _ _ h => h) (Or.inl ⟨?f9nr10, ?y9nr10⟩) (by assumption) ?r9nr10
  case a9nr10 => rfl
  case b9nr10 => kernel_rfl
  case c9nr10 => kernel_rfl
  case d9nr10 => kernel_rfl
  case e9nr10 => kernel_rfl
  case f9nr10 => rfl
  case y9nr10 => (intro w' hSw; (try dsimp only at hSw); go_simp; try with_reducible rfl)
  try simp only [Act.put, List.setIfInBounds_toArray, List.set_cons_zero, List.set_cons_succ]
  refine AnyJ.take (i := 10) (oi := { dst := some 33, op := Op.load 3 (Operand.tmp 32), type := 3, pos := "ref.go:61", after := #[{ on := 9, ground := .data }], guard := none }) (v := ?v10nr11) ?a10nr11 ?b10nr11 ?c10nr11 ?d10nr11 ?e10nr11 (fun _ _ _ h => h) (Or.inl ⟨?f10nr11, ?y10nr11⟩) (by assumption) ?r10nr11
  case a10nr11 => rfl
  case b10nr11 => kernel_rfl
  case c10nr11 => kernel_rfl
  case d10nr11 => kernel_rfl
  case e10nr11 => kernel_rfl
  case f10nr11 => rfl
  case y10nr11 => (intro w' hSw; (try dsimp only at hSw); obtain ⟨y0, y1, y2⟩ := hSw; go_simp; try with_reducible rfl)
  try simp only [Act.put, List.setIfInBounds_toArray, List.set_cons_zero, List.set_cons_succ]
  refine AnyJ.take (i := 11) (oi := { dst := some 34, op := Op.build 50 #[(0, Operand.tmp 28), (1, Operand.tmp 33)], type := 50, pos := "ref.go:61", after := #[{ on := 5, ground := .data }, { on := 10, ground := .data }], guard := none }) (v := ?v11nr12) ?a11nr12 ?b11nr12 ?c11nr12 ?d11nr12 ?e11nr12 (fun _ _ _ h => h) (Or.inl ⟨?f11nr12, ?y11nr12⟩) (by assumption) ?r11nr12
  case a11nr12 => rfl
  case b11nr12 => kernel_rfl
  case c11nr12 => kernel_rfl
  case d11nr12 => kernel_rfl
  case e11nr12 => kernel_rfl
  case f11nr12 => rfl
  case y11nr12 => (intro w' hSw; (try dsimp only at hSw); go_simp; try with_reducible rfl)
  try simp only [Act.put, List.setIfInBounds_toArray, List.set_cons_zero, List.set_cons_succ]
  refine AnyJ.one (i := 12) (o := { dst := some 35, op := Op.buildSlice 46 1 #[(0, Operand.tmp 34)], type := 46, pos := "ref.go:61", after := #[{ on := 11, ground := .data }], guard := none }) ?pr13 ?qr13 ?_
  case pr13 => kernel_rfl
  case qr13 => rfl
  intro K' hK
  go_simp
  have U1 := (Upd.refl Nob w).drew.alloc (.cells #[.int .i64 a, .int .i64 b] 50)
  have X1 := HC.out.upd U1 not_nob
  refine hK.out _ _ (.inr ⟨X1.cellv rfl, (U1.cell (p := la.add i) (World.block_lt_of_cell? w _ ca) not_nob).trans ca, (U1.cell (p := ⟨la.block, la.off + (i + 1), none⟩) (World.block_lt_of_cell? w _ cb) not_nob).trans cb⟩) ?_; clear hK K'
  try simp only [Act.put, List.setIfInBounds_toArray, List.set_cons_zero, List.set_cons_succ]
  refine AnyJ.one (i := 13) (o := { dst := some 36, op := Op.call { callee := Callee.builtin Builtin.append, args := #[Operand.tmp 24, Operand.tmp 35], argTypes := #[46, 46] }, type := 46, pos := "ref.go:61", after := #[{ on := 1, ground := .data }, { on := 12, ground := .data }], guard := none }) ?pr14 ?qr14 ?_
  case pr14 => kernel_rfl
  case qr14 => rfl
  intro K' hK
  have O1 := own_upd HO.out U1 (fun _ _ => not_nob)
  refine step_append_lies _ rfl (.tmp 24) (.tmp 35) 46 rfl base 50 i0 _ 2 16 Tryd.underlying46 hi0 hz0 hz1 hz2 rfl (by decide) (.slice B j c) j (pairv acc) (by rfl) O1 ⟨w.heap.size, 0, none⟩ 1 1 [.int .i64 a, .int .i64 b] (by rfl) (by rfl) (World.news_of_block (cs := #[.int .i64 a, .int .i64 b]) (t := 50) (fr := (0, 0)) (heap_alloc_new w.drew _)) (by intro u hu; simp at hu; rcases hu with rfl | rfl <;> rfl) (by decide) (by unfold maxLen; omega) (by omega) (by simp; omega) (w.heap.size + 1) (by simp) ?_
  intro gN cN wN oN gr hat hltN
  have OB := fun b (hb : (Value.slice B j c).ownBlock = some b) => own_lo O1 hb
  have UB := (Upd.refl (fun b => (Value.slice B j c).ownBlock = some b) (w.drew.alloc (.cells #[.int .i64 a, .int .i64 b] 50))).grown gr (fun b hb _ => hb)
  have UN := (U1.mono (G := fun b => b = xb ∨ base ≤ b) (fun b _ h => absurd h not_nob)).grown gr (fun b hb _ => .inr (OB b hb))
  have XN := X1.upd UB (own_ne O1 X1 (by decide))
  have nb : ¬ (fun b => (Value.slice B j c).ownBlock = some b) la.block := fun h => by have := OB _ h; omega
  have ca2 := (U1.cell (p := la.add i) (World.block_lt_of_cell? w _ ca) not_nob).trans ca
  have cb2 := (U1.cell (p := ⟨la.block, la.off + (i + 1), none⟩) (World.block_lt_of_cell? w _ cb) not_nob).trans cb
  refine hK.out _ _ (.inr ⟨XN.cellv rfl, (UB.cell (p := la.add i) (World.block_lt_of_cell? _ _ ca2) (by rw [add_block]; exact nb)).trans ca2, (UB.cell (p := ⟨la.block, la.off + (i + 1), none⟩) (World.block_lt_of_cell? _ _ cb2) nb).trans cb2⟩) ?_; clear hK K'
  try simp only [Act.put, List.setIfInBounds_toArray, List.set_cons_zero, List.set_cons_succ]
  have x4 : wN.cell? ⟨xb, 0 + 4, none⟩ = some (.slice B j c) := XN.cellv rfl
  have xS : wN.cell? ⟨xb, 0 + 4, none⟩ = some (.slice B j c) ∧ wN.cell? (la.add i) = some (.int .i64 a) ∧ wN.cell? ⟨la.block, la.off + (i + 1), none⟩ = some (.int .i64 b) := ⟨x4, (UB.cell (p := la.add i) (World.block_lt_of_cell? _ _ ca2) (by rw [add_block]; exact nb)).trans ca2, (UB.cell (p := ⟨la.block, la.off + (i + 1), none⟩) (World.block_lt_of_cell? _ _ cb2) nb).trans cb2⟩
  have z4 : wN.frozen? ⟨xb, 0 + 4, none⟩ = false := XN.frozen _
  refine AnyJ.take (i := 14) (oi := { dst := some 37, op := Op.fieldAddr 48 (Operand.tmp 5) 4, type := 0, pos := "ref.go:61", after := #[{ on := 0, ground := .phase }, { on := 1, ground := .phase }, { on := 2, ground := .phase }, { on := 3, ground := .phase }, { on := 4, ground := .phase }, { on := 5, ground := .phase }, { on := 6, ground := .phase }, { on := 7, ground := .phase }, { on := 8, ground := .phase }, { on := 9, ground := .phase }, { on := 10, ground := .phase }, { on := 11, ground := .phase }, { on := 12, ground := .phase }, { on := 13, ground := .phase }], guard := none }) (v := ?v14nr15) ?a14nr15 ?b14nr15 ?c14nr15 ?d14nr15 ?e14nr15 (fun _ _ _ h => h) (Or.inl ⟨?f14nr15, ?y14nr15⟩) (by assumption) ?r14nr15
  case a14nr15 => rfl
  case b14nr15 => kernel_rfl
  case c14nr15 => kernel_rfl
  case d14nr15 => kernel_rfl
  case e14nr15 => kernel_rfl
  case f14nr15 => rfl
  case y14nr15 => (intro w' hSw; (try dsimp only at hSw); go_simp; try with_reducible rfl)
  try simp only [Act.put, List.setIfInBounds_toArray, List.set_cons_zero, List.set_cons_succ]
  refine AnyJ.one (i := 15) (o := { dst := none, op := Op.store 46 (Operand.tmp 37) (Operand.tmp 36), type := 0, pos := "ref.go:61", after := #[{ on := 14, ground := .data }, { on := 13, ground := .data }, { on := 13, ground := .chain }, { on := 0, ground := .phase }, { on := 1, ground := .phase }, { on := 2, ground := .phase }, { on := 3, ground := .phase }, { on := 4, ground := .phase }, { on := 5, ground := .phase }, { on := 6, ground := .phase }, { on := 7, ground := .phase }, { on := 8, ground := .phase }, { on := 9, ground := .phase }, { on := 10, ground := .phase }, { on := 11, ground := .phase }, { on := 12, ground := .phase }, { on := 13, ground := .phase }], guard := none }) ?pr16 ?qr16 ?_
  case pr16 => kernel_rfl
  case qr16 => rfl
  intro K' hK
  go_simp
  refine hK.out _ _ (.inl rfl) ?_; clear hK K'
  refine AnyJ.done ?_ ?_ _
  · kernel_rfl
  have XE := XN.set_ 4 (.slice (some ⟨gN, 0, none⟩) (j + 1) cN)
  have UE := (Upd.refl (fun b => b = xb) wN).setCell ⟨xb, 4, none⟩ (.slice (some ⟨gN, 0, none⟩) (j + 1) cN) (fun _ => rfl)
  exact HY.out _ _ _ _ _ _ _ _ _ _ _ _ _ _ _ _ _ _ XE (by rw [pairv_cat]; exact own_far oN _ _ (own_ne oN XN (by decide))) (UN.trans UE (fun b _ h => .inl h))
end Go.Proofs.YtdbdokjlcdogiaaDoor
