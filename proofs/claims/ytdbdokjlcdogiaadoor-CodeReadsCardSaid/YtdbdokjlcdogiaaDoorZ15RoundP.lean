/-
  RefOp, RefIP, RoundP, put together.
-/
import Derived.Test.YtdbdokjlcdogiaaDoorZRefRd
import Derived.Test.YtdbdokjlcdogiaaDoorZ08LoadA

/-
  The walks of heronref10's next, op, many, over bytes.
-/
namespace Go.Proofs.YtdbdokjlcdogiaaDoor
open Go.RowKit
set_option linter.unusedVariables false

def nxt (bad : Bool) (rest : List Int) : Int × List Int × Bool := if bad then (0, rest, true) else varB rest
def opR (bad : Bool) (rest : List Int) : Int × List Int × Bool := if bad then (0, rest, true) else match rest with
  | [] => (0, [], false)
  | x :: r => (x, r, false)
set_option maxRecDepth 100000 in
set_option maxHeartbeats 4000000 in
theorem next_any (w : World) (S : Nat → Prop) (rb : Nat) (all rest : List Int) (bad : Bool) (h : RdR w S rb all rest bad) :
    Calls Tryd.prog 26 #[.pointer (some ⟨rb, 0, none⟩), .bool false] w (VarAns w S rb all (nxt bad rest)) := by
  obtain ⟨A, c, k, hc, -⟩ := h.at_
  have c3 := hc.cellv (i := 0 + 3) rfl
  clear hc
  have H := hideP h
  clear h
  cases bad with
  | true =>
    have e : nxt true rest = (0, rest, true) := rfl
    rw [e]
    go_enter Tryd.func26, Tryd.ntmps26
    go_wp2_with fail
    go_ret
    exact ⟨rfl, H.out, Upd.refl _ _⟩
  | false =>
    have e : nxt false rest = varB rest := rfl
    rw [e]
    generalize hP : VarAns w S rb all (varB rest) = P
    have HP := hideP hP
    clear hP e
    go_enter Tryd.func26, Tryd.ntmps26
    go_wp2_with (go_at_call 52; refine (varied_any w S rb all rest H.out).mono ?_; rintro e w3 ⟨rfl, hR3, hU3⟩)
    rw [← HP.out]
    exact ⟨rfl, hR3, hU3⟩
set_option maxRecDepth 100000 in
set_option maxHeartbeats 4000000 in
theorem op_any (w : World) (S : Nat → Prop) (rb : Nat) (all rest : List Int) (bad : Bool) (h : RdR w S rb all rest bad) :
    Calls Tryd.prog 53 #[.pointer (some ⟨rb, 0, none⟩), .bool false] w (VarAns w S rb all (opR bad rest)) := by
  have H := hideP h
  cases bad with
  | true =>
    obtain ⟨A, c, k, hc, -⟩ := h.at_
    have c3 := hc.cellv (i := 0 + 3) rfl
    clear hc h
    have e : opR true rest = (0, rest, true) := rfl
    rw [e]
    go_enter Tryd.func53, Tryd.ntmps53
    go_wp2_with fail
    go_ret
    exact ⟨rfl, H.out, Upd.refl _ _⟩
  | false =>
    cases rest with
    | nil =>
      obtain ⟨A, c, hc⟩ := h.end_
      have c1 := hc.cellv (i := 0 + 1) rfl
      have c2 := hc.cellv (i := 0 + 2) rfl
      have c3 := hc.cellv (i := 0 + 3) rfl
      clear hc h
      have e : opR false [] = (0, [], false) := rfl
      rw [e]
      go_enter Tryd.func53, Tryd.ntmps53
      go_wp2_with fail
      go_region
      go_wp2_with fail
      go_ret
      exact ⟨rfl, H.out.drew, (Upd.refl _ _).drew⟩
    | cons x r =>
      obtain ⟨ad, c, k, hc, hrd, hkl, hd, hcx, hne, hx0, hx1⟩ := h.next_
      have c1 := hc.cellv (i := 0 + 1) rfl
      have c2 := hc.cellv (i := 0 + 2) rfl
      have c3 := hc.cellv (i := 0 + 3) rfl
      have f2 := hc.frozen (0 + 2)
      have g2 : ¬ (all.length : Int) ≤ (k : Int) := by omega
      have g1 : (k : Int) < (all.length : Int) := by omega
      have hfew := h.few
      have k1 : IntKind.i64.wrap ((k : Int) + 1 - 1) = (k : Int) := by rw [IntKind.wrap_i64]; omega
      have HRS := hideP (h.step hc hrd hkl hd)
      have hcx2 : (w.setCell ⟨rb, 2, none⟩ (.int .i64 ((k : Int) + 1))).cell? (ad.add k) = some (.int .u8 x) := ((updRb w rb 2 (.int .i64 ((k : Int) + 1))).cell (p := ad.add k) (World.block_lt_of_cell? w _ hcx) (by rw [add_block]; exact hne)).trans hcx
      clear hc h hrd hd
      have e : opR false (x :: r) = (x, r, false) := rfl
      rw [e]
      go_enter Tryd.func53, Tryd.ntmps53
      go_wp2_with fail
      go_region
      go_wp2_with fail
      go_region
      go_wp2_with fail
      go_ret
      exact ⟨rfl, HRS.out.drew.drew, (updRb _ _ 2 (.int .i64 ((k : Int) + 1))).drew.drew⟩
def manyI (op : Int) : Nat := if op = 1 ∨ op = 2 ∨ op = 3 ∨ op = 4 then 2 else if op = 5 ∨ op = 7 then 1 else 0
set_option maxRecDepth 100000 in
theorem many_any (w : World) (op : Int) (h1 : 1 ≤ op) (h7 : op ≤ 7) : Calls Tryd.prog 54 #[.int .i64 op] w fun e w' => e = .returned (.int .i64 (manyI op : Nat)) ∧ w' = w := by
  have hc : op = 1 ∨ op = 2 ∨ op = 3 ∨ op = 4 ∨ op = 5 ∨ op = 6 ∨ op = 7 := by omega
  rcases hc with rfl | rfl | rfl | rfl | rfl | rfl | rfl
  all_goals
    go_enter Tryd.func54, Tryd.ntmps54
    go_wp2_with fail
    go_ret
    exact ⟨rfl, rfl⟩
end Go.Proofs.YtdbdokjlcdogiaaDoor

/-
  heronref10's instructions over bytes, in plain words.
-/
namespace Go.Proofs.YtdbdokjlcdogiaaDoor
open Go.RowKit
set_option linter.unusedVariables false

def pairsOf : List Int → List (Int × Int)
  | a :: b :: r => (a, b) :: pairsOf r
  | _ => []
/-- an instruction of its operation and its numbers -/
def mkI (op : Int) (l : List Int) : PInst :=
  if op = 1 then ⟨1, l.getD 0 0, 0, 0, pairsOf (l.drop 2)⟩
  else if op = 2 then ⟨2, l.getD 0 0, l.getD 1 0, 0, []⟩
  else if op = 3 ∨ op = 4 then ⟨op, l.getD 1 0, 0, l.getD 0 0, []⟩
  else if op = 5 then ⟨5, 0, 0, l.getD 0 0, []⟩
  else if op = 7 then ⟨7, l.getD 0 0, 0, 0, []⟩
  else ⟨op, 0, 0, 0, []⟩
/-- so many numbers -/
def numsR : Nat → Bool → List Int → List Int × List Int × Bool
  | 0, b, r => ([], r, b)
  | n + 1, b, r => ((nxt b r).1 :: (numsR n (nxt b r).2.2 (nxt b r).2.1).1, (numsR n (nxt b r).2.2 (nxt b r).2.1).2)
/-- so many numbers, as long as none is bad -/
def rngR : Nat → Bool → List Int → List Int × List Int × Bool
  | 0, b, r => ([], r, b)
  | n + 1, b, r => if b = true then ([], r, true) else ((varB r).1 :: (rngR n (varB r).2.2 (varB r).2.1).1, (rngR n (varB r).2.2 (varB r).2.1).2)
def instR (b : Bool) (r : List Int) : PInst × List Int × Bool :=
  if (opR b r).1 < 1 ∨ 7 < (opR b r).1 then (⟨0, 0, 0, 0, []⟩, (opR b r).2.1, true)
  else if (opR b r).1 = 1 then
    (mkI 1 ((numsR 2 (opR b r).2.2 (opR b r).2.1).1 ++ (rngR (2 * ((numsR 2 (opR b r).2.2 (opR b r).2.1).1.getD 1 0).toNat) (numsR 2 (opR b r).2.2 (opR b r).2.1).2.2 (numsR 2 (opR b r).2.2 (opR b r).2.1).2.1).1),
      (rngR (2 * ((numsR 2 (opR b r).2.2 (opR b r).2.1).1.getD 1 0).toNat) (numsR 2 (opR b r).2.2 (opR b r).2.1).2.2 (numsR 2 (opR b r).2.2 (opR b r).2.1).2.1).2)
  else (mkI (opR b r).1 (numsR (manyI (opR b r).1) (opR b r).2.2 (opR b r).2.1).1, (numsR (manyI (opR b r).1) (opR b r).2.2 (opR b r).2.1).2)

theorem varF_in : ∀ (f : Nat) (n step : Int) (b : Bool) (bs : List Int), Bys bs → 0 ≤ n → 0 < step → 0 ≤ (varF f n step b bs).1 ∧ (varF f n step b bs).1 + step ≤ n + step * 128 ^ f ∧ Bys (varF f n step b bs).2.1 ∧ (varF f n step b bs).2.1.length ≤ bs.length
  | 0, n, step, b, bs, hb, hn, hs => by
    unfold varF
    refine ⟨by simp, ?_, hb, Nat.le_refl _⟩
    simp
    omega
  | f + 1, n, step, b, [], hb, hn, hs => by
    unfold varF
    have hp : (1 : Int) ≤ 128 ^ (f + 1) := by exact_mod_cast Nat.one_le_pow (f + 1) 128 (by decide)
    have := Int.mul_le_mul_of_nonneg_left hp (show 0 ≤ step by omega)
    refine ⟨by simp, ?_, hb, Nat.le_refl _⟩
    show (0 : Int) + step ≤ _
    omega
  | f + 1, n, step, b, x :: r, hb, hn, hs => by
    have hx := hb x (by simp)
    have hbr : Bys r := fun y hy => hb y (by simp [hy])
    have hm0 : 0 ≤ x % 128 * step := Int.mul_nonneg (by omega) (by omega)
    have hm1 : x % 128 * step ≤ 127 * step := Int.mul_le_mul_of_nonneg_right (by omega) (by omega)
    have hp : (1 : Int) ≤ 128 ^ f := by exact_mod_cast Nat.one_le_pow f 128 (by decide)
    have hse : step * 128 ^ (f + 1) = 128 * (step * 128 ^ f) := by rw [Int.pow_succ, ← Int.mul_assoc, Int.mul_comm]
    have hsp : step ≤ step * 128 ^ f := by
      have := Int.mul_le_mul_of_nonneg_left hp (show 0 ≤ step by omega)
      omega
    unfold varF
    by_cases h1 : x < 128
    · rw [if_pos h1]
      exact ⟨(show (0 : Int) ≤ n + x % 128 * step by omega), (show n + x % 128 * step + step ≤ n + step * 128 ^ (f + 1) by rw [hse]; omega), hbr, by simp⟩
    · rw [if_neg h1]
      obtain ⟨a1, a2, a3, a4⟩ := varF_in f (n + x % 128 * step) (step * 128) false r hbr (by omega) (by omega)
      have he : step * 128 * 128 ^ f = 128 * (step * 128 ^ f) := by rw [Int.mul_comm step 128, Int.mul_assoc]
      refine ⟨a1, by rw [hse]; omega, a3, by simp; omega⟩
theorem varB_in {bs : List Int} (hb : Bys bs) : 0 ≤ (varB bs).1 ∧ (varB bs).1 < 34359738368 ∧ Bys (varB bs).2.1 ∧ (varB bs).2.1.length ≤ bs.length := by
  have := varF_in 5 0 1 true bs hb (by omega) (by omega)
  unfold varB
  refine ⟨this.1, ?_, this.2.2⟩
  have h := this.2.1
  have e : (0 : Int) + 1 * 128 ^ 5 = 34359738368 := by decide
  omega
/-- a number that is not bad takes a byte at least -/
theorem varF_less : ∀ (f : Nat) (n step : Int) (b : Bool) (bs : List Int), (varF f n step b bs).2.2 = false → (varF f n step b bs).2.1.length < bs.length
  | 0, n, step, b, bs, h => by simp [varF] at h
  | f + 1, n, step, b, [], h => by simp [varF] at h
  | f + 1, n, step, b, x :: r, h => by
    unfold varF at h ⊢
    by_cases h1 : x < 128
    · rw [if_pos h1]; simp
    · rw [if_neg h1] at h ⊢
      have := varF_less f _ _ false r h
      simp
      omega
def Num36 (x : Int) : Prop := 0 ≤ x ∧ x < 34359738368
theorem nxt_in {b : Bool} {r : List Int} (hb : Bys r) : Num36 (nxt b r).1 ∧ Bys (nxt b r).2.1 ∧ (nxt b r).2.1.length ≤ r.length := by
  unfold nxt
  cases b with
  | true => exact ⟨⟨by simp, by simp⟩, hb, Nat.le_refl _⟩
  | false => have := varB_in hb; exact ⟨⟨this.1, this.2.1⟩, this.2.2⟩
theorem numsR_in : ∀ (n : Nat) (b : Bool) (r : List Int), Bys r → (∀ x ∈ (numsR n b r).1, Num36 x) ∧ (numsR n b r).1.length = n ∧ Bys (numsR n b r).2.1 ∧ (numsR n b r).2.1.length ≤ r.length
  | 0, b, r, hb => ⟨fun x hx => by simp [numsR] at hx, rfl, hb, Nat.le_refl _⟩
  | n + 1, b, r, hb => by
    obtain ⟨a1, a2, a3⟩ := nxt_in (b := b) hb
    obtain ⟨c1, c2, c3, c4⟩ := numsR_in n (nxt b r).2.2 (nxt b r).2.1 a2
    unfold numsR
    refine ⟨fun x hx => ?_, by simp [c2], c3, by simp only; omega⟩
    rcases List.mem_cons.1 hx with rfl | hx
    · exact a1
    · exact c1 x hx
theorem rngR_in : ∀ (n : Nat) (b : Bool) (r : List Int), Bys r → (∀ x ∈ (rngR n b r).1, Num36 x) ∧ (rngR n b r).1.length ≤ r.length + 1 ∧ Bys (rngR n b r).2.1 ∧ (rngR n b r).2.1.length ≤ r.length
  | 0, b, r, hb => ⟨fun x hx => by simp [rngR] at hx, by simp [rngR], hb, Nat.le_refl _⟩
  | n + 1, true, r, hb => ⟨fun x hx => by simp [rngR] at hx, by simp [rngR], hb, by simp [rngR]⟩
  | n + 1, false, r, hb => by
    obtain ⟨a1, a2, a3, a4⟩ := varB_in hb
    obtain ⟨c1, c2, c3, c4⟩ := rngR_in n (varB r).2.2 (varB r).2.1 a3
    have e : rngR (n + 1) false r = ((varB r).1 :: (rngR n (varB r).2.2 (varB r).2.1).1, (rngR n (varB r).2.2 (varB r).2.1).2) := by rw [rngR, if_neg (by simp)]
    rw [e]
    refine ⟨fun x hx => ?_, ?_, c3, by simp only; omega⟩
    · rcases List.mem_cons.1 hx with rfl | hx
      · exact ⟨a1, a2⟩
      · exact c1 x hx
    · simp only [List.length_cons]
      cases hv : (varB r).2.2 with
      | true =>
        have : rngR n true (varB r).2.1 = ([], (varB r).2.1, true) := by cases n <;> simp [rngR]
        rw [this]
        simp
      | false =>
        have := varF_less 5 0 1 true r hv
        rw [hv] at c2
        unfold varB at c2 ⊢
        omega
theorem pairsOf_in : ∀ (l : List Int), (∀ x ∈ l, Num36 x) → In64s (pairsOf l) ∧ (pairsOf l).length ≤ l.length
  | [], h => ⟨fun x hx => by simp [pairsOf] at hx, by simp [pairsOf]⟩
  | [a], h => ⟨fun x hx => by simp [pairsOf] at hx, by simp [pairsOf]⟩
  | a :: b :: r, h => by
    obtain ⟨h1, h2⟩ := pairsOf_in r (fun x hx => h x (by simp [hx]))
    have ha := h a (by simp)
    have hb := h b (by simp)
    unfold pairsOf
    refine ⟨fun x hx => ?_, by simp; omega⟩
    rcases List.mem_cons.1 hx with rfl | hx
    · unfold Num36 at ha hb
      unfold In64
      simp only
      omega
    · exact h1 x hx
theorem in64_36 {x : Int} (h : Num36 x) : In64 x := by unfold Num36 at h; unfold In64; omega
theorem getD_36 {l : List Int} (h : ∀ x ∈ l, Num36 x) (i : Nat) : Num36 (l.getD i 0) := by
  rw [List.getD_eq_getElem?_getD]
  cases hx : l[i]? with
  | none => exact ⟨by simp, by simp⟩
  | some x => exact h x (List.mem_of_getElem? hx)
theorem mkI_in {op : Int} {l : List Int} (ho : 0 ≤ op ∧ op ≤ 255) (h : ∀ x ∈ l, Num36 x) (hl : l.length ≤ 100000000) : NumI (mkI op l) := by
  have g0 := in64_36 (getD_36 h 0)
  have g1 := in64_36 (getD_36 h 1)
  have s0 := in64_0
  have so : In64 op := by unfold In64; omega
  have k1 : In64 1 := by unfold In64; omega
  have k2 : In64 2 := by unfold In64; omega
  have k5 : In64 5 := by unfold In64; omega
  have k7 : In64 7 := by unfold In64; omega
  unfold mkI
  split
  · obtain ⟨a, b⟩ := pairsOf_in (l.drop 2) (fun x hx => h x (List.mem_of_mem_drop hx))
    refine ⟨⟨k1, g0, s0, s0⟩, a, ?_⟩
    rw [List.length_drop] at b
    show (pairsOf (l.drop 2)).length ≤ _
    omega
  split
  · exact numI_of k2 g0 g1 s0
  split
  · exact numI_of so g1 s0 g0
  split
  · exact numI_of k5 s0 s0 g0
  split
  · exact numI_of k7 g0 s0 s0
  · exact numI_of so s0 s0 s0
theorem opR_in {b : Bool} {r : List Int} (hb : Bys r) : 0 ≤ (opR b r).1 ∧ (opR b r).1 ≤ 255 ∧ Bys (opR b r).2.1 ∧ (opR b r).2.1.length ≤ r.length := by
  unfold opR
  cases b with
  | true => exact ⟨by simp, by simp, hb, Nat.le_refl _⟩
  | false =>
    cases r with
    | nil => exact ⟨by simp, by simp, hb, Nat.le_refl _⟩
    | cons x q => exact ⟨(hb x (by simp)).1, (hb x (by simp)).2, fun y (hy : y ∈ q) => hb y (List.mem_cons_of_mem _ hy), by simp⟩
theorem instR_in {b : Bool} {r : List Int} (hb : Bys r) (hl : r.length ≤ 8388608) : NumI (instR b r).1 ∧ Bys (instR b r).2.1 ∧ (instR b r).2.1.length ≤ r.length := by
  obtain ⟨o1, o2, o3, o4⟩ := opR_in (b := b) hb
  unfold instR
  split
  · exact ⟨⟨⟨in64_0, in64_0, in64_0, in64_0⟩, fun x hx => by simp at hx, by simp⟩, o3, o4⟩
  split
  · obtain ⟨n1, n2, n3, n4⟩ := numsR_in 2 (opR b r).2.2 (opR b r).2.1 o3
    obtain ⟨g1, g2, g3, g4⟩ := rngR_in (2 * ((numsR 2 (opR b r).2.2 (opR b r).2.1).1.getD 1 0).toNat) (numsR 2 (opR b r).2.2 (opR b r).2.1).2.2 (numsR 2 (opR b r).2.2 (opR b r).2.1).2.1 n3
    refine ⟨?_, g3, by simp only; omega⟩
    show NumI (mkI 1 _)
    refine mkI_in ⟨by decide, by decide⟩ (fun x hx => ?_) (by rw [List.length_append]; omega)
    rcases List.mem_append.1 hx with hx | hx
    · exact n1 x hx
    · exact g1 x hx
  · obtain ⟨n1, n2, n3, n4⟩ := numsR_in (manyI (opR b r).1) (opR b r).2.2 (opR b r).2.1 o3
    have hm : manyI (opR b r).1 ≤ 2 := by unfold manyI; split; omega; split <;> omega
    exact ⟨mkI_in ⟨o1, o2⟩ n1 (by omega), n3, by simp only; omega⟩
/-- what is bad stays bad -/
theorem numsR_bad : ∀ (n : Nat) (r : List Int), (numsR n true r).2 = (r, true)
  | 0, r => rfl
  | n + 1, r => by
    unfold numsR
    simp only [nxt, if_true]
    exact numsR_bad n r
/-- an instruction that is not bad takes a byte at least -/
theorem instR_less {r : List Int} (hb : Bys r) (h : (instR false r).2.2 = false) : (instR false r).2.1.length < r.length := by
  cases r with
  | nil => simp [instR, opR] at h
  | cons x q =>
    have hbq : Bys q := fun y hy => hb y (by simp [hy])
    have e1 : opR false (x :: q) = (x, q, false) := rfl
    unfold instR at h ⊢
    rw [e1] at h ⊢
    simp only at h ⊢
    split at h
    · cases h
    · rename_i h1
      rw [if_neg h1]
      split
      · obtain ⟨n1, n2, n3, n4⟩ := numsR_in 2 false q hbq
        obtain ⟨g1, g2, g3, g4⟩ := rngR_in (2 * ((numsR 2 false q).1.getD 1 0).toNat) (numsR 2 false q).2.2 (numsR 2 false q).2.1 n3
        simp only [List.length_cons]
        omega
      · obtain ⟨n1, n2, n3, n4⟩ := numsR_in (manyI x) false q hbq
        simp only [List.length_cons]
        omega
end Go.Proofs.YtdbdokjlcdogiaaDoor

/-
  Plain law: what Bytes lays, Load reads back.
-/
namespace Go.Proofs.YtdbdokjlcdogiaaDoor
open Go.RowKit
set_option linter.unusedVariables false

theorem numF_put : ∀ (f : Nat) (n : Nat) (acc step : Int) (first : Bool) (r : List Int), n < 128 ^ f → (first = false → 0 < n) → 0 < f → numF f acc step first (putN n ++ r) = some (acc + n * step, r)
  | 0, n, acc, step, first, r, h, h1, h2 => by omega
  | f + 1, n, acc, step, first, r, h, h1, h2 => by
    by_cases hs : n < 128
    · rw [putN_small hs, List.singleton_append]
      unfold numF
      rw [if_pos (by omega), if_pos (by cases first <;> simp_all)]
      have : (n : Int) % 128 = n := by omega
      rw [this]
    · rw [putN_big hs, List.cons_append]
      unfold numF
      have hf : 0 < f := by
        rcases Nat.eq_zero_or_pos f with h0 | h0
        · subst h0; simp at h; omega
        · exact h0
      have hp : 128 ^ (f + 1) = 128 ^ f * 128 := Nat.pow_succ ..
      rw [if_neg (by omega), numF_put f (n / 128) _ _ false r (by omega) (fun _ => by omega) hf]
      have hm : ((128 + n % 128 : Nat) : Int) % 128 = ((n % 128 : Nat) : Int) := by omega
      have hn : (n : Int) = 128 * ((n / 128 : Nat) : Int) + ((n % 128 : Nat) : Int) := by omega
      rw [hm]
      congr 2
      rw [hn, Int.add_mul, Int.mul_comm 128 ((n / 128 : Nat) : Int), Int.mul_assoc, Int.mul_comm 128 step, Int.add_assoc, Int.add_comm (((n % 128 : Nat) : Int) * step)]
theorem numB_put (n : Nat) (r : List Int) (h : n < 268435456) : numB (putN n ++ r) = some ((n : Int), r) := by
  unfold numB
  rw [numF_put 4 n 0 1 true r (by omega) (fun h => by cases h) (by omega)]
  simp
end Go.Proofs.YtdbdokjlcdogiaaDoor
