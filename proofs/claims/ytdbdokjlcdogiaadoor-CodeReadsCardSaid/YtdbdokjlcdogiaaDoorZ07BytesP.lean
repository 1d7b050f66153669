/-
  Crc, Sum, BytesP, put together.
-/
import Derived.Test.YtdbdokjlcdogiaaDoorZ03LoadN
import Derived.Test.YtdbdokjlcdogiaaDoorZ05Held

/-
  Plain law of the CRC of 32 bits: one byte turned is told.
-/
namespace Go.Proofs.YtdbdokjlcdogiaaDoor
set_option linter.unusedVariables false

/-- one bit of the CRC -/
def crcG (c : BitVec 32) : BitVec 32 := if c.getLsbD 0 then (c >>> 1) ^^^ 0xEDB88320#32 else c >>> 1
theorem crcG_top (c : BitVec 32) : (crcG c).getLsbD 31 = c.getLsbD 0 := by
  unfold crcG
  split
  · rename_i h
    rw [BitVec.getLsbD_xor, BitVec.getLsbD_ushiftRight, h, BitVec.getLsbD_of_ge _ _ (by omega)]
    decide
  · rename_i h
    rw [BitVec.getLsbD_ushiftRight, BitVec.getLsbD_of_ge _ _ (by omega)]
    simpa using h
theorem crcG_inj {a b : BitVec 32} (h : crcG a = crcG b) : a = b := by
  have h0 : a.getLsbD 0 = b.getLsbD 0 := by rw [← crcG_top, ← crcG_top, h]
  have hs : a >>> 1 = b >>> 1 := by
    unfold crcG at h
    rw [h0] at h
    split at h
    · have h1 := congrArg (· ^^^ 0xEDB88320#32) h
      simpa [BitVec.xor_assoc] using h1
    · exact h
  refine BitVec.eq_of_getLsbD_eq fun i hi => ?_
  cases i with
  | zero => exact h0
  | succ i =>
    have h1 := congrArg (fun v : BitVec 32 => v.getLsbD i) hs
    simp only [BitVec.getLsbD_ushiftRight] at h1
    rw [Nat.add_comm] at h1
    exact h1
/-- so many bits -/
def crcN : Nat → BitVec 32 → BitVec 32
  | 0, c => c
  | k + 1, c => crcN k (crcG c)
theorem crcN_inj : ∀ (k : Nat) {a b : BitVec 32}, crcN k a = crcN k b → a = b
  | 0, _, _, h => h
  | k + 1, _, _, h => crcG_inj (crcN_inj k h)
/-- a byte -/
def crcB (c : BitVec 32) (x : BitVec 8) : BitVec 32 := crcN 8 (c ^^^ x.setWidth 32)
theorem crcB_left {a b : BitVec 32} {x : BitVec 8} (h : crcB a x = crcB b x) : a = b := by
  have h1 := congrArg (· ^^^ x.setWidth 32) (crcN_inj 8 h)
  simpa [BitVec.xor_assoc] using h1
theorem crcB_right {c : BitVec 32} {x y : BitVec 8} (h : crcB c x = crcB c y) : x = y := by
  have h1 := congrArg (fun v => c ^^^ v) (crcN_inj 8 h)
  simp only [← BitVec.xor_assoc, BitVec.xor_self, BitVec.zero_xor] at h1
  have h2 := congrArg (fun v : BitVec 32 => v.setWidth 8) h1
  simpa using h2
/-- bytes -/
def crcL (c : BitVec 32) (l : List (BitVec 8)) : BitVec 32 := l.foldl crcB c
theorem crcL_inj : ∀ (l : List (BitVec 8)) {a b : BitVec 32}, crcL a l = crcL b l → a = b
  | [], _, _, h => h
  | x :: l, _, _, h => crcB_left (crcL_inj l h)
/-- one byte turned: another sum -/
theorem crc_turned (c : BitVec 32) (l r : List (BitVec 8)) (x y : BitVec 8) (h : crcL c (l ++ x :: r) = crcL c (l ++ y :: r)) : x = y := by
  unfold crcL at h
  rw [List.foldl_append, List.foldl_append, List.foldl_cons, List.foldl_cons] at h
  exact crcB_right (crcL_inj r h)
end Go.Proofs.YtdbdokjlcdogiaaDoor

/-
  The walks of code.sum and heronref10.Sum: the CRC.
-/
namespace Go.Proofs.YtdbdokjlcdogiaaDoor
open Go.RowKit
set_option linter.unusedVariables false

theorem ofInt_toNat32 (c : BitVec 32) : BitVec.ofInt 32 (c.toNat : Int) = c := by
  apply BitVec.eq_of_toNat_eq
  rw [BitVec.toNat_ofInt]
  have := c.isLt
  omega
theorem wrap32 (c : BitVec 32) : IntKind.u32.wrap ((c.toNat : Int)) = (c.toNat : Int) := by
  have := c.isLt
  simp [IntKind.wrap, IntKind.bits, IntKind.signed]
  omega
theorem xor32 (c d : BitVec 32) : bits .xor .u32 (c.toNat : Int) (d.toNat : Int) = ((c ^^^ d).toNat : Int) := by
  show IntKind.u32.wrap ((BitVec.ofInt 32 (c.toNat : Int) ^^^ BitVec.ofInt 32 (d.toNat : Int)).toNat : Int) = _
  rw [ofInt_toNat32, ofInt_toNat32, wrap32]
theorem and32 (c d : BitVec 32) : bits .and .u32 (c.toNat : Int) (d.toNat : Int) = ((c &&& d).toNat : Int) := by
  show IntKind.u32.wrap ((BitVec.ofInt 32 (c.toNat : Int) &&& BitVec.ofInt 32 (d.toNat : Int)).toNat : Int) = _
  rw [ofInt_toNat32, ofInt_toNat32, wrap32]
/-- the sum of bytes -/
def bytesB (xs : List Int) : List (BitVec 8) := xs.map fun x => BitVec.ofInt 8 x
def sumV (xs : List Int) : Int := ((~~~ (crcL 0xFFFFFFFF#32 (bytesB xs))).toNat : Int)

theorem shr32 (c : BitVec 32) : (c.toNat : Int) / (2 : Int) = ((c >>> 1).toNat : Int) := by
  rw [BitVec.toNat_ushiftRight, Nat.shiftRight_eq_div_pow]
  omega
theorem low32 (c : BitVec 32) : bits .and .u32 (c.toNat : Int) 1 = if c.getLsbD 0 then 1 else 0 := by
  have h := and32 c 1#32
  rw [show ((1#32 : BitVec 32).toNat : Int) = 1 from rfl] at h
  rw [h, BitVec.toNat_and, show (1#32 : BitVec 32).toNat = 1 from rfl, Nat.and_one_is_mod]
  have h2 : c.getLsbD 0 = decide (c.toNat % 2 = 1) := by
    rw [BitVec.getLsbD, Nat.testBit_zero]
  rw [h2]
  by_cases h3 : c.toNat % 2 = 1
  · rw [if_pos (decide_eq_true h3), h3]; rfl
  · rw [if_neg (by simpa using h3)]; omega
theorem mod32 (c : BitVec 32) : (c.toNat : Int) % (2 : Int) = if c.getLsbD 0 then 1 else 0 := by
  have h2 : c.getLsbD 0 = decide (c.toNat % 2 = 1) := by
    rw [BitVec.getLsbD, Nat.testBit_zero]
  rw [h2]
  by_cases h3 : c.toNat % 2 = 1
  · rw [if_pos (decide_eq_true h3)]; omega
  · rw [if_neg (by simpa using h3)]; omega
theorem byte32 (x : Int) (h0 : 0 ≤ x) (h1 : x ≤ 255) : (((BitVec.ofInt 8 x).setWidth 32).toNat : Int) = x := by
  rw [BitVec.toNat_setWidth, BitVec.toNat_ofInt]
  omega
theorem crcL_step {xs : List Int} {k : Nat} {x : Int} (hx : xs[k]? = some x) (c : BitVec 32) : crcL c (bytesB (xs.take (k + 1))) = crcB (crcL c (bytesB (xs.take k))) (BitVec.ofInt 8 x) := by
  rw [List.take_add_one, hx]
  simp [bytesB, crcL, List.foldl_append]

set_option maxRecDepth 100000 in
set_option maxHeartbeats 2000000 in
theorem sum_any (w : World) (S : Nat → Prop) (A : Option Addr) (n c : Nat) (xs : List Int) (hx : Reads w S 1 A n (bytv xs)) (h8 : ∀ x ∈ xs, 0 ≤ x ∧ x ≤ 255) (hn : n ≤ 140737488355328) :
    Calls Tryd.prog 32 #[.slice A n c] w fun e w' => e = .returned (.int .u32 (sumV xs)) ∧ ∃ q, w' = w.drewN q := by
  obtain rfl : xs.length = n := by have := hx.1; simpa [bytv] using this
  have HX := hideP hx
  clear hx
  go_enter Tryd.func32, Tryd.ntmps32
  go_wp2_with fail
  go_loopg [3, 8] xs.length (fun gk v3 v8 wr => ∃ (k : Nat) (cv : Int), k + gk = xs.length ∧ v8 = .int .i64 (k : Int) ∧ v3 = .int .u32 cv ∧ cv = ((crcL 0xFFFFFFFF#32 (bytesB (xs.take k))).toNat : Int) ∧ w = wr)
  case atStart => exact ⟨0, 4294967295, by omega, rfl, rfl, by simp [bytesB, crcL], rfl⟩
  case round =>
    obtain ⟨k, cv, hk, rfl, rfl, hc, rfl⟩ := hrel
    by_cases hlt : k < xs.length
    · have g1 : (k : Int) < (xs.length : Int) := by omega
      obtain ⟨ad, u, rfl, _, _, hu, hcell⟩ := HX.out.at1 hlt
      simp only [bytv, List.getElem?_map, Option.map_eq_some_iff] at hu
      obtain ⟨x, hxk, rfl⟩ := hu
      obtain ⟨x0, x1⟩ := h8 x (List.mem_of_getElem? hxk)
      generalize hC : crcL 0xFFFFFFFF#32 (bytesB (xs.take k)) = C at *
      have hxo : bits .xor .u32 cv x = ((C ^^^ (BitVec.ofInt 8 x).setWidth 32).toNat : Int) := by
        have h := xor32 C ((BitVec.ofInt 8 x).setWidth 32)
        rw [byte32 x x0 x1, ← hc] at h
        exact h
      generalize hD : C ^^^ (BitVec.ofInt 8 x).setWidth 32 = D at *
      generalize hdv : (D.toNat : Int) = dv at *
      have HS := hideP (crcL_step hxk 0xFFFFFFFF#32)
      have HC := hideP hC
      have HD := hideP hD
      have HDV := hideP hdv
      have HK := hideP hk
      clear hC hD hdv hc hxk hk
      go_wp2_with fail
      go_loopg [3, 16] 8 (fun gk v3 v16 wr => ∃ (j : Nat) (E : BitVec 32) (ev : Int), j + gk = 8 ∧ v16 = .int .i64 (j : Int) ∧ v3 = .int .u32 ev ∧ ev = (E.toNat : Int) ∧ crcN (8 - j) E = crcN 8 D ∧ w = wr)
      case atStart => exact ⟨0, D, dv, rfl, rfl, rfl, HDV.out.symm, rfl, rfl⟩
      case round =>
        obtain ⟨j, E, ev, hj, rfl, rfl, he, hcr, rfl⟩ := hrel
        by_cases hj8 : j < 8
        · have g2 : (j : Int) < 8 := by omega
          have hlow := low32 E
          have hsh := shr32 E
          have hstep : crcN (8 - (j + 1)) (crcG E) = crcN 8 D := by
            rw [show 8 - j = (8 - (j + 1)) + 1 by omega] at hcr
            exact hcr
          rw [← he] at hlow hsh
          have HST := hideP hstep
          have ev0 : 0 ≤ ev := by omega
          have ev1 : ev < 4294967296 := by have := E.isLt; omega
          generalize hF : E >>> 1 = F at *
          obtain ⟨fv, hfv⟩ : ∃ fv : Int, (F.toNat : Int) = fv := ⟨_, rfl⟩
          rw [hfv] at hsh
          have fv0 : 0 ≤ fv := by omega
          have HFV := hideP hfv
          have HSH := hideP hsh
          clear hsh
          have HF := hideP hF
          clear hF hfv hcr hstep he
          cases hb : E.getLsbD 0
          · rw [hb, if_neg Bool.false_ne_true] at hlow
            have hg : crcG E = F := by unfold crcG; rw [hb, ← HF.out]; rfl
            have HG := hideP hg
            clear hb hg
            go_wp2_with fail
            go_roundg (8 - (j + 1))
            case measure => omega
            case rel => exact ⟨j + 1, F, ev / 2, by omega, by go_num, rfl, HSH.out.trans HFV.out.symm, by rw [← HG.out]; exact HST.out, rfl⟩
          · rw [hb, if_pos rfl] at hlow
            have hxp : bits .xor .u32 fv 3988292384 = ((F ^^^ 0xEDB88320#32).toNat : Int) := by
              have h := xor32 F 0xEDB88320#32
              rw [HFV.out] at h
              exact h
            obtain ⟨pv, hpv⟩ : ∃ pv : Int, ((F ^^^ 0xEDB88320#32).toNat : Int) = pv := ⟨_, rfl⟩
            rw [hpv] at hxp
            have hg : crcG E = F ^^^ 0xEDB88320#32 := by unfold crcG; rw [hb, ← HF.out]; rfl
            have HG := hideP hg
            have HPV := hideP hpv
            have HXP := hideP hxp
            clear hb hg hpv hxp
            go_wp2_with fail
            go_roundg (8 - (j + 1))
            case measure => omega
            case rel => exact ⟨j + 1, F ^^^ 0xEDB88320#32, _, by omega, by go_num, rfl, by rw [HSH.out, HXP.out]; exact HPV.out.symm, by rw [← HG.out]; exact HST.out, rfl⟩
        · have g2 : ¬ (j : Int) < 8 := by omega
          obtain rfl : j = 8 := by omega
          have hE : E = crcN 8 D := hcr
          have HE := hideP hE
          have HEV := hideP he
          clear hE hcr he hj
          go_wp2_with fail
          have hk := HK.out
          go_roundg (xs.length - (k + 1))
          case measure => omega
          case rel => exact ⟨k + 1, ev, by omega, by go_num, rfl, by rw [HEV.out, HE.out, HS.out, HC.out, ← HD.out]; rfl, rfl⟩
    · have g1 : ¬ (k : Int) < (xs.length : Int) := by omega
      obtain rfl : k = xs.length := by omega
      rw [List.take_length] at hc
      have HC := hideP hc
      clear hc hk
      have hnot : bits .xor .u32 IntKind.u32.max cv = sumV xs := by
        have h := xor32 (BitVec.allOnes 32) (crcL 0xFFFFFFFF#32 (bytesB xs))
        rw [← HC.out] at h
        have h2 : IntKind.u32.max = ((BitVec.allOnes 32).toNat : Int) := by decide
        rw [h2, h]
        unfold sumV
        congr 2
      have HNOT := hideP hnot
      clear hnot
      go_wp2_with fail
      go_ret
      exact ⟨congrArg Ending.returned (congrArg (Value.int .u32) HNOT.out), 0, rfl⟩

set_option maxRecDepth 100000 in
set_option maxHeartbeats 2000000 in
theorem refSum_any (w : World) (S : Nat → Prop) (A : Option Addr) (n c : Nat) (xs : List Int) (hx : Reads w S 1 A n (bytv xs)) (h8 : ∀ x ∈ xs, 0 ≤ x ∧ x ≤ 255) (hn : n ≤ 140737488355328) :
    Calls Tryd.prog 25 #[.slice A n c] w fun e w' => e = .returned (.int .u32 (sumV xs)) ∧ ∃ q, w' = w.drewN q := by
  obtain rfl : xs.length = n := by have := hx.1; simpa [bytv] using this
  have HX := hideP hx
  clear hx
  go_enter Tryd.func25, Tryd.ntmps25
  go_wp2_with fail
  go_loopg [3, 4] xs.length (fun gk v3 v4 wr => ∃ (k : Nat) (cv : Int), k + gk = xs.length ∧ v4 = .int .i64 (k : Int) ∧ v3 = .int .u32 cv ∧ cv = ((crcL 0xFFFFFFFF#32 (bytesB (xs.take k))).toNat : Int) ∧ w = wr)
  case atStart => exact ⟨0, 4294967295, by omega, rfl, rfl, by simp [bytesB, crcL], rfl⟩
  case round =>
    obtain ⟨k, cv, hk, rfl, rfl, hc, rfl⟩ := hrel
    by_cases hlt : k < xs.length
    · have g1 : (k : Int) < (xs.length : Int) := by omega
      obtain ⟨ad, u, rfl, _, _, hu, hcell⟩ := HX.out.at1 hlt
      simp only [bytv, List.getElem?_map, Option.map_eq_some_iff] at hu
      obtain ⟨x, hxk, rfl⟩ := hu
      obtain ⟨x0, x1⟩ := h8 x (List.mem_of_getElem? hxk)
      generalize hC : crcL 0xFFFFFFFF#32 (bytesB (xs.take k)) = C at *
      have hxo : bits .xor .u32 cv x = ((C ^^^ (BitVec.ofInt 8 x).setWidth 32).toNat : Int) := by
        have h := xor32 C ((BitVec.ofInt 8 x).setWidth 32)
        rw [byte32 x x0 x1, ← hc] at h
        exact h
      generalize hD : C ^^^ (BitVec.ofInt 8 x).setWidth 32 = D at *
      generalize hdv : (D.toNat : Int) = dv at *
      have HS := hideP (crcL_step hxk 0xFFFFFFFF#32)
      have HC := hideP hC
      have HD := hideP hD
      have HDV := hideP hdv
      have HK := hideP hk
      clear hC hD hdv hc hxk hk
      go_wp2_with fail
      go_loopg [3, 5] 8 (fun gk v3 v5 wr => ∃ (j : Nat) (E : BitVec 32) (ev : Int), j + gk = 8 ∧ v5 = .int .i64 (j : Int) ∧ v3 = .int .u32 ev ∧ ev = (E.toNat : Int) ∧ crcN (8 - j) E = crcN 8 D ∧ w = wr)
      case atStart => exact ⟨0, D, dv, rfl, rfl, rfl, HDV.out.symm, rfl, rfl⟩
      case round =>
        obtain ⟨j, E, ev, hj, rfl, rfl, he, hcr, rfl⟩ := hrel
        by_cases hj8 : j < 8
        · have g2 : (j : Int) < 8 := by omega
          have hlow := mod32 E
          have hsh := shr32 E
          have hstep : crcN (8 - (j + 1)) (crcG E) = crcN 8 D := by
            rw [show 8 - j = (8 - (j + 1)) + 1 by omega] at hcr
            exact hcr
          rw [← he] at hlow hsh
          have HST := hideP hstep
          have ev0 : 0 ≤ ev := by omega
          have ev1 : ev < 4294967296 := by have := E.isLt; omega
          generalize hF : E >>> 1 = F at *
          obtain ⟨fv, hfv⟩ : ∃ fv : Int, (F.toNat : Int) = fv := ⟨_, rfl⟩
          rw [hfv] at hsh
          have fv0 : 0 ≤ fv := by omega
          have HFV := hideP hfv
          have HSH := hideP hsh
          clear hsh
          have HF := hideP hF
          clear hF hfv hcr hstep he
          cases hb : E.getLsbD 0
          · rw [hb, if_neg Bool.false_ne_true] at hlow
            have hg : crcG E = F := by unfold crcG; rw [hb, ← HF.out]; rfl
            have HG := hideP hg
            clear hb hg
            have htm : ev.tmod 2 = ev % 2 := Int.tmod_eq_emod_of_nonneg ev0
            rw [hlow] at htm
            go_wp2_with fail
            go_roundg (8 - (j + 1))
            case measure => omega
            case rel => exact ⟨j + 1, F, ev / 2, by omega, by go_num, rfl, HSH.out.trans HFV.out.symm, by rw [← HG.out]; exact HST.out, rfl⟩
          · rw [hb, if_pos rfl] at hlow
            have hxp : bits .xor .u32 fv 3988292384 = ((F ^^^ 0xEDB88320#32).toNat : Int) := by
              have h := xor32 F 0xEDB88320#32
              rw [HFV.out] at h
              exact h
            obtain ⟨pv, hpv⟩ : ∃ pv : Int, ((F ^^^ 0xEDB88320#32).toNat : Int) = pv := ⟨_, rfl⟩
            rw [hpv] at hxp
            have hg : crcG E = F ^^^ 0xEDB88320#32 := by unfold crcG; rw [hb, ← HF.out]; rfl
            have HG := hideP hg
            have HPV := hideP hpv
            have HXP := hideP hxp
            clear hb hg hpv hxp
            have htm : ev.tmod 2 = ev % 2 := Int.tmod_eq_emod_of_nonneg ev0
            rw [hlow] at htm
            go_wp2_with fail
            go_roundg (8 - (j + 1))
            case measure => omega
            case rel => exact ⟨j + 1, F ^^^ 0xEDB88320#32, _, by omega, by go_num, rfl, by rw [HSH.out, HXP.out]; exact HPV.out.symm, by rw [← HG.out]; exact HST.out, rfl⟩
        · have g2 : ¬ (j : Int) < 8 := by omega
          obtain rfl : j = 8 := by omega
          have hE : E = crcN 8 D := hcr
          have HE := hideP hE
          have HEV := hideP he
          clear hE hcr he hj
          go_wp2_with fail
          have hk := HK.out
          go_roundg (xs.length - (k + 1))
          case measure => omega
          case rel => exact ⟨k + 1, ev, by omega, by go_num, rfl, by rw [HEV.out, HE.out, HS.out, HC.out, ← HD.out]; rfl, rfl⟩
    · have g1 : ¬ (k : Int) < (xs.length : Int) := by omega
      obtain rfl : k = xs.length := by omega
      rw [List.take_length] at hc
      have HC := hideP hc
      clear hc hk
      have hnot : bits .xor .u32 cv 4294967295 = sumV xs := by
        have h := xor32 (crcL 0xFFFFFFFF#32 (bytesB xs)) 0xFFFFFFFF#32
        rw [← HC.out] at h
        rw [show ((0xFFFFFFFF#32 : BitVec 32).toNat : Int) = 4294967295 from rfl] at h
        rw [h]
        unfold sumV
        congr 2
        exact BitVec.xor_allOnes
      have HNOT := hideP hnot
      clear hnot
      go_wp2_with fail
      go_ret
      exact ⟨congrArg Ending.returned (congrArg (Value.int .u32) HNOT.out), 0, rfl⟩
end Go.Proofs.YtdbdokjlcdogiaaDoor

/-
  A program's bytes and its text in plain words, and the bounds of a checked program's numbers.
-/
namespace Go.Proofs.YtdbdokjlcdogiaaDoor
set_option linter.unusedVariables false

/-- an instruction's bytes -/
def instB (x : PInst) : List Int := x.op :: (numsOf x).flatMap fun n => putN n.toNat
/-- the instructions behind bytes; none: too many -/
def instsB : List PInst → List Int → Option (List Int)
  | [], b => some b
  | x :: r, b => if 8388604 < (b ++ instB x).length then none else instsB r (b ++ instB x)
def tail4 (s : Int) : List Int := [s % 256, s / 256 % 256, s / 65536 % 256, s / 16777216 % 256]
def headB (n : Nat) (start caps : Int) : List Int := ((([72, 82, 80, 71] ++ putN caps.toNat) ++ putN start.toNat) ++ putN n : List Int)
/-- P10.3 -/
def bytesOf (is : List PInst) (start caps : Int) : List Int × Int :=
  if checkB is start caps then
    match instsB is (headB is.length start caps) with
    | some b => (b ++ tail4 (sumV b), 0)
    | none => ([], 3)
  else ([], 90)
theorem instsB_drop {is : List PInst} {k : Nat} {x : PInst} (b : List Int) (h : is[k]? = some x) : instsB (is.drop k) b = if 8388604 < (b ++ instB x).length then none else instsB (is.drop (k + 1)) (b ++ instB x) := by
  have hl := (List.getElem?_eq_some_iff.1 h).1
  rw [List.drop_eq_getElem_cons hl]
  rw [List.getElem?_eq_getElem hl] at h
  injection h with h
  rw [h]
  rfl

/-- what a checked instruction's numbers are -/
structure FineI (x : PInst) : Prop where
  op0 : 1 ≤ x.op
  op1 : x.op ≤ 7
  nums : ∀ n ∈ numsOf x, 0 ≤ n ∧ n < 2097152
  rs : x.rs.length ≤ 5000
theorem flatR_mem : ∀ {l : List (Int × Int)} {n : Int}, n ∈ flatR l → ∃ r ∈ l, n = r.1 ∨ n = r.2
  | [], n, h => by simp [flatR] at h
  | r :: l, n, h => by
    simp only [flatR, List.mem_cons] at h
    rcases h with h | h | h
    · exact ⟨r, by simp, .inl h⟩
    · exact ⟨r, by simp, .inr h⟩
    · obtain ⟨q, hq, e⟩ := flatR_mem h
      exact ⟨q, by simp [hq], e⟩
theorem rightFrom_mem : ∀ {l : List (Int × Int)} {p : Option (Int × Int)} {r : Int × Int}, rightFrom p l = true → r ∈ l → domB r.1 = true ∧ domB r.2 = true
  | [], p, r, h, hr => by simp at hr
  | x :: l, p, r, h, hr => by
    simp only [rightFrom, Bool.and_eq_true] at h
    rcases List.mem_cons.1 hr with rfl | hr
    · obtain ⟨h1, -⟩ := h
      unfold rangeB at h1
      simp only [Bool.and_eq_true] at h1
      exact ⟨h1.1.1.1.1, h1.1.1.1.2⟩
    · exact rightFrom_mem h.2 hr
theorem domB_in {r : Int} (h : domB r = true) : 0 ≤ r ∧ r < 2097152 := by
  have := of_decide_eq_true h
  omega
theorem thereB_in {i : Int} {n : Nat} (h : thereB i n = true) : 0 ≤ i ∧ i < n := of_decide_eq_true h
theorem fine_of_may {x : PInst} {n : Nat} {caps : Int} (h : mayB x n caps = true) (hn : n ≤ 20000) (hc : caps ≤ 1002) : FineI x := by
  unfold mayB at h
  by_cases h1 : x.op = 1
  · rw [if_pos h1] at h
    simp only [Bool.and_eq_true, decide_eq_true_eq] at h
    obtain ⟨⟨⟨⟨a, b⟩, c⟩, d⟩, e⟩ := h
    unfold rightB at e
    simp only [Bool.and_eq_true, decide_eq_true_eq] at e
    refine ⟨by omega, by omega, fun k hk => ?_, e.1⟩
    unfold numsOf at hk
    rw [if_pos h1] at hk
    have ha := thereB_in a
    simp only [List.mem_cons] at hk
    rcases hk with rfl | rfl | hk
    · omega
    · omega
    · obtain ⟨r, hr, hq⟩ := flatR_mem hk
      obtain ⟨d1, d2⟩ := rightFrom_mem e.2 hr
      have d1 := domB_in d1
      have d2 := domB_in d2
      rcases hq with rfl | rfl <;> omega
  rw [if_neg h1] at h
  by_cases h2 : x.op = 2
  · rw [if_pos h2] at h
    simp only [Bool.and_eq_true, decide_eq_true_eq] at h
    obtain ⟨⟨⟨a, b⟩, c⟩, d⟩ := h
    have ha := thereB_in a
    have hb := thereB_in b
    refine ⟨by omega, by omega, fun k hk => ?_, by omega⟩
    unfold numsOf at hk
    rw [if_neg h1, if_pos h2] at hk
    simp at hk
    rcases hk with rfl | rfl <;> omega
  rw [if_neg h2] at h
  by_cases h3 : x.op = 3
  · rw [if_pos h3] at h
    simp only [Bool.and_eq_true, decide_eq_true_eq] at h
    obtain ⟨⟨⟨a, b⟩, c⟩, d⟩ := h
    have ha := thereB_in a
    refine ⟨by omega, by omega, fun k hk => ?_, by omega⟩
    unfold numsOf at hk
    rw [if_neg h1, if_neg h2, if_pos (by omega)] at hk
    simp at hk
    rcases hk with rfl | rfl <;> omega
  rw [if_neg h3] at h
  by_cases h4 : x.op = 4
  · rw [if_pos h4] at h
    simp only [Bool.and_eq_true, decide_eq_true_eq] at h
    obtain ⟨⟨⟨a, b⟩, c⟩, d⟩ := h
    have ha := thereB_in a
    have hc := of_decide_eq_true c
    refine ⟨by omega, by omega, fun k hk => ?_, by omega⟩
    unfold numsOf at hk
    rw [if_neg h1, if_neg h2, if_pos (by omega)] at hk
    simp at hk
    rcases hk with rfl | rfl <;> omega
  rw [if_neg h4] at h
  by_cases h5 : x.op = 5
  · rw [if_pos h5] at h
    simp only [Bool.and_eq_true, decide_eq_true_eq] at h
    obtain ⟨⟨⟨a, b⟩, c⟩, d⟩ := h
    refine ⟨by omega, by omega, fun k hk => ?_, by omega⟩
    unfold numsOf at hk
    rw [if_neg h1, if_neg h2, if_neg (by omega), if_pos h5] at hk
    simp at hk
    omega
  rw [if_neg h5] at h
  by_cases h6 : x.op = 6
  · rw [if_pos h6] at h
    simp only [Bool.and_eq_true, decide_eq_true_eq] at h
    refine ⟨by omega, by omega, fun k hk => ?_, by omega⟩
    unfold numsOf at hk
    rw [if_neg h1, if_neg h2, if_neg (by omega), if_neg h5, if_neg (by omega)] at hk
    simp at hk
  rw [if_neg h6] at h
  by_cases h7 : x.op = 7
  · rw [if_pos h7] at h
    simp only [Bool.and_eq_true, decide_eq_true_eq] at h
    obtain ⟨⟨⟨a, b⟩, c⟩, d⟩ := h
    have ha := thereB_in a
    refine ⟨by omega, by omega, fun k hk => ?_, by omega⟩
    unfold numsOf at hk
    rw [if_neg h1, if_neg h2, if_neg (by omega), if_neg h5, if_pos h7] at hk
    simp at hk
    omega
  rw [if_neg h7] at h
  cases h
/-- what a checked program is -/
structure FineP (is : List PInst) (start caps : Int) : Prop where
  l0 : 1 ≤ is.length
  l1 : is.length ≤ 20000
  s0 : 0 ≤ start
  s1 : start < is.length
  c0 : 2 ≤ caps
  c1 : caps ≤ 1002
  i : ∀ x ∈ is, FineI x
theorem fineP {is : List PInst} {start caps : Int} (h : checkB is start caps = true) : FineP is start caps := by
  unfold checkB at h
  simp only [Bool.and_eq_true, decide_eq_true_eq, List.all_eq_true] at h
  obtain ⟨⟨a, b, c, d, e, f, g⟩, m⟩ := h
  exact ⟨a, b, c, d, f, g, fun x hx => fine_of_may (m x hx) b g⟩
theorem flatR_len : ∀ (l : List (Int × Int)), (flatR l).length = 2 * l.length
  | [] => rfl
  | r :: l => by simp [flatR, flatR_len l]; omega
theorem numsOf_len {x : PInst} (h : x.rs.length ≤ 5000) : (numsOf x).length ≤ 10002 := by
  unfold numsOf
  split
  · simp [flatR_len]; omega
  split
  · simp
  split
  · simp
  split
  · simp
  split
  · simp
  · simp
theorem flat_drop {α : Type} {l : List Int} {j : Nat} {n : Int} (f : Int → List α) (h : l[j]? = some n) : (l.drop j).flatMap f = f n ++ (l.drop (j + 1)).flatMap f := by
  have hl := (List.getElem?_eq_some_iff.1 h).1
  rw [List.drop_eq_getElem_cons hl]
  rw [List.getElem?_eq_getElem hl] at h
  injection h with h
  rw [h]
  rfl
/-- a byte -/
def ByteI (x : Int) : Prop := 0 ≤ x ∧ x ≤ 255
theorem putN_byte : ∀ (n : Nat), ∀ x ∈ putN n, ByteI x := by
  intro n
  induction n using Nat.strongRecOn with
  | _ n ih =>
    intro x hx
    by_cases h : n < 128
    · rw [putN_small h] at hx
      simp only [List.mem_singleton] at hx
      subst hx
      exact ⟨by omega, by omega⟩
    · rw [putN_big h] at hx
      rcases List.mem_cons.1 hx with rfl | hx
      · exact ⟨by omega, by omega⟩
      · exact ih _ (by omega) x hx
theorem instB_byte {x : PInst} (h : FineI x) : ∀ y ∈ instB x, ByteI y := by
  intro y hy
  unfold instB at hy
  rcases List.mem_cons.1 hy with rfl | hy
  · exact ⟨by have := h.op0; omega, by have := h.op1; omega⟩
  · obtain ⟨n, -, hn⟩ := List.mem_flatMap.1 hy
    exact putN_byte _ y hn
theorem headB_byte (n : Nat) (start caps : Int) : ∀ y ∈ headB n start caps, ByteI y := by
  intro y hy
  unfold headB at hy
  simp only [List.mem_append] at hy
  rcases hy with ((hy | hy) | hy) | hy
  · simp at hy
    rcases hy with rfl | rfl | rfl | rfl <;> exact ⟨by omega, by omega⟩
  · exact putN_byte _ y hy
  · exact putN_byte _ y hy
  · exact putN_byte _ y hy
theorem instsB_byte : ∀ {is : List PInst} {b b' : List Int}, (∀ x ∈ is, FineI x) → (∀ y ∈ b, ByteI y) → instsB is b = some b' → ∀ y ∈ b', ByteI y
  | [], b, b', _, hb, h => by
    injection h with h
    rw [← h]
    exact hb
  | x :: r, b, b', hf, hb, h => by
    unfold instsB at h
    split at h
    · cases h
    · refine instsB_byte (fun z hz => hf z (List.mem_cons_of_mem _ hz)) (fun y hy => ?_) h
      rcases List.mem_append.1 hy with hy | hy
      · exact hb y hy
      · exact instB_byte (hf x (by simp)) y hy
theorem headB_len {n : Nat} {start caps : Int} (h1 : start < 2097152) (h2 : caps < 2097152) (h3 : n < 2097152) : (headB n start caps).length ≤ 16 := by
  unfold headB
  have a := putN_len (n := caps.toNat) (by omega)
  have b := putN_len (n := start.toNat) (by omega)
  have c := putN_len (n := n) (by omega)
  simp only [List.length_append, List.length_cons, List.length_nil]
  omega
theorem instB_len {x : PInst} (h : FineI x) : (instB x).length ≤ 40009 := by
  have hl := numsOf_len h.rs
  have : ∀ l : List Int, (∀ n ∈ l, 0 ≤ n ∧ n < 2097152) → (l.flatMap fun n => putN n.toNat).length ≤ 4 * l.length := by
    intro l hl
    induction l with
    | nil => simp
    | cons n l ih =>
      have h1 := hl n (by simp)
      have h2 := putN_len (n := n.toNat) (by omega)
      have h3 := ih (fun m hm => hl m (by simp [hm]))
      simp only [List.flatMap_cons, List.length_append, List.length_cons]
      omega
  have h4 := this _ h.nums
  unfold instB
  simp only [List.length_cons]
  omega
end Go.Proofs.YtdbdokjlcdogiaaDoor
