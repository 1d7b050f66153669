/-
  The walks of code.sum and heronref10.Sum: the CRC.
-/
import Derived.Test.YtdbdokjlcdogiaaDoorNum
import Derived.Test.YtdbdokjlcdogiaaDoorCrc
namespace Go.Proofs.YtdbdokjlcdogiaaDoor
open Go.RowKit
set_option linter.unusedVariables false

theorem ofInt_toNat32 (c : BitVec 32) : BitVec.ofInt 32 (c.toNat : Int) = c := by
  apply BitVec.eq_of_toNat_eq
  rw [BitVec.toNat_ofInt]
  have := c.isLt
  omega
theorem wrap32 (c : BitVec 32) : IntKind.u32.wrap ((c.toNat : Int)) = (c.toNat : Int) := by
  have := c.isLt
  simp [IntKind.wrap, IntKind.bits, IntKind.signed]
  omega
theorem xor32 (c d : BitVec 32) : bits .xor .u32 (c.toNat : Int) (d.toNat : Int) = ((c ^^^ d).toNat : Int) := by
  show IntKind.u32.wrap ((BitVec.ofInt 32 (c.toNat : Int) ^^^ BitVec.ofInt 32 (d.toNat : Int)).toNat : Int) = _
  rw [ofInt_toNat32, ofInt_toNat32, wrap32]
theorem and32 (c d : BitVec 32) : bits .and .u32 (c.toNat : Int) (d.toNat : Int) = ((c &&& d).toNat : Int) := by
  show IntKind.u32.wrap ((BitVec.ofInt 32 (c.toNat : Int) &&& BitVec.ofInt 32 (d.toNat : Int)).toNat : Int) = _
  rw [ofInt_toNat32, ofInt_toNat32, wrap32]
/-- the sum of bytes -/
def bytesB (xs : List Int) : List (BitVec 8) := xs.map fun x => BitVec.ofInt 8 x
def sumV (xs : List Int) : Int := ((~~~ (crcL 0xFFFFFFFF#32 (bytesB xs))).toNat : Int)

theorem shr32 (c : BitVec 32) : (c.toNat : Int) / (2 : Int) = ((c >>> 1).toNat : Int) := by
  rw [BitVec.toNat_ushiftRight, Nat.shiftRight_eq_div_pow]
  omega
theorem low32 (c : BitVec 32) : bits .and .u32 (c.toNat : Int) 1 = if c.getLsbD 0 then 1 else 0 := by
  have h := and32 c 1#32
  rw [show ((1#32 : BitVec 32).toNat : Int) = 1 from rfl] at h
  rw [h, BitVec.toNat_and, show (1#32 : BitVec 32).toNat = 1 from rfl, Nat.and_one_is_mod]
  have h2 : c.getLsbD 0 = decide (c.toNat % 2 = 1) := by
    rw [BitVec.getLsbD, Nat.testBit_zero]
  rw [h2]
  by_cases h3 : c.toNat % 2 = 1
  · rw [if_pos (decide_eq_true h3), h3]; rfl
  · rw [if_neg (by simpa using h3)]; omega
theorem mod32 (c : BitVec 32) : (c.toNat : Int) % (2 : Int) = if c.getLsbD 0 then 1 else 0 := by
  have h2 : c.getLsbD 0 = decide (c.toNat % 2 = 1) := by
    rw [BitVec.getLsbD, Nat.testBit_zero]
  rw [h2]
  by_cases h3 : c.toNat % 2 = 1
  · rw [if_pos (decide_eq_true h3)]; omega
  · rw [if_neg (by simpa using h3)]; omega
theorem byte32 (x : Int) (h0 : 0 ≤ x) (h1 : x ≤ 255) : (((BitVec.ofInt 8 x).setWidth 32).toNat : Int) = x := by
  rw [BitVec.toNat_setWidth, BitVec.toNat_ofInt]
  omega
theorem crcL_step {xs : List Int} {k : Nat} {x : Int} (hx : xs[k]? = some x) (c : BitVec 32) : crcL c (bytesB (xs.take (k + 1))) = crcB (crcL c (bytesB (xs.take k))) (BitVec.ofInt 8 x) := by
  rw [List.take_add_one, hx]
  simp [bytesB, crcL, List.foldl_append]

set_option maxRecDepth 100000 in
set_option maxHeartbeats 2000000 in
theorem sum_any (w : World) (S : Nat → Prop) (A : Option Addr) (n c : Nat) (xs : List Int) (hx : Reads w S 1 A n (bytv xs)) (h8 : ∀ x ∈ xs, 0 ≤ x ∧ x ≤ 255) (hn : n ≤ 140737488355328) :
    Calls Tryd.prog 32 #[.slice A n c] w fun e w' => e = .returned (.int .u32 (sumV xs)) ∧ ∃ q, w' = w.drewN q := by
  obtain rfl : xs.length = n := by have := hx.1; simpa [bytv] using this
  have HX := hideP hx
  clear hx
  go_enter Tryd.func32, Tryd.ntmps32
  go_wp2_with fail
  go_loopg [3, 8] xs.length (fun gk v3 v8 wr => ∃ (k : Nat) (cv : Int), k + gk = xs.length ∧ v8 = .int .i64 (k : Int) ∧ v3 = .int .u32 cv ∧ cv = ((crcL 0xFFFFFFFF#32 (bytesB (xs.take k))).toNat : Int) ∧ w = wr)
  case atStart => exact ⟨0, 4294967295, by omega, rfl, rfl, by simp [bytesB, crcL], rfl⟩
  case round =>
    obtain ⟨k, cv, hk, rfl, rfl, hc, rfl⟩ := hrel
    by_cases hlt : k < xs.length
    · have g1 : (k : Int) < (xs.length : Int) := by omega
      obtain ⟨ad, u, rfl, _, _, hu, hcell⟩ := HX.out.at1 hlt
      simp only [bytv, List.getElem?_map, Option.map_eq_some_iff] at hu
      obtain ⟨x, hxk, rfl⟩ := hu
      obtain ⟨x0, x1⟩ := h8 x (List.mem_of_getElem? hxk)
      generalize hC : crcL 0xFFFFFFFF#32 (bytesB (xs.take k)) = C at *
      have hxo : bits .xor .u32 cv x = ((C ^^^ (BitVec.ofInt 8 x).setWidth 32).toNat : Int) := by
        have h := xor32 C ((BitVec.ofInt 8 x).setWidth 32)
        rw [byte32 x x0 x1, ← hc] at h
        exact h
      generalize hD : C ^^^ (BitVec.ofInt 8 x).setWidth 32 = D at *
      generalize hdv : (D.toNat : Int) = dv at *
      have HS := hideP (crcL_step hxk 0xFFFFFFFF#32)
      have HC := hideP hC
      have HD := hideP hD
      have HDV := hideP hdv
      have HK := hideP hk
      clear hC hD hdv hc hxk hk
      go_wp2_with fail
      go_loopg [3, 16] 8 (fun gk v3 v16 wr => ∃ (j : Nat) (E : BitVec 32) (ev : Int), j + gk = 8 ∧ v16 = .int .i64 (j : Int) ∧ v3 = .int .u32 ev ∧ ev = (E.toNat : Int) ∧ crcN (8 - j) E = crcN 8 D ∧ w = wr)
      case atStart => exact ⟨0, D, dv, rfl, rfl, rfl, HDV.out.symm, rfl, rfl⟩
      case round =>
        obtain ⟨j, E, ev, hj, rfl, rfl, he, hcr, rfl⟩ := hrel
        by_cases hj8 : j < 8
        · have g2 : (j : Int) < 8 := by omega
          have hlow := low32 E
          have hsh := shr32 E
          have hstep : crcN (8 - (j + 1)) (crcG E) = crcN 8 D := by
            rw [show 8 - j = (8 - (j + 1)) + 1 by omega] at hcr
            exact hcr
          rw [← he] at hlow hsh
          have HST := hideP hstep
          have ev0 : 0 ≤ ev := by omega
          have ev1 : ev < 4294967296 := by have := E.isLt; omega
          generalize hF : E >>> 1 = F at *
          obtain ⟨fv, hfv⟩ : ∃ fv : Int, (F.toNat : Int) = fv := ⟨_, rfl⟩
          rw [hfv] at hsh
          have fv0 : 0 ≤ fv := by omega
          have HFV := hideP hfv
          have HSH := hideP hsh
          clear hsh
          have HF := hideP hF
          clear hF hfv hcr hstep he
          cases hb : E.getLsbD 0
          · rw [hb, if_neg Bool.false_ne_true] at hlow
            have hg : crcG E = F := by unfold crcG; rw [hb, ← HF.out]; rfl
            have HG := hideP hg
            clear hb hg
            go_wp2_with fail
            go_roundg (8 - (j + 1))
            case measure => omega
            case rel => exact ⟨j + 1, F, ev / 2, by omega, by go_num, rfl, HSH.out.trans HFV.out.symm, by rw [← HG.out]; exact HST.out, rfl⟩
          · rw [hb, if_pos rfl] at hlow
            have hxp : bits .xor .u32 fv 3988292384 = ((F ^^^ 0xEDB88320#32).toNat : Int) := by
              have h := xor32 F 0xEDB88320#32
              rw [HFV.out] at h
              exact h
            obtain ⟨pv, hpv⟩ : ∃ pv : Int, ((F ^^^ 0xEDB88320#32).toNat : Int) = pv := ⟨_, rfl⟩
            rw [hpv] at hxp
            have hg : crcG E = F ^^^ 0xEDB88320#32 := by unfold crcG; rw [hb, ← HF.out]; rfl
            have HG := hideP hg
            have HPV := hideP hpv
            have HXP := hideP hxp
            clear hb hg hpv hxp
            go_wp2_with fail
            go_roundg (8 - (j + 1))
            case measure => omega
            case rel => exact ⟨j + 1, F ^^^ 0xEDB88320#32, _, by omega, by go_num, rfl, by rw [HSH.out, HXP.out]; exact HPV.out.symm, by rw [← HG.out]; exact HST.out, rfl⟩
        · have g2 : ¬ (j : Int) < 8 := by omega
          obtain rfl : j = 8 := by omega
          have hE : E = crcN 8 D := hcr
          have HE := hideP hE
          have HEV := hideP he
          clear hE hcr he hj
          go_wp2_with fail
          have hk := HK.out
          go_roundg (xs.length - (k + 1))
          case measure => omega
          case rel => exact ⟨k + 1, ev, by omega, by go_num, rfl, by rw [HEV.out, HE.out, HS.out, HC.out, ← HD.out]; rfl, rfl⟩
    · have g1 : ¬ (k : Int) < (xs.length : Int) := by omega
      obtain rfl : k = xs.length := by omega
      rw [List.take_length] at hc
      have HC := hideP hc
      clear hc hk
      have hnot : bits .xor .u32 IntKind.u32.max cv = sumV xs := by
        have h := xor32 (BitVec.allOnes 32) (crcL 0xFFFFFFFF#32 (bytesB xs))
        rw [← HC.out] at h
        have h2 : IntKind.u32.max = ((BitVec.allOnes 32).toNat : Int) := by decide
        rw [h2, h]
        unfold sumV
        congr 2
      have HNOT := hideP hnot
      clear hnot
      go_wp2_with fail
      go_ret
      exact ⟨congrArg Ending.returned (congrArg (Value.int .u32) HNOT.out), 0, rfl⟩

set_option maxRecDepth 100000 in
set_option maxHeartbeats 2000000 in
theorem refSum_any (w : World) (S : Nat → Prop) (A : Option Addr) (n c : Nat) (xs : List Int) (hx : Reads w S 1 A n (bytv xs)) (h8 : ∀ x ∈ xs, 0 ≤ x ∧ x ≤ 255) (hn : n ≤ 140737488355328) :
    Calls Tryd.prog 25 #[.slice A n c] w fun e w' => e = .returned (.int .u32 (sumV xs)) ∧ ∃ q, w' = w.drewN q := by
  obtain rfl : xs.length = n := by have := hx.1; simpa [bytv] using this
  have HX := hideP hx
  clear hx
  go_enter Tryd.func25, Tryd.ntmps25
  go_wp2_with fail
  go_loopg [3, 4] xs.length (fun gk v3 v4 wr => ∃ (k : Nat) (cv : Int), k + gk = xs.length ∧ v4 = .int .i64 (k : Int) ∧ v3 = .int .u32 cv ∧ cv = ((crcL 0xFFFFFFFF#32 (bytesB (xs.take k))).toNat : Int) ∧ w = wr)
  case atStart => exact ⟨0, 4294967295, by omega, rfl, rfl, by simp [bytesB, crcL], rfl⟩
  case round =>
    obtain ⟨k, cv, hk, rfl, rfl, hc, rfl⟩ := hrel
    by_cases hlt : k < xs.length
    · have g1 : (k : Int) < (xs.length : Int) := by omega
      obtain ⟨ad, u, rfl, _, _, hu, hcell⟩ := HX.out.at1 hlt
      simp only [bytv, List.getElem?_map, Option.map_eq_some_iff] at hu
      obtain ⟨x, hxk, rfl⟩ := hu
      obtain ⟨x0, x1⟩ := h8 x (List.mem_of_getElem? hxk)
      generalize hC : crcL 0xFFFFFFFF#32 (bytesB (xs.take k)) = C at *
      have hxo : bits .xor .u32 cv x = ((C ^^^ (BitVec.ofInt 8 x).setWidth 32).toNat : Int) := by
        have h := xor32 C ((BitVec.ofInt 8 x).setWidth 32)
        rw [byte32 x x0 x1, ← hc] at h
        exact h
      generalize hD : C ^^^ (BitVec.ofInt 8 x).setWidth 32 = D at *
      generalize hdv : (D.toNat : Int) = dv at *
      have HS := hideP (crcL_step hxk 0xFFFFFFFF#32)
      have HC := hideP hC
      have HD := hideP hD
      have HDV := hideP hdv
      have HK := hideP hk
      clear hC hD hdv hc hxk hk
      go_wp2_with fail
      go_loopg [3, 5] 8 (fun gk v3 v5 wr => ∃ (j : Nat) (E : BitVec 32) (ev : Int), j + gk = 8 ∧ v5 = .int .i64 (j : Int) ∧ v3 = .int .u32 ev ∧ ev = (E.toNat : Int) ∧ crcN (8 - j) E = crcN 8 D ∧ w = wr)
      case atStart => exact ⟨0, D, dv, rfl, rfl, rfl, HDV.out.symm, rfl, rfl⟩
      case round =>
        obtain ⟨j, E, ev, hj, rfl, rfl, he, hcr, rfl⟩ := hrel
        by_cases hj8 : j < 8
        · have g2 : (j : Int) < 8 := by omega
          have hlow := mod32 E
          have hsh := shr32 E
          have hstep : crcN (8 - (j + 1)) (crcG E) = crcN 8 D := by
            rw [show 8 - j = (8 - (j + 1)) + 1 by omega] at hcr
            exact hcr
          rw [← he] at hlow hsh
          have HST := hideP hstep
          have ev0 : 0 ≤ ev := by omega
          have ev1 : ev < 4294967296 := by have := E.isLt; omega
          generalize hF : E >>> 1 = F at *
          obtain ⟨fv, hfv⟩ : ∃ fv : Int, (F.toNat : Int) = fv := ⟨_, rfl⟩
          rw [hfv] at hsh
          have fv0 : 0 ≤ fv := by omega
          have HFV := hideP hfv
          have HSH := hideP hsh
          clear hsh
          have HF := hideP hF
          clear hF hfv hcr hstep he
          cases hb : E.getLsbD 0
          · rw [hb, if_neg Bool.false_ne_true] at hlow
            have hg : crcG E = F := by unfold crcG; rw [hb, ← HF.out]; rfl
            have HG := hideP hg
            clear hb hg
            have htm : ev.tmod 2 = ev % 2 := Int.tmod_eq_emod_of_nonneg ev0
            rw [hlow] at htm
            go_wp2_with fail
            go_roundg (8 - (j + 1))
            case measure => omega
            case rel => exact ⟨j + 1, F, ev / 2, by omega, by go_num, rfl, HSH.out.trans HFV.out.symm, by rw [← HG.out]; exact HST.out, rfl⟩
          · rw [hb, if_pos rfl] at hlow
            have hxp : bits .xor .u32 fv 3988292384 = ((F ^^^ 0xEDB88320#32).toNat : Int) := by
              have h := xor32 F 0xEDB88320#32
              rw [HFV.out] at h
              exact h
            obtain ⟨pv, hpv⟩ : ∃ pv : Int, ((F ^^^ 0xEDB88320#32).toNat : Int) = pv := ⟨_, rfl⟩
            rw [hpv] at hxp
            have hg : crcG E = F ^^^ 0xEDB88320#32 := by unfold crcG; rw [hb, ← HF.out]; rfl
            have HG := hideP hg
            have HPV := hideP hpv
            have HXP := hideP hxp
            clear hb hg hpv hxp
            have htm : ev.tmod 2 = ev % 2 := Int.tmod_eq_emod_of_nonneg ev0
            rw [hlow] at htm
            go_wp2_with fail
            go_roundg (8 - (j + 1))
            case measure => omega
            case rel => exact ⟨j + 1, F ^^^ 0xEDB88320#32, _, by omega, by go_num, rfl, by rw [HSH.out, HXP.out]; exact HPV.out.symm, by rw [← HG.out]; exact HST.out, rfl⟩
        · have g2 : ¬ (j : Int) < 8 := by omega
          obtain rfl : j = 8 := by omega
          have hE : E = crcN 8 D := hcr
          have HE := hideP hE
          have HEV := hideP he
          clear hE hcr he hj
          go_wp2_with fail
          have hk := HK.out
          go_roundg (xs.length - (k + 1))
          case measure => omega
          case rel => exact ⟨k + 1, ev, by omega, by go_num, rfl, by rw [HEV.out, HE.out, HS.out, HC.out, ← HD.out]; rfl, rfl⟩
    · have g1 : ¬ (k : Int) < (xs.length : Int) := by omega
      obtain rfl : k = xs.length := by omega
      rw [List.take_length] at hc
      have HC := hideP hc
      clear hc hk
      have hnot : bits .xor .u32 cv 4294967295 = sumV xs := by
        have h := xor32 (crcL 0xFFFFFFFF#32 (bytesB xs)) 0xFFFFFFFF#32
        rw [← HC.out] at h
        rw [show ((0xFFFFFFFF#32 : BitVec 32).toNat : Int) = 4294967295 from rfl] at h
        rw [h]
        unfold sumV
        congr 2
        exact BitVec.xor_allOnes
      have HNOT := hideP hnot
      clear hnot
      go_wp2_with fail
      go_ret
      exact ⟨congrArg Ending.returned (congrArg (Value.int .u32) HNOT.out), 0, rfl⟩
end Go.Proofs.YtdbdokjlcdogiaaDoor
