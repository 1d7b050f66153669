/-
  Plain law of the CRC of 32 bits: one byte turned is told.
-/
namespace Go.Proofs.YtdbdokjlcdogiaaDoor
set_option linter.unusedVariables false

/-- one bit of the CRC -/
def crcG (c : BitVec 32) : BitVec 32 := if c.getLsbD 0 then (c >>> 1) ^^^ 0xEDB88320#32 else c >>> 1
theorem crcG_top (c : BitVec 32) : (crcG c).getLsbD 31 = c.getLsbD 0 := by
  unfold crcG
  split
  · rename_i h
    rw [BitVec.getLsbD_xor, BitVec.getLsbD_ushiftRight, h, BitVec.getLsbD_of_ge _ _ (by omega)]
    decide
  · rename_i h
    rw [BitVec.getLsbD_ushiftRight, BitVec.getLsbD_of_ge _ _ (by omega)]
    simpa using h
theorem crcG_inj {a b : BitVec 32} (h : crcG a = crcG b) : a = b := by
  have h0 : a.getLsbD 0 = b.getLsbD 0 := by rw [← crcG_top, ← crcG_top, h]
  have hs : a >>> 1 = b >>> 1 := by
    unfold crcG at h
    rw [h0] at h
    split at h
    · have h1 := congrArg (· ^^^ 0xEDB88320#32) h
      simpa [BitVec.xor_assoc] using h1
    · exact h
  refine BitVec.eq_of_getLsbD_eq fun i hi => ?_
  cases i with
  | zero => exact h0
  | succ i =>
    have h1 := congrArg (fun v : BitVec 32 => v.getLsbD i) hs
    simp only [BitVec.getLsbD_ushiftRight] at h1
    rw [Nat.add_comm] at h1
    exact h1
/-- so many bits -/
def crcN : Nat → BitVec 32 → BitVec 32
  | 0, c => c
  | k + 1, c => crcN k (crcG c)
theorem crcN_inj : ∀ (k : Nat) {a b : BitVec 32}, crcN k a = crcN k b → a = b
  | 0, _, _, h => h
  | k + 1, _, _, h => crcG_inj (crcN_inj k h)
/-- a byte -/
def crcB (c : BitVec 32) (x : BitVec 8) : BitVec 32 := crcN 8 (c ^^^ x.setWidth 32)
theorem crcB_left {a b : BitVec 32} {x : BitVec 8} (h : crcB a x = crcB b x) : a = b := by
  have h1 := congrArg (· ^^^ x.setWidth 32) (crcN_inj 8 h)
  simpa [BitVec.xor_assoc] using h1
theorem crcB_right {c : BitVec 32} {x y : BitVec 8} (h : crcB c x = crcB c y) : x = y := by
  have h1 := congrArg (fun v => c ^^^ v) (crcN_inj 8 h)
  simp only [← BitVec.xor_assoc, BitVec.xor_self, BitVec.zero_xor] at h1
  have h2 := congrArg (fun v : BitVec 32 => v.setWidth 8) h1
  simpa using h2
/-- bytes -/
def crcL (c : BitVec 32) (l : List (BitVec 8)) : BitVec 32 := l.foldl crcB c
theorem crcL_inj : ∀ (l : List (BitVec 8)) {a b : BitVec 32}, crcL a l = crcL b l → a = b
  | [], _, _, h => h
  | x :: l, _, _, h => crcB_left (crcL_inj l h)
/-- one byte turned: another sum -/
theorem crc_turned (c : BitVec 32) (l r : List (BitVec 8)) (x y : BitVec 8) (h : crcL c (l ++ x :: r) = crcL c (l ++ y :: r)) : x = y := by
  unfold crcL at h
  rw [List.foldl_append, List.foldl_append, List.foldl_cons, List.foldl_cons] at h
  exact crcB_right (crcL_inj r h)
end Go.Proofs.YtdbdokjlcdogiaaDoor
