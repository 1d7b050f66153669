/-
  RefNo, RefWo, RefNT, put together.
-/
import Derived.Test.YtdbdokjlcdogiaaDoorZ16TxtP
import Derived.Laws.Strings
import Derived.Laws.DeepStrings4
import Derived.Deep.AppendLies
import Derived.Test.YtdbdokjlcdogiaaDoorZ11TextW

/-
  The walk of heronref10.number.
-/
namespace Go.Proofs.YtdbdokjlcdogiaaDoor
open Go.RowKit
set_option linter.unusedVariables false

set_option maxRecDepth 100000 in
set_option maxHeartbeats 4000000 in
theorem number_loop (P : Ending → World → Prop) (K : Code) (w : World) (v : ByteArray) (x1 x2 x3 x4 x5 x6 x7 x8 x9 x10 x11 x12 x13 x14 x15 x16 x17 x18 x19 x20 x21 x22 x23 x24 x25 x26 x27 x28 x29 x30 x31 x32 x33 x34 x35 x36 x37 x38 x39 x40 x41 x42 x43 x44 x45 x46 x47 : Value)
    (hK : Tryd.f41.body = some K) (h9 : v.size ≤ 9) (hP : P (.returned (.int .i64 ((digN v v.size 0 0).getD (-1)))) w) :
    (seqAt K 2).wp Tryd.prog (bodyPost Tryd.prog Tryd.f41 P) ⟨#[.string v, x1, x2, x3, x4, x5, x6, x7, x8, x9, x10, x11, x12, x13, x14, x15, x16, x17, x18, x19, x20, x21, x22, x23, x24, x25, x26, x27, x28, x29, x30, x31, x32, x33, x34, x35, x36, x37, x38, x39, x40, x41, x42, x43, x44, x45, x46, x47], []⟩ w := by
  injection hK with hK
  subst hK
  obtain ⟨D, hD⟩ : ∃ D, digN v v.size 0 0 = D := ⟨_, rfl⟩
  rw [hD] at hP
  have HD0 := hideP hD
  have HP := hideP hP
  clear hD hP
  simp only [seqAt]
  go_wp2_with fail
  go_loopg [3, 4] v.size (fun gk v3 v4 wr => ∃ (i : Nat) (n : Int), i + gk = v.size ∧ v4 = .int .i64 (i : Int) ∧ v3 = .int .i64 n ∧ 0 ≤ n ∧ n < 10 ^ i ∧ digN v gk n i = D ∧ wr = w)
  case atStart => exact ⟨0, 0, by omega, rfl, rfl, by omega, by decide, HD0.out, rfl⟩
  case round =>
    obtain ⟨i, n, hk, rfl, rfl, hn0, hn1, hD, hw⟩ := hrel
    subst hw
    have HK := hideP hk
    have HD := hideP hD
    have hi9 : i ≤ 9 := by omega
    have hp9 : (10 : Int) ^ i ≤ 10 ^ 9 := by exact_mod_cast Nat.pow_le_pow_right (by decide : 0 < 10) hi9
    have hn9 : n < 1000000000 := by
      have e : (10 : Int) ^ 9 = 1000000000 := by decide
      omega
    have HN1 := hideP hn1
    clear hk hD hp9 hn1
    by_cases hlt : i < v.size
    · have g4 : (i : Int) < (v.size : Int) := by omega
      have hgk : gk = (gk - 1) + 1 := by have := HK.out; omega
      have hd := HD.out
      rw [hgk, digN_step hlt] at hd
      have HDD := hideP hd
      clear hd hgk
      have hcl := UInt8.toNat_lt (v[i]'hlt)
      generalize hcc : (v[i]'hlt).toNat = c at *
      by_cases hdg : 48 ≤ c ∧ c ≤ 57
      · have a1 : ¬ (c : Int) < 48 := by omega
        have a2 : ¬ 57 < (c : Int) := by omega
        have w1 : IntKind.i64.wrap (10 * n) = 10 * n := by rw [IntKind.wrap_i64]; omega
        have w2 : IntKind.u8.wrap ((c : Int) - 48) = (c : Int) - 48 := by rw [IntKind.wrap_u8]; omega
        have w3 : IntKind.i64.wrap ((c : Int) - 48) = (c : Int) - 48 := by rw [IntKind.wrap_i64]; omega
        have w4 : IntKind.i64.wrap (10 * n + ((c : Int) - 48)) = 10 * n + ((c : Int) - 48) := by rw [IntKind.wrap_i64]; omega
        have HDG := hideP hdg
        clear hdg
        go_wp2_with fail
        go_roundg (gk - 1)
        case measure => have := HK.out; omega
        case rel => exact ⟨i + 1, 10 * n + ((c : Int) - 48), by have := HK.out; omega, by go_num, rfl, by omega, by have h1 := HN1.out; rw [Int.pow_succ]; omega, by rw [← HDD.out, if_pos HDG.out], rfl⟩
      · have HNO := hideP (show D = none from by rw [← HDD.out, if_neg hdg])
        by_cases hlo : c < 48
        · have a1 : (c : Int) < 48 := by omega
          clear hdg
          go_wp2_with fail
          have hP := HP.out
          rw [HNO.out] at hP
          exact hP
        · have a1 : ¬ (c : Int) < 48 := by omega
          have a2 : 57 < (c : Int) := by omega
          clear hdg
          go_wp2_with fail
          have hP := HP.out
          rw [HNO.out] at hP
          exact hP
    · have hiv : i = v.size := by have := HK.out; omega
      have HSO := hideP (show D = some n from by rw [← HD.out, show gk = 0 by have := HK.out; omega]; rfl)
      have g4 : ¬ (i : Int) < (v.size : Int) := by omega
      clear hiv hlt
      go_wp2_with fail
      have hP := HP.out
      rw [HSO.out] at hP
      exact hP
theorem numM_no {v : ByteArray} (h : ¬ (1 ≤ v.size ∧ v.size ≤ 9 ∧ (v.size = 1 ∨ ¬ byte0 v = 48))) : numM v = -1 := by
  unfold numM numV
  rw [if_neg h]
  rfl
theorem numM_yes {v : ByteArray} (h : 1 ≤ v.size ∧ v.size ≤ 9 ∧ (v.size = 1 ∨ ¬ byte0 v = 48)) : numM v = (digN v v.size 0 0).getD (-1) := by
  unfold numM numV
  rw [if_pos h]
set_option maxRecDepth 100000 in
set_option maxHeartbeats 4000000 in
theorem number_head (Q : Exit → Act → World → Prop) (K rest : Code) (w : World) (v : ByteArray) (x1 x2 x3 x4 x5 x6 x7 x8 x9 x10 x11 x12 x13 x14 x15 x16 x17 x18 x19 x20 x21 x22 x23 x24 x25 x26 x27 x28 x29 x30 x31 x32 x33 x34 x35 x36 x37 x38 x39 x40 x41 x42 x43 x44 x45 x46 x47 : Value)
    (hK : Tryd.f41.body = some K) (hg : 1 ≤ v.size ∧ v.size ≤ 9 ∧ (v.size = 1 ∨ ¬ byte0 v = 48))
    (hnext : ∀ (x1 x2 x3 x4 x5 x6 x7 x8 x9 x10 x11 x12 x13 x14 x15 x16 x17 x18 x19 x20 x21 x22 x23 x24 x25 x26 x27 x28 x29 x30 x31 x32 x33 x34 x35 x36 x37 x38 x39 x40 x41 x42 x43 x44 x45 x46 x47 : Value), rest.wp Tryd.prog Q ⟨#[.string v, x1, x2, x3, x4, x5, x6, x7, x8, x9, x10, x11, x12, x13, x14, x15, x16, x17, x18, x19, x20, x21, x22, x23, x24, x25, x26, x27, x28, x29, x30, x31, x32, x33, x34, x35, x36, x37, x38, x39, x40, x41, x42, x43, x44, x45, x46, x47], []⟩ w) :
    (Code.seq (fstAt K 0) (Code.seq (fstAt K 1) rest)).wp Tryd.prog Q ⟨#[.string v, x1, x2, x3, x4, x5, x6, x7, x8, x9, x10, x11, x12, x13, x14, x15, x16, x17, x18, x19, x20, x21, x22, x23, x24, x25, x26, x27, x28, x29, x30, x31, x32, x33, x34, x35, x36, x37, x38, x39, x40, x41, x42, x43, x44, x45, x46, x47], []⟩ w := by
  injection hK with hK
  subst hK
  have HN := hideP hnext
  clear hnext
  simp only [fstAt]
  have g1 : ¬ (v.size : Int) < 1 := by omega
  have g2 : ¬ 9 < (v.size : Int) := by omega
  by_cases h1 : v.size = 1
  · have g3 : ¬ 1 < (v.size : Int) := by omega
    clear hg h1
    go_wp2_with fail
    exact HN.out _ _ _ _ _ _ _ _ _ _ _ _ _ _ _ _ _ _ _ _ _ _ _ _ _ _ _ _ _ _ _ _ _ _ _ _ _ _ _ _ _ _ _ _ _ _ _ 
  have g3 : 1 < (v.size : Int) := by omega
  have hpos : 0 < v.size := by omega
  have g5 : (0 : Int) < (v.size : Int) := by omega
  have hb0 : byte0 v = (v[0]'hpos).toNat := by unfold byte0; rw [dif_pos hpos]
  have g6 : ¬ ((v[0]'hpos).toNat : Int) = 48 := by omega
  clear hg h1 hb0
  go_wp2_with fail
  exact HN.out _ _ _ _ _ _ _ _ _ _ _ _ _ _ _ _ _ _ _ _ _ _ _ _ _ _ _ _ _ _ _ _ _ _ _ _ _ _ _ _ _ _ _ _ _ _ _ 
set_option maxRecDepth 100000 in
set_option maxHeartbeats 4000000 in
theorem refNumber_any (w : World) (v : ByteArray) : Calls Tryd.prog 41 #[.string v] w fun e w' => e = .returned (.int .i64 (numM v)) ∧ w' = w := by
  by_cases h0 : v.size < 1
  · have g1 : (v.size : Int) < 1 := by omega
    rw [numM_no (by omega)]
    clear h0
    go_enter Tryd.func41, Tryd.ntmps41
    go_wp2_with fail
    go_ret
    exact ⟨rfl, rfl⟩
  have g1 : ¬ (v.size : Int) < 1 := by omega
  by_cases h9 : 9 < v.size
  · have g2 : 9 < (v.size : Int) := by omega
    rw [numM_no (by omega)]
    clear h0 h9
    go_enter Tryd.func41, Tryd.ntmps41
    go_wp2_with fail
    go_ret
    exact ⟨rfl, rfl⟩
  have g2 : ¬ 9 < (v.size : Int) := by omega
  by_cases hg : 1 ≤ v.size ∧ v.size ≤ 9 ∧ (v.size = 1 ∨ ¬ byte0 v = 48)
  · have HY := hideP (numM_yes hg)
    have h9' : v.size ≤ 9 := by omega
    rw [HY.out]
    clear h0 h9 HY
    go_enter Tryd.func41, Tryd.ntmps41
    refine number_head _ _ _ w v _ _ _ _ _ _ _ _ _ _ _ _ _ _ _ _ _ _ _ _ _ _ _ _ _ _ _ _ _ _ _ _ _ _ _ _ _ _ _ _ _ _ _ _ _ _ _ rfl hg ?_
    intro _ _ _ _ _ _ _ _ _ _ _ _ _ _ _ _ _ _ _ _ _ _ _ _ _ _ _ _ _ _ _ _ _ _ _ _ _ _ _ _ _ _ _ _ _ _ _ 
    exact number_loop _ _ w v _ _ _ _ _ _ _ _ _ _ _ _ _ _ _ _ _ _ _ _ _ _ _ _ _ _ _ _ _ _ _ _ _ _ _ _ _ _ _ _ _ _ _ _ _ _ _ rfl h9' ⟨rfl, rfl⟩
  have g3 : 1 < (v.size : Int) := by omega
  have hpos : 0 < v.size := by omega
  have g5 : (0 : Int) < (v.size : Int) := by omega
  have hb0 : byte0 v = (v[0]'hpos).toNat := by unfold byte0; rw [dif_pos hpos]
  have g6 : ((v[0]'hpos).toNat : Int) = 48 := by omega
  rw [numM_no hg]
  clear h0 h9 hg hb0
  go_enter Tryd.func41, Tryd.ntmps41
  go_wp2_with fail
  go_ret
  exact ⟨rfl, rfl⟩
end Go.Proofs.YtdbdokjlcdogiaaDoor

/-
  The walk of heronref10.words.
-/
namespace Go.Proofs.YtdbdokjlcdogiaaDoor
open Go.RowKit
set_option linter.unusedVariables false

def strv (ws : List ByteArray) : List Value := ws.map Value.string
theorem strv_append (a b : List ByteArray) : strv (a ++ b) = strv a ++ strv b := by simp [strv]
theorem rinfo_string : (Tryd.prog.info? 9).map (fun i => (i.zero, i.size, i.bytes)) = some (some (.string ByteArray.empty), 1, 16) := by kernel_rfl
/-- where the document's words stand at i: no word is begun, or one at j -/
def WoAt (s : ByteArray) (i : Nat) (fr : Int) (acc : List ByteArray) : Prop :=
  (fr = -1 ∧ acc ++ wordsAt s i = wordsAt s 0) ∨ (∃ j : Nat, fr = (j : Int) ∧ j ≤ i ∧ acc ++ s.extract j (wordEnd s i) :: wordsAt s (wordEnd s i) = wordsAt s 0)
theorem wo_blank {s : ByteArray} {i j : Nat} {acc : List ByteArray} (h : i < s.size) (hb : blankN (s[i]'h).toNat = true) (hw : acc ++ s.extract j (wordEnd s i) :: wordsAt s (wordEnd s i) = wordsAt s 0) : WoAt s (i + 1) (-1) (acc ++ [s.extract j i]) := by
  obtain ⟨e1, e2⟩ := blank_yes h hb
  rw [e2] at hw
  have e3 : wordsAt s i = wordsAt s (i + 1) := by
    rw [wordsAt_step (by omega), wordsAt_step (k := i + 1) (by omega), e1]
    unfold wordV
    rw [e1]
  rw [e3] at hw
  exact .inl ⟨rfl, by rw [← hw]; simp⟩
theorem wo_skip {s : ByteArray} {i : Nat} {acc : List ByteArray} (h : i < s.size) (hb : blankN (s[i]'h).toNat = true) (hw : acc ++ wordsAt s i = wordsAt s 0) : WoAt s (i + 1) (-1) acc := by
  obtain ⟨e1, e2⟩ := blank_yes h hb
  have e3 : wordsAt s i = wordsAt s (i + 1) := by
    rw [wordsAt_step (by omega), wordsAt_step (k := i + 1) (by omega), e1]
    unfold wordV
    rw [e1]
  rw [e3] at hw
  exact .inl ⟨rfl, hw⟩
theorem wo_begin {s : ByteArray} {i : Nat} {acc : List ByteArray} (h : i < s.size) (hb : blankN (s[i]'h).toNat = false) (hw : acc ++ wordsAt s i = wordsAt s 0) : WoAt s (i + 1) (i : Int) acc := by
  obtain ⟨e1, e2⟩ := blank_no h hb
  refine .inr ⟨i, rfl, by omega, ?_⟩
  rw [← hw, wordsAt_step (k := i) (by omega), e1, if_pos h]
  unfold wordV
  rw [e1, ← e2]
theorem wo_go {s : ByteArray} {i j : Nat} {acc : List ByteArray} (h : i < s.size) (hb : blankN (s[i]'h).toNat = false) (hj : j ≤ i) (hw : acc ++ s.extract j (wordEnd s i) :: wordsAt s (wordEnd s i) = wordsAt s 0) : WoAt s (i + 1) (j : Int) acc := by
  obtain ⟨e1, e2⟩ := blank_no h hb
  rw [e2] at hw
  exact .inr ⟨j, rfl, by omega, hw⟩
def WordsAns (w : World) (ws : List ByteArray) (e : Ending) (w' : World) : Prop := ∃ A c, e = .returned (.slice A ws.length c) ∧ w'.ownsRow w.heap.size 9 1 (.slice A ws.length c) ws.length (strv ws) ∧ Upd Nob w w'
theorem acc_len {s : ByteArray} {acc r : List ByteArray} (h : acc ++ r = wordsAt s 0) (hs : s.size ≤ 8388608) : acc.length ≤ 8388608 := by
  have h1 := congrArg List.length h
  have h2 := wordsAt_len s _ 0 (Nat.le_refl _) (Nat.zero_le _)
  rw [List.length_append] at h1
  omega
set_option maxRecDepth 100000 in
set_option maxHeartbeats 8000000 in
theorem refWords_any (w : World) (s : ByteArray) (hs : s.size ≤ 8388608) : Calls Tryd.prog 40 #[.string s] w (WordsAns w (wordsAt s 0)) := by
  generalize hP : WordsAns w (wordsAt s 0) = P
  have HP := hideP (show ∀ (acc : List ByteArray) A c w', acc = wordsAt s 0 → w'.ownsRow w.heap.size 9 1 (.slice A acc.length c) acc.length (strv acc) → Upd Nob w w' → P (.returned (.slice A acc.length c)) w' from fun acc A c w' h1 h2 h3 => by rw [← hP]; subst h1; exact ⟨A, c, rfl, h2, h3⟩)
  clear hP
  obtain ⟨j0, hj0, hy0, hy1, hy2⟩ := info_parts rinfo_string
  go_enter Tryd.func40, Tryd.ntmps40
  go_wp2_with fail
  go_loopg [3, 4, 5] s.size (fun gk v3 v4 v5 wr => ∃ (i : Nat) (fr : Int) (acc : List ByteArray) (A : Option Addr) (c : Nat), i + gk = s.size ∧ v5 = .int .i64 (i : Int) ∧ v4 = .int .i64 fr ∧ v3 = .slice A acc.length c ∧ wr.ownsRow w.heap.size 9 1 (.slice A acc.length c) acc.length (strv acc) ∧ WoAt s i fr acc ∧ Upd Nob w wr)
  case atStart => exact ⟨0, -1, [], none, 0, by omega, rfl, rfl, rfl, World.ownsRow_nil _ _ _ _, .inl ⟨rfl, rfl⟩, Upd.refl _ _⟩
  case round =>
    obtain ⟨i, fr, acc, A, c, hk, rfl, rfl, rfl, hO, hW, hU⟩ := hrel
    have HK := hideP hk
    have HO := hideP hO
    have HU := hideP hU
    have hsz := hU.size
    have HAL := hideP (show acc.length ≤ 8388608 from by rcases hW with ⟨_, h⟩ | ⟨j, _, _, h⟩ <;> exact acc_len h hs)
    clear hk hO hU
    by_cases hlt : i < s.size
    · have g1 : (i : Int) < (s.size : Int) := by omega
      obtain ⟨bb, hbb⟩ : ∃ bb, blankN (s[i]'hlt).toNat = bb := ⟨_, rfl⟩
      have HBB := hideP hbb
      have HLT := hideP hlt
      obtain ⟨ch, hcc⟩ : ∃ ch, (s[i]'hlt).toNat = ch := ⟨_, rfl⟩
      rw [hcc] at hbb
      have HCC := hideP hcc
      clear hcc
      cases bb with
      | true =>
        have hch : ch = 32 ∨ ch = 9 ∨ ch = 10 ∨ ch = 13 := by simpa [blankN] using hbb
        clear hbb
        rcases hW with ⟨rfl, hW⟩ | ⟨j, rfl, hj, hW⟩
        · have HWn := hideP (wo_skip hlt HBB.out hW)
          have hcc := HCC.out
          clear hW
          rcases hch with rfl | rfl | rfl | rfl
          all_goals
            go_wp2_with fail
            go_roundg (gk - 1)
            case measure => have := HK.out; have := HLT.out; omega
            case rel => exact ⟨i + 1, -1, acc, A, c, by have := HK.out; have := HLT.out; omega, by go_num, rfl, rfl, HO.out, HWn.out, HU.out⟩
        · have HWn := hideP (wo_blank hlt HBB.out hW)
          have q1 : (j : Int) ≤ (i : Int) := by omega
          have q2 : (i : Int) ≤ (s.size : Int) := by omega
          have q3 : 0 ≤ (j : Int) := by omega
          have hcc := HCC.out
          clear hW
          rcases hch with rfl | rfl | rfl | rfl
          all_goals
            go_wp2_with (at_builtin; refine wpList_append_lies _ rfl _ _ 54 rfl w.heap.size 9 j0 _ 1 16 Tryd.underlying54 hj0 hy0 hy1 hy2 rfl (by decide) (.slice A acc.length c) acc.length (strv acc) rfl (own_upd HO.out ((Upd.refl Nob wr).alloc _) (fun _ _ => not_nob)) ⟨wr.heap.size, 0, none⟩ 1 1 [.string (s.extract j i)] rfl rfl (World.news_of_block (cs := #[.string (s.extract j i)]) (t := 9) (fr := (0, 0)) (heap_alloc_new wr _)) (by intro u hu; simp at hu; rcases hu with rfl; rfl) (by decide) (by unfold maxLen; have := HAL.out; omega) (by have := HAL.out; omega) (by simp; omega) (wr.heap.size + 1) (by simp) ?_)
            intro gN cN wN oN gr hat hltN
            have OB := fun b (hb : (Value.slice A acc.length c).ownBlock = some b) => own_lo HO.out hb
            have UN := (HU.out.alloc (.cells #[.string (s.extract j i)] 9)).grown gr (fun b hb h => absurd h (by have := OB b hb; omega))
            have e1 : strv acc ++ [.string (s.extract j i)] = strv (acc ++ [s.extract j i]) := by rw [strv_append]; rfl
            rw [e1] at oN
            have HON := hideP oN
            have HUN := hideP UN
            clear oN gr hat UN e1
            go_wp2_with fail
            go_roundg (gk - 1)
            case measure => have := HK.out; have := HLT.out; omega
            case rel => exact ⟨i + 1, -1, acc ++ [s.extract j i], some ⟨gN, 0, none⟩, cN, by have := HK.out; have := HLT.out; omega, by go_num, rfl, by simp, by simpa using HON.out, HWn.out, HUN.out⟩
      | false =>
        have e1 : ((ch : Int) == 32) = false := by simp [blankN] at hbb; simp; omega
        have e2 : ((ch : Int) == 9) = false := by simp [blankN] at hbb; simp; omega
        have e3 : ((ch : Int) == 10) = false := by simp [blankN] at hbb; simp; omega
        have e4 : ((ch : Int) == 13) = false := by simp [blankN] at hbb; simp; omega
        clear hbb
        rcases hW with ⟨rfl, hW⟩ | ⟨j, rfl, hj, hW⟩
        · have HWn := hideP (wo_begin hlt HBB.out hW)
          have hcc := HCC.out
          clear hW
          go_wp2_with fail
          go_roundg (gk - 1)
          case measure => have := HK.out; have := HLT.out; omega
          case rel => exact ⟨i + 1, (i : Int), acc, A, c, by have := HK.out; have := HLT.out; omega, by go_num, rfl, rfl, HO.out, HWn.out, HU.out⟩
        · have HWn := hideP (wo_go hlt HBB.out hj hW)
          have q3 : ¬ (j : Int) < 0 := by omega
          have hcc := HCC.out
          clear hW
          go_wp2_with fail
          go_roundg (gk - 1)
          case measure => have := HK.out; have := HLT.out; omega
          case rel => exact ⟨i + 1, (j : Int), acc, A, c, by have := HK.out; have := HLT.out; omega, by go_num, rfl, rfl, HO.out, HWn.out, HU.out⟩
    · have hii : i = s.size := by rcases hW with ⟨_, h⟩ | ⟨j, _, hj, h⟩ <;> (have := HK.out; omega)
      have g1 : ¬ (i : Int) < (s.size : Int) := by omega
      rcases hW with ⟨rfl, hW⟩ | ⟨j, rfl, hj, hW⟩
      · have HWn := hideP (show acc = wordsAt s 0 from by rw [← hW, hii, wordsAt_step (Nat.le_refl _), (at_end s).1, if_neg (Nat.lt_irrefl _)]; simp)
        clear hW hii hlt
        go_wp2_with fail
        exact HP.out _ _ _ _ HWn.out HO.out HU.out
      · have HWn := hideP (show acc ++ [s.extract j s.size] = wordsAt s 0 from by rw [← hW, hii, (at_end s).2, wordsAt_step (Nat.le_refl _), (at_end s).1, if_neg (Nat.lt_irrefl _)])
        have q1 : (j : Int) ≤ (s.size : Int) := by omega
        have q3 : 0 ≤ (j : Int) := by omega
        clear hW hii hlt
        go_wp2_with (at_builtin; refine wpList_append_lies _ rfl _ _ 54 rfl w.heap.size 9 j0 _ 1 16 Tryd.underlying54 hj0 hy0 hy1 hy2 rfl (by decide) (.slice A acc.length c) acc.length (strv acc) rfl (own_upd HO.out ((Upd.refl Nob wr).alloc _) (fun _ _ => not_nob)) ⟨wr.heap.size, 0, none⟩ 1 1 [.string (s.extract j s.size)] rfl rfl (World.news_of_block (cs := #[.string (s.extract j s.size)]) (t := 9) (fr := (0, 0)) (heap_alloc_new wr _)) (by intro u hu; simp at hu; rcases hu with rfl; rfl) (by decide) (by unfold maxLen; have := HAL.out; omega) (by have := HAL.out; omega) (by simp; omega) (wr.heap.size + 1) (by simp) ?_)
        intro gN cN wN oN gr hat hltN
        have OB := fun b (hb : (Value.slice A acc.length c).ownBlock = some b) => own_lo HO.out hb
        have UN := (HU.out.alloc (.cells #[.string (s.extract j s.size)] 9)).grown gr (fun b hb h => absurd h (by have := OB b hb; omega))
        have e1 : strv acc ++ [.string (s.extract j s.size)] = strv (acc ++ [s.extract j s.size]) := by rw [strv_append]; rfl
        rw [e1] at oN
        have e2 : acc.length + 1 = (acc ++ [s.extract j s.size]).length := by simp
        rw [e2] at oN ⊢
        have HON := hideP oN
        have HUN := hideP UN
        clear oN gr hat UN e1
        go_wp2_with fail
        exact HP.out _ _ _ _ HWn.out HON.out HUN.out
end Go.Proofs.YtdbdokjlcdogiaaDoor

/-
  The walks of heronref10's next and op, over words.
-/
namespace Go.Proofs.YtdbdokjlcdogiaaDoor
open Go.RowKit
set_option linter.unusedVariables false

/-- the reader at rb: all its words, those that are left, is it bad? -/
structure TdR (w : World) (S : Nat → Prop) (rb : Nat) (all rest : List ByteArray) (bad : Bool) : Prop where
  at_ : ∃ A c k, Cells w rb 56 #[.slice A all.length c, .slice none 0 0, .int .i64 (k : Nat), .bool bad] ∧ Reads w S 1 A all.length (strv all) ∧ k ≤ all.length ∧ all.drop k = rest
  few : all.length ≤ 8388608
  ne : ∀ b, S b → b ≠ rb
theorem TdR.upd {F : Nat → Prop} {w w' : World} {S : Nat → Prop} {rb : Nat} {all rest : List ByteArray} {bad : Bool} (h : TdR w S rb all rest bad) (hU : Upd F w w') (h1 : ¬ F rb) (h2 : ∀ b, S b → ¬ F b) : TdR w' S rb all rest bad := by
  obtain ⟨A, c, k, hc, hr, hl, hd⟩ := h.at_
  exact ⟨⟨A, c, k, hc.upd hU h1, hr.upd hU h2, hl, hd⟩, h.few, h.ne⟩
theorem TdR.rest_ {w : World} {S : Nat → Prop} {rb : Nat} {all rest : List ByteArray} {bad : Bool} (h : TdR w S rb all rest bad) : rest.length ≤ all.length := by
  obtain ⟨A, c, k, hc, hr, hl, hd⟩ := h.at_
  rw [← hd, List.length_drop]
  omega
theorem TdR.next_ {w : World} {S : Nat → Prop} {rb : Nat} {all : List ByteArray} {x : ByteArray} {r : List ByteArray} {bad : Bool} (h : TdR w S rb all (x :: r) bad) :
    ∃ ad c k, Cells w rb 56 #[.slice (some ad) all.length c, .slice none 0 0, .int .i64 (k : Nat), .bool bad] ∧ Reads w S 1 (some ad) all.length (strv all) ∧ k < all.length ∧ all.drop (k + 1) = r ∧ w.cell? (ad.add k) = some (.string x) ∧ ad.block ≠ rb := by
  obtain ⟨A, c, k, hc, hr, hl, hd⟩ := h.at_
  have hk : k < all.length := by
    have := congrArg List.length hd
    rw [List.length_drop] at this
    simp at this
    omega
  obtain ⟨ad, e, hb, hs, hcell⟩ := hr.2 (by omega)
  subst e
  have hx : all[k]? = some x := by
    have := congrArg (·[0]?) hd
    simpa [List.getElem?_drop] using this
  refine ⟨ad, c, k, hc, hr, hk, ?_, hcell k _ (by simp [strv, hx]), h.ne _ hs⟩
  have := congrArg (List.drop 1) hd
  rw [List.drop_drop] at this
  simpa using this
theorem TdR.end_ {w : World} {S : Nat → Prop} {rb : Nat} {all : List ByteArray} {bad : Bool} (h : TdR w S rb all [] bad) :
    ∃ A c, Cells w rb 56 #[.slice A all.length c, .slice none 0 0, .int .i64 (all.length : Nat), .bool bad] := by
  obtain ⟨A, c, k, hc, hr, hl, hd⟩ := h.at_
  have hk : k = all.length := by
    have := congrArg List.length hd
    rw [List.length_drop] at this
    simp at this
    omega
  subst hk
  exact ⟨A, c, hc⟩
theorem TdR.move {w w' : World} {S : Nat → Prop} {rb : Nat} {all rest r : List ByteArray} {bad bad' : Bool} (h : TdR w S rb all rest bad) {A : Option Addr} {c k : Nat} (hc : Cells w' rb 56 #[.slice A all.length c, .slice none 0 0, .int .i64 (k : Nat), .bool bad'])
    (hr : Reads w S 1 A all.length (strv all)) (hU : Upd (fun b => b = rb) w w') (hk : k ≤ all.length) (hd : all.drop k = r) : TdR w' S rb all r bad' :=
  ⟨⟨A, c, k, hc, hr.upd hU (fun b hb e => h.ne b hb e), hk, hd⟩, h.few, h.ne⟩
theorem TdR.drew {w : World} {S : Nat → Prop} {rb : Nat} {all rest : List ByteArray} {bad : Bool} (h : TdR w S rb all rest bad) : TdR w.drew S rb all rest bad := h.upd ((Upd.refl Nob w).drew) not_nob (fun _ _ => not_nob)
theorem TdR.flag {w : World} {S : Nat → Prop} {rb : Nat} {all rest : List ByteArray} {bad : Bool} (h : TdR w S rb all rest bad) (b : Bool) : TdR (w.setCell ⟨rb, 3, none⟩ (.bool b)) S rb all rest b := by
  obtain ⟨A, c, k, hc, hr, hl, hd⟩ := h.at_
  exact h.move (hc.set_ 3 (.bool b)) hr ((Upd.refl _ w).setCell _ _ (fun _ => rfl)) hl hd
theorem TdR.step {w : World} {S : Nat → Prop} {rb : Nat} {all rest r : List ByteArray} {bad : Bool} (h : TdR w S rb all rest bad) {A : Option Addr} {c k : Nat} (hc : Cells w rb 56 #[.slice A all.length c, .slice none 0 0, .int .i64 (k : Nat), .bool bad])
    (hr : Reads w S 1 A all.length (strv all)) (hk : k < all.length) (hd : all.drop (k + 1) = r) : TdR (w.setCell ⟨rb, 2, none⟩ (.int .i64 ((k : Int) + 1))) S rb all r bad :=
  h.move (k := k + 1) (hc.set_ 2 (.int .i64 ((k : Int) + 1))) hr ((Upd.refl _ w).setCell _ _ (fun _ => rfl)) hk hd
def TVarAns (w : World) (S : Nat → Prop) (rb : Nat) (all : List ByteArray) (R : Int × List ByteArray × Bool) (e : Ending) (w' : World) : Prop := e = .returned (.int .i64 R.1) ∧ TdR w' S rb all R.2.1 R.2.2 ∧ Upd (fun b => b = rb) w w'
set_option maxRecDepth 100000 in
set_option maxHeartbeats 4000000 in
theorem next_t (w : World) (S : Nat → Prop) (rb : Nat) (all rest : List ByteArray) (bad : Bool) (h : TdR w S rb all rest bad) :
    Calls Tryd.prog 26 #[.pointer (some ⟨rb, 0, none⟩), .bool true] w (TVarAns w S rb all (nxtT bad rest)) := by
  have H := hideP h
  cases bad with
  | true =>
    obtain ⟨A, c, k, hc, -⟩ := h.at_
    have c3 := hc.cellv (i := 0 + 3) rfl
    clear hc h
    have e : nxtT true rest = (0, rest, true) := rfl
    rw [e]
    go_enter Tryd.func26, Tryd.ntmps26
    go_wp2_with fail
    go_ret
    exact ⟨rfl, H.out, Upd.refl _ _⟩
  | false =>
    cases rest with
    | nil =>
      obtain ⟨A, c, hc⟩ := h.end_
      have c0 := hc.cellv (i := 0) rfl
      have c2 := hc.cellv (i := 0 + 2) rfl
      have c3 := hc.cellv (i := 0 + 3) rfl
      have f3 := hc.frozen (0 + 3)
      clear hc h
      have e : nxtT false [] = (0, [], true) := rfl
      rw [e]
      go_enter Tryd.func26, Tryd.ntmps26
      go_wp2_with fail
      go_region
      go_wp2_with fail
      go_ret
      exact ⟨rfl, (H.out.drew.flag true), (updRb _ _ 3 (.bool true)).drew⟩
    | cons v r =>
      obtain ⟨wd, hwd⟩ : ∃ wd, w.drew = wd := ⟨_, rfl⟩
      have HWD := hideP hwd
      obtain ⟨ad0, c9, k9, hc9, -, hkl9, -⟩ := h.next_
      have y0 := hc9.cellv (i := 0) rfl
      have y2 := hc9.cellv (i := 0 + 2) rfl
      have y3 := hc9.cellv (i := 0 + 3) rfl
      have g9 : ¬ (all.length : Int) ≤ (k9 : Int) := by omega
      have hd9 := h.drew
      have U9 := (Upd.refl (fun b => b = rb) w).drew
      rw [hwd] at hd9 U9
      have HU9 := hideP U9
      obtain ⟨ad, c, k, hc, hrd, hkl, hd, hcx, hne⟩ := hd9.next_
      have c0 := hc.cellv (i := 0) rfl
      have c2 := hc.cellv (i := 0 + 2) rfl
      have c3 := hc.cellv (i := 0 + 3) rfl
      have f2 := hc.frozen (0 + 2)
      have f3 := hc.frozen (0 + 3)
      have g1 : (k : Int) < (all.length : Int) := by omega
      have hfew := h.few
      have hnum := refNumber_any wd.drew v
      have HRS := hideP (hd9.step hc hrd hkl hd)
      clear hc h hrd hd hc9 hd9 U9 hwd
      have e : nxtT false (v :: r) = match numV v with | none => (0, r, true) | some n => (n, r, false) := rfl
      rw [e]
      cases hv : numV v with
      | none =>
        have hM : numM v = -1 := by unfold numM; rw [hv]; rfl
        rw [hM] at hnum
        clear hM hv
        go_enter Tryd.func26, Tryd.ntmps26
        go_wp2_with fail
        go_region
        show Exit.then _ _ _ _ w.drew
        rw [HWD.out]
        clear y0 y2 y3
        go_upto_region 7 with fail
        refine wp_region_still_lit (by kernel_rfl) (by kernel_rfl) ?_
        repeat still_step
        still_call hnum
        repeat still_step
        refine wpStill_nil ?_
        clear hnum
        go_wp2_with fail
        go_ret
        exact ⟨rfl, (HRS.out.flag true).drew, ((HU9.out.trans (updRb wd rb 2 (.int .i64 ((k : Int) + 1))) (fun _ _ h => h)).trans (updRb _ _ 3 (.bool true)) (fun _ _ h => h)).drew⟩
      | some n =>
        have hM : numM v = n := by unfold numM; rw [hv]; rfl
        rw [hM] at hnum
        have hn0 := (numV_in hv).1
        have hn1 : ¬ n < 0 := by omega
        clear hM hv
        go_enter Tryd.func26, Tryd.ntmps26
        go_wp2_with fail
        go_region
        show Exit.then _ _ _ _ w.drew
        rw [HWD.out]
        clear y0 y2 y3
        go_upto_region 7 with fail
        refine wp_region_still_lit (by kernel_rfl) (by kernel_rfl) ?_
        repeat still_step
        still_call hnum
        repeat still_step
        refine wpStill_nil ?_
        clear hnum
        go_wp2_with fail
        go_ret
        have hd0 : decide (n < 0) = false := decide_eq_false (by omega)
        have hmx : max n 0 = n := Int.max_eq_left hn0
        rw [hd0]
        refine ⟨?_, (HRS.out.flag false).drew, ((HU9.out.trans (updRb wd rb 2 (.int .i64 ((k : Int) + 1))) (fun _ _ h => h)).trans (updRb _ _ 3 (.bool false)) (fun _ _ h => h)).drew⟩
        first | rfl | (show Ending.returned (.int .i64 (max n 0)) = _; rw [hmx]) | (simp [hmx, Act.eval]; done)
theorem nameF_empty {v : ByteArray} (h : v.toList = []) : ∀ (f i : Nat), 1 ≤ i → f + i ≤ 8 → nameF v f i = 0
  | 0, i, _, _ => rfl
  | f + 1, i, h1, h2 => by
    have hc : i = 1 ∨ i = 2 ∨ i = 3 ∨ i = 4 ∨ i = 5 ∨ i = 6 ∨ i = 7 := by omega
    rw [nameF_no (by rw [h, ByteArray.toList_eq]; rcases hc with rfl | rfl | rfl | rfl | rfl | rfl | rfl <;> rfl)]
    exact nameF_empty h f (i + 1) (by omega) (by omega)
theorem nameOf_one (v : ByteArray) : nameOf v = nameF v 7 1 := by
  unfold nameOf
  cases hq : ((wordS (0 : Int)).toList == v.toList) with
  | true =>
    rw [nameF_yes (i := 0) hq, nameF_empty _ 7 1 (by omega) (by omega)]
    have h := LawfulBEq.eq_of_beq hq
    rw [← h, ByteArray.toList_eq]
    rfl
  | false => rw [nameF_no (i := 0) hq]
set_option maxRecDepth 100000 in
set_option maxHeartbeats 4000000 in
theorem op_t (w : World) (S : Nat → Prop) (rb : Nat) (all rest : List ByteArray) (bad : Bool) (h : TdR w S rb all rest bad) :
    Calls Tryd.prog 53 #[.pointer (some ⟨rb, 0, none⟩), .bool true] w (TVarAns w S rb all (opT bad rest)) := by
  have H := hideP h
  cases bad with
  | true =>
    obtain ⟨A, c, k, hc, -⟩ := h.at_
    have c3 := hc.cellv (i := 0 + 3) rfl
    clear hc h
    have e : opT true rest = (0, rest, true) := rfl
    rw [e]
    go_enter Tryd.func53, Tryd.ntmps53
    go_wp2_with fail
    go_ret
    exact ⟨rfl, H.out, Upd.refl _ _⟩
  | false =>
    cases rest with
    | nil =>
      obtain ⟨A, c, hc⟩ := h.end_
      have c0 := hc.cellv (i := 0) rfl
      have c2 := hc.cellv (i := 0 + 2) rfl
      have c3 := hc.cellv (i := 0 + 3) rfl
      clear hc h
      have e : opT false [] = (0, [], false) := rfl
      rw [e]
      go_enter Tryd.func53, Tryd.ntmps53
      go_wp2_with fail
      go_region
      go_wp2_with fail
      go_ret
      exact ⟨rfl, H.out.drew, (Upd.refl _ _).drew⟩
    | cons v r =>
      obtain ⟨ad0, c9, k9, hc9, -, hkl9, -⟩ := h.next_
      have y0 := hc9.cellv (i := 0) rfl
      have y2 := hc9.cellv (i := 0 + 2) rfl
      have y3 := hc9.cellv (i := 0 + 3) rfl
      have g9 : ¬ (all.length : Int) ≤ (k9 : Int) := by omega
      have hfew := h.few
      obtain ⟨R, hR⟩ : ∃ R, nameOf v = R := ⟨_, rfl⟩
      have e : opT false (v :: r) = if R = 0 then (0, v :: r, false) else ((R : Int), r, false) := by rw [← hR]; rfl
      rw [e]
      obtain ⟨X, hX⟩ : ∃ X, (if R = 0 then ((0 : Int), v :: r, false) else ((R : Int), r, false)) = X := ⟨_, rfl⟩
      rw [hX]
      have HX := hideP hX
      clear hX
      have HR0 := hideP ((nameOf_one v).symm.trans hR)
      clear hc9 h e hR
      go_enter Tryd.func53, Tryd.ntmps53
      go_wp2_with fail
      go_region
      show Exit.then _ _ _ _ w.drew
      have hd51 : decide (all.length ≤ k9) = false := decide_eq_false (by omega)
      have hd52 : decide ((all.length : Int) ≤ (k9 : Int)) = false := decide_eq_false (by omega)
      try rw [hd51]
      try rw [hd52]
      clear hd51 hd52
      have HD := hideP H.out.drew
      have HU := hideP ((Upd.refl (fun b => b = rb) w).drew)
      clear y0 y2 y3 g9
      generalize w.drew = wd at *
      go_wp2_with fail
      go_loopg [5] 7 (fun gk v5 wr => ∃ (i : Nat), 1 ≤ i ∧ i + gk = 8 ∧ v5 = .int .i64 (i : Int) ∧ nameF v gk i = R ∧ TdR wr S rb all (v :: r) false ∧ Upd (fun b => b = rb) w wr)
      case atStart => exact ⟨1, by omega, by omega, rfl, HR0.out, HD.out, HU.out⟩
      case round =>
        obtain ⟨i, hi1, hk, rfl, hN, hT, hU⟩ := hrel
        have HN := hideP hN
        have HT := hideP hT
        have HU := hideP hU
        have HK := hideP hk
        by_cases hlt : i ≤ 7
        · obtain ⟨wd2, hwd⟩ : ∃ wd2, wr.drew = wd2 := ⟨_, rfl⟩
          have HWD := hideP hwd
          have hgk : gk = (gk - 1) + 1 := by omega
          have g1 : (i : Int) ≤ 7 := by omega
          have g2 : (1 : Int) ≤ (i : Int) := by omega
          obtain ⟨ad, c, k, hc, hrd, hkl, hd, hcx, hne⟩ := hT.next_
          have c0 := hc.cellv (i := 0) rfl
          have c2 := hc.cellv (i := 0 + 2) rfl
          have q1 : (k : Int) < (all.length : Int) := by omega
          have HTD := hT.drew
          have HUD := hU.drew
          rw [hwd] at HTD HUD
          have HTD := hideP HTD
          have HUD := hideP HUD
          obtain ⟨ad2, cc2, k2, hc2, hrd2, hkl2, hd2, -, -⟩ := HTD.out.next_
          have e2 := hc2.cellv (i := 0 + 2) rfl
          have fe2 := hc2.frozen (0 + 2)
          have w1 : IntKind.i64.wrap ((k2 : Int) + 1) = (k2 : Int) + 1 := by rw [IntKind.wrap_i64]; omega
          have HRS := hideP (HTD.out.step hc2 hrd2 hkl2 hd2)
          have hn := HN.out
          rw [hgk] at hn
          clear hN hT hU hk hc hrd hkl hd hc2 hrd2 hkl2 hd2 hwd hgk
          cases hq : ((wordS (i : Int)).toList == v.toList) with
          | true =>
            rw [nameF_yes hq] at hn
            have HNI := hideP hn
            clear hn
            go_upto_region 14 with (go_at_call 49; refine (word_any _ (i : Int) g2 g1).mono ?_; rintro e w7 ⟨rfl, hw7⟩; subst hw7)
            go_region
            show Exit.then _ _ _ _ w7.drew
            rw [HWD.out]
            clear c0 c2 hcx
            go_wp2_with fail
            go_ret
            rw [← HX.out, if_neg (by have := HNI.out; omega)]
            exact ⟨by rw [← HNI.out]; rfl, HRS.out, HUD.out.trans (updRb _ _ _ _) (fun _ _ h => h)⟩
          | false =>
            rw [nameF_no hq] at hn
            have HNI := hideP hn
            clear hn
            go_upto_region 14 with (go_at_call 49; refine (word_any _ (i : Int) g2 g1).mono ?_; rintro e w7 ⟨rfl, hw7⟩; subst hw7)
            go_region
            show Exit.then _ _ _ _ w7.drew
            rw [HWD.out]
            clear c0 c2 hcx e2 fe2
            go_wp2_with fail
            go_roundg (gk - 1)
            case measure => have := HK.out; omega
            case rel => exact ⟨i + 1, by omega, by have := HK.out; omega, by go_num, HNI.out, HTD.out, HUD.out⟩
        · have g1 : ¬ (i : Int) ≤ 7 := by omega
          have HR := hideP (show R = 0 from by rw [← HN.out, show gk = 0 by omega]; rfl)
          clear hN hT hU hk hlt
          go_wp2_with fail
          go_ret
          rw [← HX.out, if_pos HR.out]
          exact ⟨rfl, HT.out, HU.out⟩
end Go.Proofs.YtdbdokjlcdogiaaDoor
