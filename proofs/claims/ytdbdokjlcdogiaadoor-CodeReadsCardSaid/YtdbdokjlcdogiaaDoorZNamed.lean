/-
  Named, put together.
-/
import Derived.Test.YtdbdokjlcdogiaaDoorZ10TNum
import Derived.Test.YtdbdokjlcdogiaaDoorZ12Print

/-
  The walks of (*code.reader).left and of code.named.
-/
namespace Go.Proofs.YtdbdokjlcdogiaaDoor
open Go.RowKit
set_option linter.unusedVariables false

set_option maxRecDepth 100000 in
theorem tleft_any (w : World) (tb : Nat) (s : ByteArray) (k : Nat) (h : TxtR w tb s k) :
    Calls Tryd.prog 95 #[.pointer (some ⟨tb, 0, none⟩)] w fun e w' => e = .returned (.int .i64 ((s.size - k : Nat) : Int)) ∧ w' = w.drew := by
  have c0 := h.c.cellv (i := 0) rfl
  have c1 := h.c.cellv (i := 0 + 1) rfl
  have hle := h.le
  have hfew := h.few
  have e : ((s.size - k : Nat) : Int) = (s.size : Int) - (k : Int) := by omega
  have w1 : IntKind.i64.wrap ((s.size : Int) - (k : Int)) = (s.size : Int) - (k : Int) := by rw [IntKind.wrap_i64]; omega
  rw [e]
  clear h e hle
  go_enter Tryd.func95, Tryd.ntmps95
  go_wp2_with fail
  go_region
  go_wp2_with fail
  go_ret
  exact ⟨rfl, rfl⟩
theorem words_ix0 (w : World) (a0 a1 a2 a3 a4 a5 a6 a7 : Value) : (Instr.index 80 (.agg #[a0, a1, a2, a3, a4, a5, a6, a7]) (.int .i64 0)).run Tryd.prog w = .ok a0 w := by kernel_rfl
theorem words_ix1 (w : World) (a0 a1 a2 a3 a4 a5 a6 a7 : Value) : (Instr.index 80 (.agg #[a0, a1, a2, a3, a4, a5, a6, a7]) (.int .i64 1)).run Tryd.prog w = .ok a1 w := by kernel_rfl
theorem words_ix2 (w : World) (a0 a1 a2 a3 a4 a5 a6 a7 : Value) : (Instr.index 80 (.agg #[a0, a1, a2, a3, a4, a5, a6, a7]) (.int .i64 2)).run Tryd.prog w = .ok a2 w := by kernel_rfl
theorem words_ix3 (w : World) (a0 a1 a2 a3 a4 a5 a6 a7 : Value) : (Instr.index 80 (.agg #[a0, a1, a2, a3, a4, a5, a6, a7]) (.int .i64 3)).run Tryd.prog w = .ok a3 w := by kernel_rfl
theorem words_ix4 (w : World) (a0 a1 a2 a3 a4 a5 a6 a7 : Value) : (Instr.index 80 (.agg #[a0, a1, a2, a3, a4, a5, a6, a7]) (.int .i64 4)).run Tryd.prog w = .ok a4 w := by kernel_rfl
theorem words_ix5 (w : World) (a0 a1 a2 a3 a4 a5 a6 a7 : Value) : (Instr.index 80 (.agg #[a0, a1, a2, a3, a4, a5, a6, a7]) (.int .i64 5)).run Tryd.prog w = .ok a5 w := by kernel_rfl
theorem words_ix6 (w : World) (a0 a1 a2 a3 a4 a5 a6 a7 : Value) : (Instr.index 80 (.agg #[a0, a1, a2, a3, a4, a5, a6, a7]) (.int .i64 6)).run Tryd.prog w = .ok a6 w := by kernel_rfl
theorem words_ix7 (w : World) (a0 a1 a2 a3 a4 a5 a6 a7 : Value) : (Instr.index 80 (.agg #[a0, a1, a2, a3, a4, a5, a6, a7]) (.int .i64 7)).run Tryd.prog w = .ok a7 w := by kernel_rfl
/-- the operation of a word; 0: none -/
def nameF (v : ByteArray) : Nat → Nat → Nat
  | 0, _ => 0
  | f + 1, i => if (wordS i).toList == v.toList then i else nameF v f (i + 1)
theorem nameF_yes {v : ByteArray} {f i : Nat} (h : ((wordS (i : Int)).toList == v.toList) = true) : nameF v (f + 1) i = i := by rw [nameF, if_pos h]
theorem nameF_no {v : ByteArray} {f i : Nat} (h : ((wordS (i : Int)).toList == v.toList) = false) : nameF v (f + 1) i = nameF v f (i + 1) := by rw [nameF, if_neg (by rw [h]; simp)]
def nameOf (v : ByteArray) : Nat := nameF v 8 0
set_option maxRecDepth 100000 in
set_option maxHeartbeats 4000000 in
theorem named_any (w : World) (v : ByteArray) (hwt : WordTab w) : Calls Tryd.prog 45 #[.string v] w fun e w' => e = .returned (.int .i64 (nameOf v : Nat)) ∧ w' = w := by
  have t0 : w.cell? ⟨0, 0, none⟩ = some (.string (wordS 0)) := hwt 0 (by omega)
  have t1 : w.cell? ⟨0, 1, none⟩ = some (.string (wordS 1)) := hwt 1 (by omega)
  have t2 : w.cell? ⟨0, 2, none⟩ = some (.string (wordS 2)) := hwt 2 (by omega)
  have t3 : w.cell? ⟨0, 3, none⟩ = some (.string (wordS 3)) := hwt 3 (by omega)
  have t4 : w.cell? ⟨0, 4, none⟩ = some (.string (wordS 4)) := hwt 4 (by omega)
  have t5 : w.cell? ⟨0, 5, none⟩ = some (.string (wordS 5)) := hwt 5 (by omega)
  have t6 : w.cell? ⟨0, 6, none⟩ = some (.string (wordS 6)) := hwt 6 (by omega)
  have t7 : w.cell? ⟨0, 7, none⟩ = some (.string (wordS 7)) := hwt 7 (by omega)
  clear hwt
  obtain ⟨R, hR⟩ : ∃ R, nameOf v = R := ⟨_, rfl⟩
  rw [hR]
  have HRR := hideP hR
  clear hR
  go_enter Tryd.func45, Tryd.ntmps45
  go_wp2_with fail
  clear t0 t1 t2 t3 t4 t5 t6 t7
  go_loopg [6] 8 (fun gk v6 wr => ∃ (i : Nat), i + gk = 8 ∧ v6 = .int .i64 (i : Int) ∧ nameF v gk i = R ∧ wr = w)
  case atStart => exact ⟨0, by omega, rfl, HRR.out, rfl⟩
  case round =>
    obtain ⟨i, hk, rfl, hN, hw⟩ := hrel
    subst hw
    have hi : i = 0 ∨ i = 1 ∨ i = 2 ∨ i = 3 ∨ i = 4 ∨ i = 5 ∨ i = 6 ∨ i = 7 ∨ i = 8 := by omega
    have HN := hideP hN
    clear hN
    rcases hi with rfl | rfl | rfl | rfl | rfl | rfl | rfl | rfl | rfl
    · obtain rfl : gk = 8 := by omega
      have hx := words_ix0 wr (.string (wordS 0)) (.string (wordS 1)) (.string (wordS 2)) (.string (wordS 3)) (.string (wordS 4)) (.string (wordS 5)) (.string (wordS 6)) (.string (wordS 7))
      cases hq : ((wordS 0).toList == v.toList) with
      | true =>
        have HR := hideP (show R = 0 from HN.out.symm.trans (nameF_yes (i := 0) hq))
        go_wp2_with fail
        go_ret
        exact ⟨by rw [HR.out]; rfl, rfl⟩
      | false =>
        have HR := hideP (show nameF v 7 1 = R from (nameF_no (i := 0) hq).symm.trans HN.out)
        go_wp2_with fail
        go_roundg 7
        case measure => omega
        case rel => exact ⟨1, by omega, rfl, HR.out, rfl⟩
    · obtain rfl : gk = 7 := by omega
      have hx := words_ix1 wr (.string (wordS 0)) (.string (wordS 1)) (.string (wordS 2)) (.string (wordS 3)) (.string (wordS 4)) (.string (wordS 5)) (.string (wordS 6)) (.string (wordS 7))
      cases hq : ((wordS 1).toList == v.toList) with
      | true =>
        have HR := hideP (show R = 1 from HN.out.symm.trans (nameF_yes (i := 1) hq))
        go_wp2_with fail
        go_ret
        exact ⟨by rw [HR.out]; rfl, rfl⟩
      | false =>
        have HR := hideP (show nameF v 6 2 = R from (nameF_no (i := 1) hq).symm.trans HN.out)
        go_wp2_with fail
        go_roundg 6
        case measure => omega
        case rel => exact ⟨2, by omega, rfl, HR.out, rfl⟩
    · obtain rfl : gk = 6 := by omega
      have hx := words_ix2 wr (.string (wordS 0)) (.string (wordS 1)) (.string (wordS 2)) (.string (wordS 3)) (.string (wordS 4)) (.string (wordS 5)) (.string (wordS 6)) (.string (wordS 7))
      cases hq : ((wordS 2).toList == v.toList) with
      | true =>
        have HR := hideP (show R = 2 from HN.out.symm.trans (nameF_yes (i := 2) hq))
        go_wp2_with fail
        go_ret
        exact ⟨by rw [HR.out]; rfl, rfl⟩
      | false =>
        have HR := hideP (show nameF v 5 3 = R from (nameF_no (i := 2) hq).symm.trans HN.out)
        go_wp2_with fail
        go_roundg 5
        case measure => omega
        case rel => exact ⟨3, by omega, rfl, HR.out, rfl⟩
    · obtain rfl : gk = 5 := by omega
      have hx := words_ix3 wr (.string (wordS 0)) (.string (wordS 1)) (.string (wordS 2)) (.string (wordS 3)) (.string (wordS 4)) (.string (wordS 5)) (.string (wordS 6)) (.string (wordS 7))
      cases hq : ((wordS 3).toList == v.toList) with
      | true =>
        have HR := hideP (show R = 3 from HN.out.symm.trans (nameF_yes (i := 3) hq))
        go_wp2_with fail
        go_ret
        exact ⟨by rw [HR.out]; rfl, rfl⟩
      | false =>
        have HR := hideP (show nameF v 4 4 = R from (nameF_no (i := 3) hq).symm.trans HN.out)
        go_wp2_with fail
        go_roundg 4
        case measure => omega
        case rel => exact ⟨4, by omega, rfl, HR.out, rfl⟩
    · obtain rfl : gk = 4 := by omega
      have hx := words_ix4 wr (.string (wordS 0)) (.string (wordS 1)) (.string (wordS 2)) (.string (wordS 3)) (.string (wordS 4)) (.string (wordS 5)) (.string (wordS 6)) (.string (wordS 7))
      cases hq : ((wordS 4).toList == v.toList) with
      | true =>
        have HR := hideP (show R = 4 from HN.out.symm.trans (nameF_yes (i := 4) hq))
        go_wp2_with fail
        go_ret
        exact ⟨by rw [HR.out]; rfl, rfl⟩
      | false =>
        have HR := hideP (show nameF v 3 5 = R from (nameF_no (i := 4) hq).symm.trans HN.out)
        go_wp2_with fail
        go_roundg 3
        case measure => omega
        case rel => exact ⟨5, by omega, rfl, HR.out, rfl⟩
    · obtain rfl : gk = 3 := by omega
      have hx := words_ix5 wr (.string (wordS 0)) (.string (wordS 1)) (.string (wordS 2)) (.string (wordS 3)) (.string (wordS 4)) (.string (wordS 5)) (.string (wordS 6)) (.string (wordS 7))
      cases hq : ((wordS 5).toList == v.toList) with
      | true =>
        have HR := hideP (show R = 5 from HN.out.symm.trans (nameF_yes (i := 5) hq))
        go_wp2_with fail
        go_ret
        exact ⟨by rw [HR.out]; rfl, rfl⟩
      | false =>
        have HR := hideP (show nameF v 2 6 = R from (nameF_no (i := 5) hq).symm.trans HN.out)
        go_wp2_with fail
        go_roundg 2
        case measure => omega
        case rel => exact ⟨6, by omega, rfl, HR.out, rfl⟩
    · obtain rfl : gk = 2 := by omega
      have hx := words_ix6 wr (.string (wordS 0)) (.string (wordS 1)) (.string (wordS 2)) (.string (wordS 3)) (.string (wordS 4)) (.string (wordS 5)) (.string (wordS 6)) (.string (wordS 7))
      cases hq : ((wordS 6).toList == v.toList) with
      | true =>
        have HR := hideP (show R = 6 from HN.out.symm.trans (nameF_yes (i := 6) hq))
        go_wp2_with fail
        go_ret
        exact ⟨by rw [HR.out]; rfl, rfl⟩
      | false =>
        have HR := hideP (show nameF v 1 7 = R from (nameF_no (i := 6) hq).symm.trans HN.out)
        go_wp2_with fail
        go_roundg 1
        case measure => omega
        case rel => exact ⟨7, by omega, rfl, HR.out, rfl⟩
    · obtain rfl : gk = 1 := by omega
      have hx := words_ix7 wr (.string (wordS 0)) (.string (wordS 1)) (.string (wordS 2)) (.string (wordS 3)) (.string (wordS 4)) (.string (wordS 5)) (.string (wordS 6)) (.string (wordS 7))
      cases hq : ((wordS 7).toList == v.toList) with
      | true =>
        have HR := hideP (show R = 7 from HN.out.symm.trans (nameF_yes (i := 7) hq))
        go_wp2_with fail
        go_ret
        exact ⟨by rw [HR.out]; rfl, rfl⟩
      | false =>
        have HR := hideP (show nameF v 0 8 = R from (nameF_no (i := 7) hq).symm.trans HN.out)
        go_wp2_with fail
        go_roundg 0
        case measure => omega
        case rel => exact ⟨8, by omega, rfl, HR.out, rfl⟩
    · obtain rfl : gk = 0 := by omega
      have HR := hideP (show R = 0 from HN.out.symm)
      go_wp2_with fail
      go_ret
      exact ⟨by rw [HR.out]; rfl, rfl⟩
end Go.Proofs.YtdbdokjlcdogiaaDoor
