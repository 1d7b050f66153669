/-
  Plain facts on Holds and Flip: bit by bit.
-/
import Derived.Test.YtmcagnahpgjilaaFlip
import Derived.Test.YtmcagnahpgjilaaBits
namespace Go.Proofs.Ytmcagnahpgjilaa
open Go.RowKit
set_option linter.unusedVariables false

theorem holds_iff (x y : Int) : holdsB x y = true ↔ ∀ k, k < 64 → bitAt x k = true → bitAt y k = true := by
  have e : bits .andNot .i64 x y = IntKind.i64.wrap ((BitVec.ofInt 64 x &&& ~~~ BitVec.ofInt 64 y).toNat : Int) := rfl
  have h0 : holdsB x y = true ↔ (BitVec.ofInt 64 x &&& ~~~ BitVec.ofInt 64 y) = 0#64 := by
    unfold holdsB
    rw [e, IntKind.wrap_i64]
    have hlt := (BitVec.ofInt 64 x &&& ~~~ BitVec.ofInt 64 y).isLt
    rw [← BitVec.toNat_inj]
    simp only [beq_iff_eq]
    generalize (BitVec.ofInt 64 x &&& ~~~ BitVec.ofInt 64 y).toNat = m at *
    simp
    omega
  rw [h0]
  constructor
  · intro h k hk hx
    have := congrArg (fun b : BitVec 64 => b.getLsbD k) h
    simp only [BitVec.getLsbD_and, BitVec.getLsbD_not, getLsb_ofInt _ _ hk, hx, Bool.true_and, hk, decide_true] at this
    simpa using this
  · intro h
    apply BitVec.eq_of_getLsbD_eq
    intro k hk
    simp only [BitVec.getLsbD_and, BitVec.getLsbD_not, getLsb_ofInt _ _ hk, hk, decide_true, Bool.true_and]
    cases hx : bitAt x k
    · simp
    · simp [h k hk hx]


theorem bitAt_eq (x : Int) (k : Nat) (b : Int) (h : (2 : Int) ^ k = b) : bitAt x k = ((x / b) % 2 == 1) := by unfold bitAt; rw [h]

set_option maxHeartbeats 2000000 in
/-- one step of Flip: bit B of o becomes bit C of x -/
theorem step_eq (x o : Int) (kc kb : Nat) (C B : Nat) (hC : C = 2 ^ kc) (hB : B = 2 ^ kb) (h1 : kc < 6) (h2 : kb < 6) (ho : In64 o) :
    (if (bits .and .i64 x (C : Int) != 0) = true then bits .or .i64 o (B : Int) else bits .andNot .i64 o (B : Int)) = o + (B : Int) * ((x / (C : Int)) % 2 - (o / (B : Int)) % 2) ∧
    In64 (o + (B : Int) * ((x / (C : Int)) % 2 - (o / (B : Int)) % 2)) := by
  subst hC; subst hB
  rw [bits_and_pow x kc (by omega), bits_or_pow o kb (by omega) ho, bits_andNot_pow o kb (by omega) ho]
  obtain ⟨ho1, ho2⟩ := ho
  unfold In64
  rw [bitAt_eq x kc ((2 ^ kc : Nat) : Int) (by simp), bitAt_eq o kb ((2 ^ kb : Nat) : Int) (by simp)]
  rcases (by omega : kc = 0 ∨ kc = 1 ∨ kc = 2 ∨ kc = 3 ∨ kc = 4 ∨ kc = 5) with rfl | rfl | rfl | rfl | rfl | rfl <;>
  rcases (by omega : kb = 0 ∨ kb = 1 ∨ kb = 2 ∨ kb = 3 ∨ kb = 4 ∨ kb = 5) with rfl | rfl | rfl | rfl | rfl | rfl <;>
  simp only [Nat.reducePow, Int.cast_ofNat_Int, IntKind.wrap_i64, beq_iff_eq, bne_iff_ne, ne_eq] <;>
  (split <;> split <;> omega)

/-- Flip, by numbers -/
def flipZ (x : Int) : Int := x - x % 16 + 2 * (x % 2) + (x / 2) % 2 + 8 * ((x / 4) % 2) + 4 * ((x / 8) % 2)
set_option maxHeartbeats 2000000 in
theorem flipP_eq (x : Int) (hx : In64 x) : flipP x 6 = flipZ x ∧ In64 (flipZ x) := by
  have s1 := step_eq x (flipP x 0) 0 1 1 2 rfl rfl (by omega) (by omega) hx
  have e1 : flipP x 1 = _ := s1.1
  have s2 := step_eq x (flipP x 1) 1 0 2 1 rfl rfl (by omega) (by omega) (by rw [e1]; exact s1.2)
  have e2 : flipP x 2 = _ := s2.1
  have s3 := step_eq x (flipP x 2) 2 3 4 8 rfl rfl (by omega) (by omega) (by rw [e2]; exact s2.2)
  have e3 : flipP x 3 = _ := s3.1
  have s4 := step_eq x (flipP x 3) 3 2 8 4 rfl rfl (by omega) (by omega) (by rw [e3]; exact s3.2)
  have e4 : flipP x 4 = _ := s4.1
  have s5 := step_eq x (flipP x 4) 4 4 16 16 rfl rfl (by omega) (by omega) (by rw [e4]; exact s4.2)
  have e5 : flipP x 5 = _ := s5.1
  have s6 := step_eq x (flipP x 5) 5 5 32 32 rfl rfl (by omega) (by omega) (by rw [e5]; exact s5.2)
  have e6 : flipP x 6 = _ := s6.1
  have h6 := s6.2
  rw [← e6] at h6
  have h0 : flipP x 0 = x := rfl
  rw [h0] at e1
  have : flipP x 6 = flipZ x := by
    clear s1 s2 s3 s4 s5 s6 h6 hx
    unfold flipZ
    simp only [Int.cast_ofNat_Int] at *
    generalize flipP x 6 = a6 at *
    generalize flipP x 5 = a5 at *
    generalize flipP x 4 = a4 at *
    generalize flipP x 3 = a3 at *
    generalize flipP x 2 = a2 at *
    generalize flipP x 1 = a1 at *
    clear h0
    obtain ⟨q, b0, b1, b2, b3, b4, b5, hb, hx⟩ : ∃ q b0 b1 b2 b3 b4 b5 : Int, (0 ≤ b0 ∧ b0 ≤ 1 ∧ 0 ≤ b1 ∧ b1 ≤ 1 ∧ 0 ≤ b2 ∧ b2 ≤ 1 ∧ 0 ≤ b3 ∧ b3 ≤ 1 ∧ 0 ≤ b4 ∧ b4 ≤ 1 ∧ 0 ≤ b5 ∧ b5 ≤ 1) ∧ x = 64 * q + 32 * b5 + 16 * b4 + 8 * b3 + 4 * b2 + 2 * b1 + b0 :=
      ⟨x / 64, x % 2, (x / 2) % 2, (x / 4) % 2, (x / 8) % 2, (x / 16) % 2, (x / 32) % 2, by omega, by omega⟩
    have x0 : x / 1 % 2 = b0 := by omega
    have x1 : x / 2 % 2 = b1 := by omega
    have x2 : x / 4 % 2 = b2 := by omega
    have x3 : x / 8 % 2 = b3 := by omega
    have x4 : x / 16 % 2 = b4 := by omega
    have x5 : x / 32 % 2 = b5 := by omega
    have xm : x % 16 = 8 * b3 + 4 * b2 + 2 * b1 + b0 := by omega
    have xz : x % 2 = b0 := by omega
    rw [x0] at e1; rw [x1] at e1 e2; rw [x2] at e3; rw [x3] at e4; rw [x4] at e5; rw [x5] at e6
    rw [xm, xz, x1, x2, x3]
    clear x0 x1 x2 x3 x4 x5 xm xz
    obtain ⟨hb0, hb0', hb1, hb1', hb2, hb2', hb3, hb3', hb4, hb4', hb5, hb5'⟩ := hb
    have f1 : a1 = 64 * q + 32 * b5 + 16 * b4 + 8 * b3 + 4 * b2 + 2 * b0 + b0 := by omega
    have g1 : a1 / 1 % 2 = b0 := by omega
    rw [g1] at e2
    have f2 : a2 = 64 * q + 32 * b5 + 16 * b4 + 8 * b3 + 4 * b2 + 2 * b0 + b1 := by omega
    have g2 : a2 / 8 % 2 = b3 := by
      have : a2 / 8 = 8 * q + 4 * b5 + 2 * b4 + b3 := by clear e1 e2 e3 e4 e5 e6 f1 g1 hx; omega
      rw [this]; clear e1 e2 e3 e4 e5 e6 f1 g1 hx; omega
    rw [g2] at e3
    have f3 : a3 = 64 * q + 32 * b5 + 16 * b4 + 8 * b2 + 4 * b2 + 2 * b0 + b1 := by omega
    have g3 : a3 / 4 % 2 = b2 := by
      have : a3 / 4 = 16 * q + 8 * b5 + 4 * b4 + 2 * b2 + b2 := by clear e1 e2 e3 e4 e5 e6 f1 g1 f2 g2 hx; omega
      rw [this]; clear e1 e2 e3 e4 e5 e6 f1 g1 f2 g2 hx; omega
    rw [g3] at e4
    have f4 : a4 = 64 * q + 32 * b5 + 16 * b4 + 8 * b2 + 4 * b3 + 2 * b0 + b1 := by omega
    have g4 : a4 / 16 % 2 = b4 := by
      have : a4 / 16 = 4 * q + 2 * b5 + b4 := by clear e1 e2 e3 e4 e5 e6 f1 g1 f2 g2 f3 g3 hx; omega
      rw [this]; clear e1 e2 e3 e4 e5 e6 f1 g1 f2 g2 f3 g3 hx; omega
    rw [g4] at e5
    have g5 : a5 / 32 % 2 = b5 := by
      have f5 : a5 = a4 := by omega
      have : a5 / 32 = 2 * q + b5 := by clear e1 e2 e3 e4 e5 e6 f1 g1 f2 g2 f3 g3 g4 hx; omega
      rw [this]; clear e1 e2 e3 e4 e5 e6 f1 g1 f2 g2 f3 g3 g4 hx; omega
    rw [g5] at e6
    omega
  exact ⟨this, by rw [← this]; exact h6⟩
theorem flip_z (w : World) (x : Int) (hx : In64 x) : Calls Try.prog 14 #[.int .i64 x] w fun e w' => e = .returned (.int .i64 (flipZ x)) ∧ Upd Nob w w' := by
  have := flip_any w x
  rw [(flipP_eq x hx).1] at this
  exact this
end Go.Proofs.Ytmcagnahpgjilaa
