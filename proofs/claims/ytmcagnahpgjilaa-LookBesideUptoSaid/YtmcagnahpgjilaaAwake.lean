/-
  The walk of the law's awake.
-/
import Derived.Test.YtmcagnahpgjilaaRef2
namespace Go.Proofs.Ytmcagnahpgjilaa
open Go.RowKit
set_option linter.unusedVariables false

theorem awake_any (w : World) : Calls Try.prog 8 #[] w fun e w' => e = .returned (.bool true) ∧ Upd Nob w w' := by
  have hT0 : TextR (w.alloc (.cells #[.int .i64 97, .int .i64 10, .int .i64 98] 3)) (fun _ => True) (some ⟨w.heap.size, 0, none⟩) 3 [97, 10, 98] := by
    refine ⟨⟨rfl, fun _ => ⟨_, rfl, by simp, trivial, fun j u hj => ?_⟩⟩, ?_, by omega⟩
    · rw [add_lit_, (Cells.new w 3 #[.int .i64 97, .int .i64 10, .int .i64 98]).cell]
      simp only [Nat.zero_add]
      rw [← hj]; simp [intv]
    · intro x hx
      simp at hx
      rcases hx with rfl | rfl | rfl <;> (unfold In64; omega)
  have a1 : lookAt [97, 10, 98] 1 = 24 := by decide
  have a2 : lookAt [97, 10, 98] 2 = 20 := by decide
  have a3 : holdsB 16 47 = false := by decide
  have a4 : holdsB 36 47 = true := by decide
  have a5 : flipZ 9 = 6 := by decide
  have K1 := hide a1
  have K2 := hide a2
  have K3 := hide a3
  have K4 := hide a4
  have K5 := hide a5
  have KT := hide hT0
  clear a1 a2 a3 a4 a5 hT0
  have hU0 := (Upd.refl Nob w).alloc (.cells #[.int .i64 97, .int .i64 10, .int .i64 98] 3)
  go_enter Try.func8, Try.ntmps8
  go_wp2_with fail
  refine (at_any _ _ _ 3 3 1 _ KT.out (by unfold In64; omega)).mono ?_
  rintro e w1 ⟨he, hU1⟩
  rw [K1.out] at he
  subst he
  go_wp2_with fail
  refine (at_any _ _ _ 3 3 2 _ (KT.out.upd hU1 (fun _ _ => not_nob)) (by unfold In64; omega)).mono ?_
  rintro e w2 ⟨he, hU2⟩
  rw [K2.out] at he
  subst he
  go_wp2_with fail
  refine (holds_any _ 16 47).mono ?_
  rintro e w' ⟨he, rfl⟩
  rw [K3.out] at he
  subst he
  go_wp2_with fail
  refine (holds_any _ 36 47).mono ?_
  rintro e w' ⟨he, rfl⟩
  rw [K4.out] at he
  subst he
  go_wp2_with fail
  refine (flip_z _ 9 (by unfold In64; omega)).mono ?_
  rintro e w3 ⟨he, hU3⟩
  rw [K5.out] at he
  subst he
  go_wp2_with fail
  go_ret
  exact ⟨rfl, ((hU0.trans hU1 (fun _ _ h => h)).trans hU2 (fun _ _ h => h)).trans hU3 (fun _ _ h => h)⟩
theorem in64_and (x y : Int) : In64 (bits .and .i64 x y) := by
  have e : bits .and .i64 x y = IntKind.i64.wrap ((BitVec.ofInt 64 x &&& BitVec.ofInt 64 y).toNat : Int) := rfl
  rw [e, IntKind.wrap_i64]
  unfold In64
  omega
theorem bitAt_and (x y : Int) (k : Nat) (hk : k < 64) : bitAt (bits .and .i64 x y) k = (bitAt x k && bitAt y k) := by
  have e : bits .and .i64 x y = IntKind.i64.wrap ((BitVec.ofInt 64 x &&& BitVec.ofInt 64 y).toNat : Int) := rfl
  have h : BitVec.ofInt 64 (bits .and .i64 x y) = BitVec.ofInt 64 x &&& BitVec.ofInt 64 y := by
    rw [e]
    apply BitVec.eq_of_toNat_eq
    have hlt := (BitVec.ofInt 64 x &&& BitVec.ofInt 64 y).isLt
    rw [BitVec.toNat_ofInt, IntKind.wrap_i64]
    generalize (BitVec.ofInt 64 x &&& BitVec.ofInt 64 y).toNat = m at *
    have e64 : ((2 ^ 64 : Nat) : Int) = 18446744073709551616 := by decide
    rw [e64]
    omega
  rw [← getLsb_ofInt _ k hk, h, BitVec.getLsbD_and, getLsb_ofInt _ k hk, getLsb_ofInt _ k hk]
theorem lookHolds_any (w : World) (x y : Int) (hx : In64 x) (hy : In64 y) : Calls Try.prog 4 #[.int .i64 x, .int .i64 y] w fun e w' => e = .returned (.bool true) ∧ Upd Nob w w' := by
  have h3 : holdsB (bits .and .i64 x y) y = true := by
    rw [holds_iff]
    intro k hk h
    rw [bitAt_and x y k hk] at h
    simp at h
    exact h.2
  have K3 := hide h3
  have hi := in64_and x y
  clear h3
  go_enter Try.func4, Try.ntmps4
  go_wp2_with fail
  refine (awake_any w).mono ?_
  rintro e w1 ⟨rfl, hU1⟩
  go_wp2_with fail
  refine (holds_any _ x y).mono ?_
  rintro e w' ⟨rfl, rfl⟩
  go_wp2_with fail
  refine (flip_z _ x hx).mono ?_
  rintro e w2 ⟨rfl, hU2⟩
  go_wp2_with fail
  refine (holds_any _ _ y).mono ?_
  rintro e w' ⟨he, rfl⟩
  rw [K3.out] at he
  subst he
  go_wp2_with (first | (go_at_call 15; refine (refHolds_any _ x y hx hy).mono ?_; rintro e w' ⟨rfl, rfl⟩) | (go_at_call 16; refine (refFlip_any _ x hx).mono ?_; rintro e w' ⟨rfl, rfl⟩))
  go_ret
  refine ⟨ret_bool (by simp), hU1.trans hU2 (fun _ _ h => h)⟩
end Go.Proofs.Ytmcagnahpgjilaa
