/-
  heronlaw02.LookBack: the walk of the law.
-/
import Derived.Test.YtmcagnahpgjilaaAwake
import Derived.Test.YtmcagnahpgjilaaBackPlain
import Derived.Maps.AppendAt
namespace Go.Proofs.Ytmcagnahpgjilaa
open Go.RowKit
set_option linter.unusedVariables false

theorem info_int : (Try.prog.info? 3).map (fun i => (i.zero, i.size, i.bytes)) = some (some (.int .i64 0), 1, 8) := by kernel_rfl
theorem take_next {α : Type} {xs : List α} {k : Nat} {x : α} (h : xs[k]? = some x) : xs.take (k + 1) = xs.take k ++ [x] := by
  rw [List.take_add_one, h]; rfl
theorem in64_part (xs : List Int) (i : Nat) : In64 (part xs i 6) := by
  have := part_bounds xs i 6
  have h : (2 : Int) ^ 6 = 64 := by decide
  unfold In64
  omega

theorem in64_look (xs : List Int) (p : Int) : In64 (lookAt xs p) := by
  unfold lookAt
  split
  · exact in64_part _ _
  · unfold In64; omega

set_option maxHeartbeats 2000000 in
theorem lookBack_any (w : World) (A : Option Addr) (n c : Nat) (xs : List Int) (p x : Int) (hx : TextR w (· < w.heap.size) A n xs) (hp : In64 p) (hxi : In64 x) (hn : n * 8 ≤ 140737488351232) :
    Calls Try.prog 6 #[.slice A n c, .int .i64 p, .int .i64 x] w fun e w' => e = .returned (.bool true) ∧ Upd Nob w w' := by
  obtain ⟨i0, hi0, hz0, hz1, hz2⟩ := info_parts info_int
  have hl := hx.len
  go_enter Try.func6, Try.ntmps6
  go_wp2_with fail
  refine (awake_any w).mono ?_
  rintro e w1 ⟨rfl, hU1⟩
  go_wp2_with fail
  go_loopg [8, 9] n (fun gk v8 v9 wr => ∃ (k : Nat) (A2 : Option Addr) (c2 : Nat), k + gk = n ∧ v9 = .int .i64 ((gk : Int) - 1) ∧ v8 = .slice A2 k c2 ∧ wr.ownsRow w.heap.size 3 1 (.slice A2 k c2) k (intv (xs.reverse.take k)) ∧ Upd Nob w wr)
  case atStart => exact ⟨0, none, 0, by omega, rfl, rfl, ⟨by simp [intv], .inl ⟨rfl, rfl⟩⟩, hU1⟩
  case round =>
    clear hU1
    obtain ⟨k, A2, c2, hk, rfl, rfl, hown, hU⟩ := hrel
    rcases gk with _ | j
    · have hkn : k = n := by omega
      clear hk
      subst hkn
      have hT := hx.upd hU (fun _ _ => not_nob)
      have hrl : xs.reverse.take k = xs.reverse := List.take_of_length_le (by simp [hl])
      rw [hrl] at hown
      have hT2 : TextR wr (fun b => (Value.slice A2 k c2).ownBlock = some b) A2 k xs.reverse := ⟨Reads.of_own hown, fun y hy => hx.i y (by simpa using hy), hx.n⟩
      have hU' := hU
      clear hown hU hrl
      have hz := flipZ_flipZ x
      have hh := holds_flip x
      have hb := look_back xs
      have hpi := in64_part
      have hfx := (flipP_eq x hxi).2
      have KZ := hide hz
      have KH := hide hh
      have KB := hide hb
      have KX := hide hx
      have KI := hide hpi
      clear hz hh hb hx hpi
      have hm := KX.out.n
      have hp1 := hp.1
      have hp2 := hp.2
      by_cases hin : 0 ≤ p ∧ p ≤ (k : Int)
      · obtain ⟨i, rfl⟩ := Int.eq_ofNat_of_zero_le hin.1
        have hik : i ≤ k := by omega
        have hr1 : lookAt xs (i : Int) = part xs i 6 := by unfold lookAt; rw [if_pos (by omega)]; simp
        have hr2 : lookAt xs.reverse ((k : Int) - (i : Int)) = part xs.reverse (xs.length - i) 6 := by
          unfold lookAt
          rw [if_pos (by simp; omega)]
          congr 1
          omega
        have hr3 := KB.out i (by omega)
        rw [hl] at hr2 hr3
        have R1 := hide hr1
        have R2 := hide hr2
        have R3 := hide hr3
        clear hr1 hr2 hr3 hin
        go_wp2_with fail
        refine (at_any _ _ A k c (i : Int) xs hT hp).mono ?_
        rintro e w2 ⟨he, hU2⟩
        rw [R1.out] at he
        subst he
        go_wp2_with fail
        refine (at_any _ _ A2 k c2 _ xs.reverse (hT2.upd hU2 (fun _ _ => not_nob)) ?_).mono ?_
        · unfold In64; omega
        rintro e w3 ⟨he, hU3⟩
        rw [R2.out] at he
        subst he
        go_wp2_with fail
        refine (flip_z _ _ (KI.out _ _)).mono ?_
        rintro e w4 ⟨he, hU4⟩
        rw [R3.out] at he
        subst he
        go_wp2_with fail
        refine (flip_z _ x hxi).mono ?_
        rintro e w5 ⟨rfl, hU5⟩
        go_wp2_with fail
        refine (flip_z _ _ hfx).mono ?_
        rintro e w6 ⟨he, hU6⟩
        rw [KZ.out] at he
        subst he
        go_wp2_with fail
        refine (holds_any _ _ x).mono ?_
        rintro e w' ⟨he, rfl⟩
        rw [KH.out] at he
        subst he
        go_wp2_with (go_at_call 13; refine (holds_any _ x _).mono ?_; rintro e w' ⟨rfl, rfl⟩)
        go_ret
        exact ⟨ret_bool (by simp), ((((hU'.trans hU2 (fun _ _ h => h)).trans hU3 (fun _ _ h => h)).trans hU4 (fun _ _ h => h)).trans hU5 (fun _ _ h => h)).trans hU6 (fun _ _ h => h)⟩
      · have hr1 : lookAt xs p = 0 := by unfold lookAt; rw [if_neg (by omega)]
        have R1 := hide hr1
        have hpo : p < 0 ∨ (k : Int) < p := by omega
        clear hr1 hin
        go_wp2_with fail
        refine (at_any _ _ A k c p xs hT hp).mono ?_
        rintro e w2 ⟨he, hU2⟩
        rw [R1.out] at he
        subst he
        go_wp2_with fail
        refine (at_any _ _ A2 k c2 _ xs.reverse (hT2.upd hU2 (fun _ _ => not_nob)) ?_).mono ?_
        · unfold In64 
          first | omega | (unfold wrap64; omega)
        rintro e w3 ⟨rfl, hU3⟩
        go_wp2_with fail
        refine (flip_z _ _ (in64_look _ _)).mono ?_
        rintro e w4 ⟨rfl, hU4⟩
        go_wp2_with fail
        refine (flip_z _ x hxi).mono ?_
        rintro e w5 ⟨rfl, hU5⟩
        have hU9 := (((hU'.trans hU2 (fun _ _ h => h)).trans hU3 (fun _ _ h => h)).trans hU4 (fun _ _ h => h)).trans hU5 (fun _ _ h => h)
        clear hU' hU2 hU3 hU4 hU5
        rcases hpo with h | h
        · go_wp2_with fail
          go_ret
          exact ⟨rfl, hU9⟩
        · have h0 : ¬ p < 0 := by omega
          go_wp2_with fail
          go_ret
          exact ⟨rfl, hU9⟩
    · have ej : (((j + 1 : Nat) : Int) - 1) = (j : Int) := by omega
      rw [ej]
      have hjn : j < n := by omega
      obtain ⟨ad, y, rfl, hyk, hyi, hyc⟩ := hx.at_ hjn
      have hc := hyc wr hU
      have hnext : xs.reverse.take (k + 1) = xs.reverse.take k ++ [y] := take_next (by rw [List.getElem?_reverse (by omega)]; rw [← hyk]; congr 1; omega)
      have KX := hide hx
      have KN := hide hnext
      have hb3 := hU.size
      clear hx hyk hyc hnext ej
      go_wp2_with (at_builtin; refine wpList_append_own_at _ rfl _ _ 22 rfl w.heap.size 3 i0 (.int .i64 0) 1 8 Try.underlying22 hi0 hz0 hz1 hz2 rfl (by decide) _ _ _ rfl (hown.alloc _) ⟨wr.heap.size, 0, none⟩ 1 1 [.int .i64 y] rfl rfl ?c1 ?c2 ?c3 ?c4 ?c5 ?_)
      case c1 =>
        intro j u hj
        match j, hj with
        | 0, hj => simp at hj; subst hj; simp [Addr.add]
      case c2 => intro u hu; simp at hu; subst hu; rfl
      case c3 => unfold maxLen; omega
      case c4 => omega
      case c5 => simp; omega
      intro v' w5 hown' hg _ hat
      have hlt5 := hown.lt
      obtain ⟨A5, c5, rfl⟩ := own_shape hown'
      have hU5 : Upd Nob w w5 := (hU.alloc _).grown hg (fun k' hk' hlt => by have := (hlt5 k' hk').1; omega)
      have hown5 : w5.ownsRow w.heap.size 3 1 (.slice A5 (k + 1) c5) (k + 1) (intv (xs.reverse.take (k + 1))) := by
        rw [KN.out, intv_append]; exact hown'
      clear hown hown' hg hat hlt5 hb3 hc hU
      go_wp2_with fail
      go_roundg j
      case measure => omega
      case rel => exact ⟨k + 1, A5, c5, by omega, rfl, rfl, hown5, hU5⟩
end Go.Proofs.Ytmcagnahpgjilaa
