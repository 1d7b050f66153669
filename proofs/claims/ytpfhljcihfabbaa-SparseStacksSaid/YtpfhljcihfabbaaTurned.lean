/-
  heronlaw03.SparseTurned: the walk of the law.
-/
import Derived.Test.YtpfhljcihfabbaaAwake
import Derived.Deep.LoopGhost
import Derived.Deep.DeepCutAuto
namespace Go.Proofs.Ytpfhljcihfabbaa
open Go.RowKit
set_option linter.unusedVariables false

theorem i64_and3 (n : Int) : bits .and .i64 n 3 = n % 4 := by
  have h3 : (BitVec.ofInt 64 3).toNat = 2 ^ 2 - 1 := by decide
  have key : (BitVec.ofInt 64 n &&& BitVec.ofInt 64 3).toNat = (n % ((2 ^ 64 : Nat) : Int)).toNat % 2 ^ 2 := by
    rw [BitVec.toNat_and, BitVec.toNat_ofInt, h3, Nat.and_two_pow_sub_one_eq_mod]
  show IntKind.i64.wrap ((BitVec.ofInt 64 n &&& BitVec.ofInt 64 3).toNat : Nat) = n % 4
  rw [key, IntKind.wrap_i64]
  omega

theorem snoc_or {α : Type} (l : List α) : l = [] ∨ ∃ p y, l = p ++ [y] := by
  rcases List.eq_nil_or_concat l with h | ⟨p, y, h⟩
  · exact .inl h
  · exact .inr ⟨p, y, by simpa using h⟩

/-- A stack at block b holds Ls, a list of the law's own Ll; the stack's greatest count is M. -/
structure Two (w wr : World) (b : Nat) (A2 : Option Addr) (c2 : Nat) (A3 : Option Addr) (c3 : Nat) (Ls Ll : List Int) (M : Int) : Prop where
  blk : Cells wr b 25 #[.slice A2 Ls.length c2, .int .i64 M]
  st : wr.ownsRow w.heap.size 3 1 (.slice A2 Ls.length c2) Ls.length (intv Ls)
  le : wr.ownsRow w.heap.size 3 1 (.slice A3 Ll.length c3) Ll.length (intv Ll)
  apart : ∀ g, (Value.slice A2 Ls.length c2).ownBlock = some g → (Value.slice A3 Ll.length c3).ownBlock ≠ some g
  low : w.heap.size ≤ b
  upd : Upd Nob w wr

theorem own_block_slice (A : Option Addr) (n m c d : Nat) : (Value.slice A n c).ownBlock = (Value.slice A m d).ownBlock := by cases A <;> rfl

/-- behind a call of a method of the stack's -/
theorem Two.stk {w wr w3 : World} {b : Nat} {A2 A3 : Option Addr} {c2 c3 n' : Nat} {Ls Ll Ls' : List Int} {M M' : Int} {xs' : List Value} (hT : Two w wr b A2 c2 A3 c3 Ls Ll M)
    (hP : StkP wr w3 w.heap.size b 0 25 #[.slice A2 Ls.length c2, .int .i64 M] A2 Ls.length c2 3 n' xs' M') (hn : n' = Ls'.length) (hx : xs' = intv Ls') :
    ∃ A4 c4, Two w w3 b A4 c4 A3 c3 Ls' Ll M' := by
  subst hn; subst hx
  obtain ⟨A4, c4, hC, ho, hor⟩ := hP.ex
  have hlb : (Value.slice A3 Ll.length c3).ownBlock ≠ some b := own_ne hT.le hT.blk (by decide)
  refine ⟨A4, c4, hC, ho, own_upd hT.le hP.upd ?_, ?_, hT.low, ?_⟩
  · rintro k hk (rfl | h)
    · exact hlb hk
    · exact hT.apart k h hk
  · intro g hg hl
    rcases hor with h | ⟨k, h, hk⟩
    · exact hT.apart g (h ▸ hg) hl
    · rw [h] at hg
      injection hg with hg
      subst hg
      have := (hT.le.lt k hl).2
      omega
  · exact hP.nob hT.st hT.upd (Nat.le_refl _) hT.low

/-- behind an append to the list -/
theorem Two.app {w w3 w5 : World} {b : Nat} {A2 A3 : Option Addr} {c2 c3 : Nat} {Ls Ll : List Int} {M x : Int} {v' : Value} (hT : Two w w3 b A2 c2 A3 c3 Ls Ll M) (o : Obj)
    (hown : w5.ownsRow w.heap.size 3 1 v' (Ll.length + 1) (intv Ll ++ [.int .i64 x])) (hg : (w3.alloc o).grownBy w5 (Value.slice A3 Ll.length c3).ownBlock)
    (hat : v'.ownBlock = (Value.slice A3 Ll.length c3).ownBlock ∨ v'.ownBlock = some (w3.heap.size + 1)) :
    ∃ A5 c5, v' = .slice A5 (Ll.length + 1) c5 ∧ Two w w5 b A2 c2 A5 c5 Ls (Ll ++ [x]) M := by
  obtain ⟨A5, c5, rfl⟩ := own_shape hown
  have hlb : (Value.slice A3 Ll.length c3).ownBlock ≠ some b := own_ne hT.le hT.blk (by decide)
  have hL : (Ll ++ [x]).length = Ll.length + 1 := by simp
  refine ⟨A5, c5, rfl, (hT.blk.alloc _).grown hg hlb, (hT.st.alloc _).kept hg ?_, ?_, ?_, hT.low, ?_⟩
  · rcases h : (Value.slice A2 Ls.length c2).ownBlock with _ | g
    · exact .inl rfl
    · exact .inr (fun e => hT.apart g h e.symm)
  · rw [hL]; simpa [intv] using hown
  · intro g hg' hl
    rw [hL] at hl
    rcases hat with h | h
    · exact hT.apart g hg' (h ▸ hl)
    · rw [h] at hl
      have := (hT.st.lt g hg').2
      simp at hl
      omega
  · refine (hT.upd.alloc _).grown hg ?_
    intro k hk hlt
    have := (hT.le.lt k hk).1
    omega

/-- the list without its last -/
theorem Two.cut {w w3 : World} {b g : Nat} {A2 : Option Addr} {c2 c3 : Nat} {Ls Ll : List Int} {M y : Int} (hT : Two w w3 b A2 c2 (some ⟨g, 0, none⟩) c3 Ls (Ll ++ [y]) M) :
    Two w w3 b A2 c2 (some ⟨g, 0, none⟩) c3 Ls Ll M := by
  refine ⟨hT.blk, hT.st, ?_, fun k hk => ?_, hT.low, hT.upd⟩
  · have := hT.le
    rw [show (Ll ++ [y]).length = Ll.length + 1 by simp] at this
    exact own_pop (y := .int .i64 y) (by simp [intv]) (by simpa [intv] using this)
  · have := hT.apart k hk
    rw [own_block_slice _ _ Ll.length c3 c3] at this
    exact this

set_option maxRecDepth 100000 in
set_option maxHeartbeats 2000000 in
theorem turned_any (w : World) (A B : Option Addr) (n c m d : Nat) (xs ps : List Int) (hx : Reads w (· < w.heap.size) 1 A n (intv xs)) (hp : Reads w (· < w.heap.size) 1 B m (intv ps)) (hn : n * 8 ≤ 140737488351232) (hm : m * 8 ≤ 140737488351232) :
    Calls Try.prog 3 #[.slice A n c, .slice B m d] w fun e w' => e = .returned (.bool true) ∧ Upd Nob w w' := by
  obtain ⟨i0, hi0, hz0, hz1, hz2⟩ := info_parts info_int
  go_enter Try.func3, Try.ntmps3
  go_wp2_with (go_at_call 6; refine (awake_any w).mono ?_; rintro e w1 ⟨rfl, hU1⟩)
  have h2 : Two w (w1.alloc (.cells #[.slice none 0 0, .int .i64 0] 25)) w1.heap.size none 0 none 0 [] [] 0 :=
    ⟨Cells.new _ _ _, World.ownsRow_nil _ _ _ _, World.ownsRow_nil _ _ _ _, by simp [Value.ownBlock], hU1.size, hU1.alloc _⟩
  generalize w1.alloc (.cells #[.slice none 0 0, .int .i64 0] 25) = w2 at *
  generalize w1.heap.size = b at *
  clear hU1
  go_loopg [7, 8, 9] n (fun gk v7 v8 v9 wr => ∃ (k : Nat) (A2 : Option Addr) (c2 : Nat) (A3 : Option Addr) (c3 : Nat) (L : List Int) (M : Nat), k + gk = n ∧ L.length ≤ k ∧ M ≤ k ∧ v9 = .int .i64 (k : Int) ∧ v8 = .int .i64 (M : Int) ∧ v7 = .slice A3 L.length c3 ∧ Two w wr b A2 c2 A3 c3 L L (M : Int))
  case atStart => exact ⟨0, _, _, _, _, [], 0, by omega, Nat.le_refl _, Nat.le_refl _, rfl, rfl, rfl, h2⟩
  case round =>
    obtain ⟨k, A2, c2, A3, c3, L, M, hkg, hLk, hMk, rfl, rfl, rfl, hT⟩ := hrel
    by_cases hlt : k < n
    · obtain ⟨ad, x, rfl, hxk, hcu⟩ := (hx.upd hT.upd (fun _ _ => not_nob)).int1 hlt
      have H1 := hide hx
      have H2 := hide hp
      clear hx hp h2
      go_wp2_with fail
      refine (push_int wr w.heap.size b 0 _ _ A2 L.length c2 (intv L) M x hT.blk rfl rfl hT.st (by decide) (by omega) hT.upd.size).mono ?_
      rintro e w3 ⟨rfl, hP⟩
      have hM' : (if (M : Int) < L.length + 1 then (L.length : Int) + 1 else M) = ((max M (L.length + 1) : Nat) : Int) := by
        split <;> omega
      rw [hM'] at hP
      obtain ⟨A4, c4, hT3⟩ := hT.stk (Ls' := L ++ [x]) hP (by simp) (by simp [intv])
      clear hP hM' hcu hT
      obtain ⟨ad', x', e1, e2, hcu⟩ := (H1.out.upd hT3.upd (fun _ _ => not_nob)).int1 hlt
      injection e1 with e1
      subst e1
      rw [hxk] at e2; injection e2 with e2
      subst e2
      clear hxk
      have hown := hT3.le
      have hb3 := hT3.upd.size
      go_wp2_with (at_builtin; refine wpList_append_own_at _ rfl _ _ 22 rfl w.heap.size 3 i0 (.int .i64 0) 1 8 Try.underlying22 hi0 hz0 hz1 hz2 rfl (by decide) _ _ _ rfl (hown.alloc _) ⟨w3.heap.size, 0, none⟩ 1 1 [.int .i64 x] rfl rfl ?c1 ?c2 ?c3 ?c4 ?c5 ?_)
      case c1 =>
        intro j u hj
        match j, hj with
        | 0, hj => simp at hj; subst hj; simp [Addr.add]
      case c2 => intro u hu; simp at hu; subst hu; rfl
      case c3 => unfold maxLen; omega
      case c4 => omega
      case c5 => simp; omega
      intro v' w5 hown' hg _ hat
      obtain ⟨A5, c5, rfl, hT5⟩ := hT3.app _ hown' hg hat
      clear hT3 hown hown' hg hat hcu hb3
      have hmx : (if (M : Int) < L.length + 1 then (L.length : Int) + 1 else M) = ((max M (L.length + 1) : Nat) : Int) := by
        split <;> omega
      go_upto_if 44 with fail
      have hmx' := hmx
      go_cut [10] (fun v10 wc => w5 = wc ∧ ∃ r : Nat, r ≤ 3 ∧ v10 = .int .i64 (r : Int))
      case first =>
        by_cases hkm : k < m
        · obtain ⟨bd, p, rfl, hpk, hcp⟩ := (H2.out.upd hT5.upd (fun _ _ => not_nob)).int1 hkm
          have h3 := i64_and3 p
          obtain ⟨r, hr⟩ := Int.eq_ofNat_of_zero_le (by omega : 0 ≤ p % 4)
          rw [hr] at h3
          go_wp2_with fail
          go_meet
          exact ⟨rfl, r, by omega, rfl⟩
        · go_wp2_with fail
          go_meet
          exact ⟨rfl, 0, by omega, rfl⟩
      case rest =>
        obtain ⟨rfl, r, hr, rfl⟩ := hcut
        have hM5 : (max M (L.length + 1) : Nat) ≤ k + 1 := by omega
        have hT6 : Two w w5 b A4 c4 A5 c5 (L ++ [x]) (L ++ [x]) ((max M (L.length + 1) : Nat) : Int) := hT5
        clear hT5
        generalize max M (L.length + 1) = M5 at *
        go_wp2_with fail
        have hl6 : (L ++ [x]).length = L.length + 1 := by simp
        go_loopg [7, 11] r (fun gj v7 v11 wi => ∃ (j : Nat) (A2 : Option Addr) (c2 : Nat) (A3 : Option Addr) (c3 : Nat) (L' : List Int), j + gj = r ∧ L'.length ≤ k + 1 ∧ v11 = .int .i64 (j : Int) ∧ v7 = .slice A3 L'.length c3 ∧ Two w wi b A2 c2 A3 c3 L' L' (M5 : Int))
        case atStart => exact ⟨0, _, _, _, _, L ++ [x], by omega, by omega, rfl, by rw [hl6], hT6⟩
        case round =>
          clear hT6 hl6 hmx' hmx
          obtain ⟨j, A2, c2, A3, c3, L', hjg, hL', rfl, rfl, hT⟩ := hrel
          by_cases hj : j < r
          · rcases snoc_or L' with rfl | ⟨Lp, y, rfl⟩
            · have e0 : wr.cell? ⟨b, 0, none⟩ = some (.slice A2 0 c2) := hT.blk.cellv rfl
              go_wp2_with (go_at_call 8; refine (pop_int_none wr b 0 A2 c2 e0).mono ?_; rintro e w' ⟨rfl, rfl⟩)
              go_roundg (r - (j + 1))
              case measure => omega
              case rel => exact ⟨j + 1, A2, c2, A3, c3, [], by omega, by simp, by go_num, rfl, hT⟩
            · have hl' : (Lp ++ [y]).length = Lp.length + 1 := by simp
              rw [hl'] at hL'
              have hst := hT.st
              have hblk := hT.blk
              rw [hl'] at hst hblk
              have hle := hT.le
              rw [hl'] at hle
              obtain ⟨q, rfl, hq1, hq2, hq3⟩ := own_last hle
              rw [hl']
              have hvl : intv (Lp ++ [y]) = intv Lp ++ [.int .i64 y] := by simp [intv]
              rw [hvl] at hst
              go_wp2_with fail
              refine (pop_int_some wr w.heap.size b 0 _ _ A2 Lp.length c2 (intv Lp) M5 y hblk (by simp [intv]) rfl rfl hst (by decide) (by omega)).mono ?_
              rintro e w7 ⟨rfl, hP⟩
              rw [← hl'] at hP
              obtain ⟨A4', c4', hT7⟩ := hT.stk (Ls' := Lp) hP rfl rfl
              have hcy : w7.cell? ⟨q, Lp.length, none⟩ = some (.int .i64 y) := by
                have h7 := hT7.le
                rw [hl', hvl] at h7
                rw [h7.cellAt Lp.length (by omega), List.getElem?_append_right (by simp [intv])]
                simp [intv]
              have hT8 := hT7.cut
              have hc0 : Lp.length < c3 := by omega
              clear hP hT hst hblk hle hl' hvl hT7
              go_wp2_with fail
              go_roundg (r - (j + 1))
              case measure => omega
              case rel => exact ⟨j + 1, A4', c4', some ⟨q, 0, none⟩, c3, Lp, by omega, by omega, by go_num, rfl, hT8⟩
          · have hjr : j = r := by omega
            have e0 : wr.cell? ⟨b, 0, none⟩ = some (.slice A2 L'.length c2) := hT.blk.cellv rfl
            have e1 : wr.cell? ⟨b, 0 + 1, none⟩ = some (.int .i64 (M5 : Int)) := hT.blk.cellv rfl
            go_wp2_with (first | (go_at_call 9; refine (len_int wr b 0 A2 L'.length c2 e0).mono ?_; rintro e w' ⟨rfl, rfl⟩) | (go_at_call 10; refine (most_int wr b 0 (M5 : Int) e1).mono ?_; rintro e w' ⟨rfl, rfl⟩))
            go_roundg (n - (k + 1))
            case measure => omega
            case rel => exact ⟨k + 1, A2, c2, A3, c3, L', M5, by omega, by omega, by omega, by go_num, rfl, rfl, hT⟩
    · have hkn : k = n := by omega
      have hLn : L.length ≤ n := by omega
      clear hx hp h2 hkg hLk
      subst hkn
      go_wp2_with fail
      go_loopg [7] L.length (fun gj v7 wi => ∃ (A2 : Option Addr) (c2 : Nat) (A3 : Option Addr) (c3 : Nat) (L' : List Int), L'.length = gj ∧ gj ≤ k ∧ v7 = .slice A3 L'.length c3 ∧ Two w wi b A2 c2 A3 c3 L' L' (M : Int))
      case atStart => exact ⟨_, _, _, _, L, rfl, hLn, rfl, hT⟩
      case round =>
        clear hT hLn
        obtain ⟨A2, c2, A3, c3, L', hg1, hg2, rfl, hT⟩ := hrel
        rcases snoc_or L' with rfl | ⟨Lp, y, rfl⟩
        · have e0 : wr.cell? ⟨b, 0, none⟩ = some (.slice A2 0 c2) := hT.blk.cellv rfl
          have e1 : wr.cell? ⟨b, 0 + 1, none⟩ = some (.int .i64 (M : Int)) := hT.blk.cellv rfl
          clear hg1
          go_wp2_with (first | (go_at_call 8; refine (pop_int_none wr b 0 A2 c2 e0).mono ?_; rintro e w' ⟨rfl, rfl⟩) | (go_at_call 10; refine (most_int wr b 0 (M : Int) e1).mono ?_; rintro e w' ⟨rfl, rfl⟩))
          go_ret
          exact ⟨rfl, hT.upd⟩
        · have hl' : (Lp ++ [y]).length = Lp.length + 1 := by simp
          rw [hl'] at hg1
          subst hg1
          have hst := hT.st
          have hblk := hT.blk
          rw [hl'] at hst hblk
          have hle := hT.le
          rw [hl'] at hle
          obtain ⟨q, rfl, hq1, hq2, hq3⟩ := own_last hle
          rw [hl']
          have hvl : intv (Lp ++ [y]) = intv Lp ++ [.int .i64 y] := by simp [intv]
          rw [hvl] at hst
          go_wp2_with fail
          refine (pop_int_some wr w.heap.size b 0 _ _ A2 Lp.length c2 (intv Lp) M y hblk (by simp [intv]) rfl rfl hst (by decide) (by omega)).mono ?_
          rintro e w7 ⟨rfl, hP⟩
          rw [← hl'] at hP
          obtain ⟨A4', c4', hT7⟩ := hT.stk (Ls' := Lp) hP rfl rfl
          have hcy : w7.cell? ⟨q, Lp.length, none⟩ = some (.int .i64 y) := by
            have h7 := hT7.le
            rw [hl', hvl] at h7
            rw [h7.cellAt Lp.length (by omega), List.getElem?_append_right (by simp [intv])]
            simp [intv]
          have hT8 := hT7.cut
          have hc0 : Lp.length < c3 := by omega
          clear hP hT hst hblk hle hl' hvl hT7
          go_wp2_with fail
          go_roundg Lp.length
          case measure => omega
          case rel => exact ⟨A4', c4', some ⟨q, 0, none⟩, c3, Lp, rfl, by omega, rfl, hT8⟩
end Go.Proofs.Ytpfhljcihfabbaa
