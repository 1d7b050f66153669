/-
  The walks of code.number and heronref10.put: a number as bytes.
-/
import Derived.Test.YtdbdokjlcdogiaaDoorRight
import Derived.Test.YtdbdokjlcdogiaaDoorOwnT
import Derived.Laws.BitsLemmas
import Derived.Maps.AppendAt
namespace Go.Proofs.YtdbdokjlcdogiaaDoor
open Go.RowKit
set_option linter.unusedVariables false

/-- a number's bytes -/
def putN (n : Nat) : List Int := if h : n < 128 then [(n : Int)] else ((128 + n % 128 : Nat) : Int) :: putN (n / 128)
termination_by n
theorem putN_small {n : Nat} (h : n < 128) : putN n = [(n : Int)] := by rw [putN, dif_pos h]
theorem putN_big {n : Nat} (h : ¬ n < 128) : putN n = ((128 + n % 128 : Nat) : Int) :: putN (n / 128) := by rw [putN, dif_neg h]
theorem putN_len {n : Nat} (h : n < 268435456) : (putN n).length ≤ 4 := by
  by_cases h1 : n < 128
  · rw [putN_small h1]; simp
  rw [putN_big h1]
  by_cases h2 : n / 128 < 128
  · rw [putN_small h2]; simp
  rw [putN_big h2]
  by_cases h3 : n / 128 / 128 < 128
  · rw [putN_small h3]; simp
  rw [putN_big h3, putN_small (by omega)]; simp
def bytv (xs : List Int) : List Value := xs.map (Value.int .u8)
theorem bytv_append (xs ys : List Int) : bytv (xs ++ ys) = bytv xs ++ bytv ys := by simp [bytv]
theorem cinfo_u8 : (Tryd.prog.info? 5).map (fun i => (i.zero, i.size, i.bytes)) = some (some (.int .u8 0), 1, 1) := by kernel_rfl
/-- what number and put answer -/
def PutAns (w : World) (base : Nat) (A : Option Addr) (m c : Nat) (xs : List Value) (n : Nat) (e : Ending) (w' : World) : Prop :=
  ∃ A' c', e = .returned (.slice A' (m + (putN n).length) c') ∧ OwnT w' base 5 (.slice A' (m + (putN n).length) c') (m + (putN n).length) (xs ++ bytv (putN n)) ∧ Upd (fun b => (Value.slice A m c).ownBlock = some b) w w'

theorem or_fin : ∀ k : Fin 256, bits .or .u8 (k.val : Int) 128 = ((128 + k.val % 128 : Nat) : Int) := by decide +kernel
theorem or_byte (k : Nat) : bits .or .u8 ((k : Int) % 256) 128 = ((128 + k % 128 : Nat) : Int) := by
  have h := or_fin ⟨k % 256, Nat.mod_lt _ (by decide)⟩
  simp only at h
  rw [show ((k % 256 : Nat) : Int) = (k : Int) % 256 by omega] at h
  rw [h]
  congr 1
  omega

set_option maxRecDepth 100000 in
set_option maxHeartbeats 2000000 in
theorem number_any (w : World) (base : Nat) (A : Option Addr) (m c : Nat) (xs : List Value) (n : Nat) (ho : OwnT w base 5 (.slice A m c) m xs) (hb : base ≤ w.heap.size) (hn : n < 268435456) (hm : m ≤ 100000000) :
    Calls Tryd.prog 38 #[.slice A m c, .int .i64 (n : Int)] w (PutAns w base A m c xs n) := by
  obtain ⟨i0, hi0, hz0, hz1, hz2⟩ := info_parts cinfo_u8
  have HO := hideP ho
  clear ho
  go_enter Tryd.func38, Tryd.ntmps38
  go_wp2_with fail
  go_loopg [0, 1] n (fun gk v0 v1 wr => ∃ (k : Nat) (pre : List Int) (A' : Option Addr) (c' : Nat), k = gk ∧ pre ++ putN k = putN n ∧ v1 = .int .i64 (k : Int) ∧ v0 = .slice A' (m + pre.length) c' ∧ OwnT wr base 5 (.slice A' (m + pre.length) c') (m + pre.length) (xs ++ bytv pre) ∧ k < 268435456 ∧ pre.length ≤ 4 ∧ (∀ b, (Value.slice A' (m + pre.length) c').ownBlock = some b → (Value.slice A m c).ownBlock = some b ∨ w.heap.size ≤ b) ∧ Upd (fun b => (Value.slice A m c).ownBlock = some b) w wr)
  case atStart => exact ⟨n, [], A, c, rfl, rfl, rfl, rfl, by simpa [bytv] using HO.out, hn, by simp, fun b hb => .inl hb, Upd.refl _ _⟩
  case round =>
    obtain ⟨k, pre, A', c', rfl, hp, rfl, rfl, ho, hk, hpl, hB, hU⟩ := hrel
    have HPp := hideP hp
    have HOo := hideP ho
    have HBb := hideP hB
    have HUu := hideP hU
    have hsz := hU.size
    clear hp ho hB hU
    by_cases hlt : k < 128
    · have g1 : ¬ (128 : Int) ≤ (k : Int) := by omega
      have hmod : (k : Int) % 256 = (k : Int) := by omega
      go_wp2_with (at_builtin; refine wpList_append_T rfl _ _ 30 rfl base 5 i0 (.int .u8 0) Tryd.underlying30 hi0 hz0 hz1 hz2 rfl _ _ _ rfl (HOo.out.alloc _) ⟨wr.heap.size, 0, none⟩ 1 1 [(.int .u8 (k : Int))] rfl rfl ?d1 ?d2 ?d3 ?d4 ?d5 ?_)
      try case d1 => exact World.news_of_block (cs := #[(.int .u8 (k : Int))]) (t := 5) (fr := (0, 0)) (heap_alloc_new _ _)
      case d2 => first | rfl | exact ⟨rfl⟩ | trivial | (intro u hu; simp at hu; subst hu; rfl) | simp
      case d3 => unfold maxLen; omega
      case d4 => omega
      case d5 => first | (simp; done) | (simp; omega) | omega
      intro A8 c8 w8 o8 g8 hat
      have hU8 := HUu.out.trans (((Upd.refl (fun b => (Value.slice A' (m + pre.length) c').ownBlock = some b) wr).alloc (.cells #[(.int .u8 (k : Int))] 5)).grown g8 (fun b hb _ => hb)) (fun b hb h => by rcases HBb.out b h with h | h; exact h; omega)
      have HO8 := hideP o8
      have HU8 := hideP hU8
      clear o8 g8 hat hU8
      go_wp2_with fail
      try go_ret
      have he : putN n = pre ++ [(k : Int)] := by rw [← HPp.out, putN_small hlt]
      refine ⟨A8, c8, ?_, ?_, HU8.out⟩
      · rw [he]; simp [Nat.add_assoc]
      · rw [he]
        have h9 := HO8.out
        simpa [bytv, Nat.add_assoc] using h9
    · have g1 : (128 : Int) ≤ (k : Int) := by omega
      go_wp2_with (at_builtin; refine wpList_append_T rfl _ _ 30 rfl base 5 i0 (.int .u8 0) Tryd.underlying30 hi0 hz0 hz1 hz2 rfl _ _ _ rfl (HOo.out.alloc _) ⟨wr.heap.size, 0, none⟩ 1 1 [(.int .u8 (bits .or .u8 ((k : Int) % 256) 128))] rfl rfl ?e1 ?e2 ?e3 ?e4 ?e5 ?_)
      try case e1 => exact World.news_of_block (cs := #[(.int .u8 (bits .or .u8 ((k : Int) % 256) 128))]) (t := 5) (fr := (0, 0)) (heap_alloc_new _ _)
      case e2 => first | rfl | exact ⟨rfl⟩ | trivial | (intro u hu; simp at hu; subst hu; rfl) | simp
      case e3 => unfold maxLen; omega
      case e4 => omega
      case e5 => first | (simp; done) | (simp; omega) | omega
      intro A8 c8 w8 o8 g8 hat
      have hU8 := HUu.out.trans (((Upd.refl (fun b => (Value.slice A' (m + pre.length) c').ownBlock = some b) wr).alloc (.cells #[(.int .u8 (bits .or .u8 ((k : Int) % 256) 128))] 5)).grown g8 (fun b hb _ => hb)) (fun b hb h => by rcases HBb.out b h with h | h; exact h; omega)
      have hB8 : ∀ b, (Value.slice A8 (m + pre.length + 1) c8).ownBlock = some b → (Value.slice A m c).ownBlock = some b ∨ w.heap.size ≤ b := fun b hb => by
        rcases hat with h | h
        · rw [h] at hb
          exact HBb.out b hb
        · rw [h] at hb
          injection hb with hb
          (try simp at hb)
          right
          omega
      have HO8 := hideP o8
      have HU8 := hideP hU8
      have HB8 := hideP hB8
      clear o8 g8 hat hU8 hB8
      go_wp2_with fail
      have hl : pre.length + 1 + (putN (k / 128)).length ≤ 4 := by
        have h1 := putN_len hn
        have h2 := congrArg List.length HPp.out
        rw [putN_big hlt] at h2
        simp at h2
        omega
      go_roundg (k / 128)
      case measure => omega
      case rel => exact ⟨k / 128, pre ++ [((128 + k % 128 : Nat) : Int)], A8, c8, rfl, by rw [List.append_assoc, List.singleton_append, ← putN_big hlt]; exact HPp.out, by go_num, by simp [Nat.add_assoc], by
        have h9 := HO8.out
        rw [or_byte] at h9
        simpa [bytv, Nat.add_assoc] using h9, by omega, by simp; omega, by simpa [Nat.add_assoc] using HB8.out, HU8.out⟩
set_option maxRecDepth 100000 in
set_option maxHeartbeats 2000000 in
theorem put_any (w : World) (base : Nat) (A : Option Addr) (m c : Nat) (xs : List Value) (n : Nat) (ho : OwnT w base 5 (.slice A m c) m xs) (hb : base ≤ w.heap.size) (hn : n < 268435456) (hm : m ≤ 100000000) :
    Calls Tryd.prog 51 #[.slice A m c, .int .i64 (n : Int)] w (PutAns w base A m c xs n) := by
  obtain ⟨i0, hi0, hz0, hz1, hz2⟩ := info_parts cinfo_u8
  have HO := hideP ho
  clear ho
  go_enter Tryd.func51, Tryd.ntmps51
  go_wp2_with fail
  go_loopg [0, 1] n (fun gk v0 v1 wr => ∃ (k : Nat) (pre : List Int) (A' : Option Addr) (c' : Nat), k = gk ∧ pre ++ putN k = putN n ∧ v1 = .int .i64 (k : Int) ∧ v0 = .slice A' (m + pre.length) c' ∧ OwnT wr base 5 (.slice A' (m + pre.length) c') (m + pre.length) (xs ++ bytv pre) ∧ k < 268435456 ∧ pre.length ≤ 4 ∧ (∀ b, (Value.slice A' (m + pre.length) c').ownBlock = some b → (Value.slice A m c).ownBlock = some b ∨ w.heap.size ≤ b) ∧ Upd (fun b => (Value.slice A m c).ownBlock = some b) w wr)
  case atStart => exact ⟨n, [], A, c, rfl, rfl, rfl, rfl, by simpa [bytv] using HO.out, hn, by simp, fun b hb => .inl hb, Upd.refl _ _⟩
  case round =>
    obtain ⟨k, pre, A', c', rfl, hp, rfl, rfl, ho, hk, hpl, hB, hU⟩ := hrel
    have HPp := hideP hp
    have HOo := hideP ho
    have HBb := hideP hB
    have HUu := hideP hU
    have hsz := hU.size
    clear hp ho hB hU
    by_cases hlt : k < 128
    · have g1 : ¬ (128 : Int) ≤ (k : Int) := by omega
      have hmod : (k : Int) % 256 = (k : Int) := by omega
      go_wp2_with (at_builtin; refine wpList_append_T rfl _ _ 30 rfl base 5 i0 (.int .u8 0) Tryd.underlying30 hi0 hz0 hz1 hz2 rfl _ _ _ rfl (HOo.out.alloc _) ⟨wr.heap.size, 0, none⟩ 1 1 [(.int .u8 (k : Int))] rfl rfl ?p1 ?p2 ?p3 ?p4 ?p5 ?_)
      try case p1 => exact World.news_of_block (cs := #[(.int .u8 (k : Int))]) (t := 5) (fr := (0, 0)) (heap_alloc_new _ _)
      case p2 => first | rfl | exact ⟨rfl⟩ | trivial | (intro u hu; simp at hu; subst hu; rfl) | simp
      case p3 => unfold maxLen; omega
      case p4 => omega
      case p5 => first | (simp; done) | (simp; omega) | omega
      intro A8 c8 w8 o8 g8 hat
      have hU8 := HUu.out.trans (((Upd.refl (fun b => (Value.slice A' (m + pre.length) c').ownBlock = some b) wr).alloc (.cells #[(.int .u8 (k : Int))] 5)).grown g8 (fun b hb _ => hb)) (fun b hb h => by rcases HBb.out b h with h | h; exact h; omega)
      have HO8 := hideP o8
      have HU8 := hideP hU8
      clear o8 g8 hat hU8
      go_wp2_with fail
      try go_ret
      have he : putN n = pre ++ [(k : Int)] := by rw [← HPp.out, putN_small hlt]
      refine ⟨A8, c8, ?_, ?_, HU8.out⟩
      · rw [he]; simp [Nat.add_assoc]
      · rw [he]
        have h9 := HO8.out
        simpa [bytv, Nat.add_assoc] using h9
    · have g1 : (128 : Int) ≤ (k : Int) := by omega
      go_wp2_with (at_builtin; refine wpList_append_T rfl _ _ 30 rfl base 5 i0 (.int .u8 0) Tryd.underlying30 hi0 hz0 hz1 hz2 rfl _ _ _ rfl (HOo.out.alloc _) ⟨wr.heap.size, 0, none⟩ 1 1 [(.int .u8 (128 + (k : Int) % 128))] rfl rfl ?q1 ?q2 ?q3 ?q4 ?q5 ?_)
      try case q1 => exact World.news_of_block (cs := #[(.int .u8 (128 + (k : Int) % 128))]) (t := 5) (fr := (0, 0)) (heap_alloc_new _ _)
      case q2 => first | rfl | exact ⟨rfl⟩ | trivial | (intro u hu; simp at hu; subst hu; rfl) | simp
      case q3 => unfold maxLen; omega
      case q4 => omega
      case q5 => first | (simp; done) | (simp; omega) | omega
      intro A8 c8 w8 o8 g8 hat
      have hU8 := HUu.out.trans (((Upd.refl (fun b => (Value.slice A' (m + pre.length) c').ownBlock = some b) wr).alloc (.cells #[(.int .u8 (128 + (k : Int) % 128))] 5)).grown g8 (fun b hb _ => hb)) (fun b hb h => by rcases HBb.out b h with h | h; exact h; omega)
      have hB8 : ∀ b, (Value.slice A8 (m + pre.length + 1) c8).ownBlock = some b → (Value.slice A m c).ownBlock = some b ∨ w.heap.size ≤ b := fun b hb => by
        rcases hat with h | h
        · rw [h] at hb
          exact HBb.out b hb
        · rw [h] at hb
          injection hb with hb
          (try simp at hb)
          right
          omega
      have HO8 := hideP o8
      have HU8 := hideP hU8
      have HB8 := hideP hB8
      clear o8 g8 hat hU8 hB8
      go_wp2_with fail
      have hl : pre.length + 1 + (putN (k / 128)).length ≤ 4 := by
        have h1 := putN_len hn
        have h2 := congrArg List.length HPp.out
        rw [putN_big hlt] at h2
        simp at h2
        omega
      go_roundg (k / 128)
      case measure => omega
      case rel => exact ⟨k / 128, pre ++ [((128 + k % 128 : Nat) : Int)], A8, c8, rfl, by rw [List.append_assoc, List.singleton_append, ← putN_big hlt]; exact HPp.out, by go_num, by simp [Nat.add_assoc], by
        have h9 := HO8.out
        rw [show (128 : Int) + (k : Int) % 128 = ((128 + k % 128 : Nat) : Int) by omega] at h9
        simpa [bytv, Nat.add_assoc] using h9, by omega, by simp; omega, by simpa [Nat.add_assoc] using HB8.out, HU8.out⟩
end Go.Proofs.YtdbdokjlcdogiaaDoor
