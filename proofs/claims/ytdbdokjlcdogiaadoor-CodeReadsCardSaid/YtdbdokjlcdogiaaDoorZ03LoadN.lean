/-
  Num, Loader, LoadN, put together.
-/
import Derived.Test.YtdbdokjlcdogiaaDoorZ02OwnT
import Derived.Laws.BitsLemmas
import Derived.Maps.AppendAt
import Derived.Test.YtdbdokjlcdogiaaDoorZ00Need

/-
  The walks of code.number and heronref10.put: a number as bytes.
-/
namespace Go.Proofs.YtdbdokjlcdogiaaDoor
open Go.RowKit
set_option linter.unusedVariables false

/-- a number's bytes -/
def putN (n : Nat) : List Int := if h : n < 128 then [(n : Int)] else ((128 + n % 128 : Nat) : Int) :: putN (n / 128)
termination_by n
theorem putN_small {n : Nat} (h : n < 128) : putN n = [(n : Int)] := by rw [putN, dif_pos h]
theorem putN_big {n : Nat} (h : ¬ n < 128) : putN n = ((128 + n % 128 : Nat) : Int) :: putN (n / 128) := by rw [putN, dif_neg h]
theorem putN_len {n : Nat} (h : n < 268435456) : (putN n).length ≤ 4 := by
  by_cases h1 : n < 128
  · rw [putN_small h1]; simp
  rw [putN_big h1]
  by_cases h2 : n / 128 < 128
  · rw [putN_small h2]; simp
  rw [putN_big h2]
  by_cases h3 : n / 128 / 128 < 128
  · rw [putN_small h3]; simp
  rw [putN_big h3, putN_small (by omega)]; simp
def bytv (xs : List Int) : List Value := xs.map (Value.int .u8)
theorem bytv_append (xs ys : List Int) : bytv (xs ++ ys) = bytv xs ++ bytv ys := by simp [bytv]
theorem cinfo_u8 : (Tryd.prog.info? 5).map (fun i => (i.zero, i.size, i.bytes)) = some (some (.int .u8 0), 1, 1) := by kernel_rfl
/-- what number and put answer -/
def PutAns (w : World) (base : Nat) (A : Option Addr) (m c : Nat) (xs : List Value) (n : Nat) (e : Ending) (w' : World) : Prop :=
  ∃ A' c', e = .returned (.slice A' (m + (putN n).length) c') ∧ OwnT w' base 5 (.slice A' (m + (putN n).length) c') (m + (putN n).length) (xs ++ bytv (putN n)) ∧ Upd (fun b => (Value.slice A m c).ownBlock = some b) w w'

theorem or_fin : ∀ k : Fin 256, bits .or .u8 (k.val : Int) 128 = ((128 + k.val % 128 : Nat) : Int) := by decide +kernel
theorem or_byte (k : Nat) : bits .or .u8 ((k : Int) % 256) 128 = ((128 + k % 128 : Nat) : Int) := by
  have h := or_fin ⟨k % 256, Nat.mod_lt _ (by decide)⟩
  simp only at h
  rw [show ((k % 256 : Nat) : Int) = (k : Int) % 256 by omega] at h
  rw [h]
  congr 1
  omega

set_option maxRecDepth 100000 in
set_option maxHeartbeats 2000000 in
theorem number_any (w : World) (base : Nat) (A : Option Addr) (m c : Nat) (xs : List Value) (n : Nat) (ho : OwnT w base 5 (.slice A m c) m xs) (hb : base ≤ w.heap.size) (hn : n < 268435456) (hm : m ≤ 100000000) :
    Calls Tryd.prog 38 #[.slice A m c, .int .i64 (n : Int)] w (PutAns w base A m c xs n) := by
  obtain ⟨i0, hi0, hz0, hz1, hz2⟩ := info_parts cinfo_u8
  have HO := hideP ho
  clear ho
  go_enter Tryd.func38, Tryd.ntmps38
  go_wp2_with fail
  go_loopg [0, 1] n (fun gk v0 v1 wr => ∃ (k : Nat) (pre : List Int) (A' : Option Addr) (c' : Nat), k = gk ∧ pre ++ putN k = putN n ∧ v1 = .int .i64 (k : Int) ∧ v0 = .slice A' (m + pre.length) c' ∧ OwnT wr base 5 (.slice A' (m + pre.length) c') (m + pre.length) (xs ++ bytv pre) ∧ k < 268435456 ∧ pre.length ≤ 4 ∧ (∀ b, (Value.slice A' (m + pre.length) c').ownBlock = some b → (Value.slice A m c).ownBlock = some b ∨ w.heap.size ≤ b) ∧ Upd (fun b => (Value.slice A m c).ownBlock = some b) w wr)
  case atStart => exact ⟨n, [], A, c, rfl, rfl, rfl, rfl, by simpa [bytv] using HO.out, hn, by simp, fun b hb => .inl hb, Upd.refl _ _⟩
  case round =>
    obtain ⟨k, pre, A', c', rfl, hp, rfl, rfl, ho, hk, hpl, hB, hU⟩ := hrel
    have HPp := hideP hp
    have HOo := hideP ho
    have HBb := hideP hB
    have HUu := hideP hU
    have hsz := hU.size
    clear hp ho hB hU
    by_cases hlt : k < 128
    · have g1 : ¬ (128 : Int) ≤ (k : Int) := by omega
      have hmod : (k : Int) % 256 = (k : Int) := by omega
      go_wp2_with (at_builtin; refine wpList_append_T rfl _ _ 30 rfl base 5 i0 (.int .u8 0) Tryd.underlying30 hi0 hz0 hz1 hz2 rfl _ _ _ rfl (HOo.out.alloc _) ⟨wr.heap.size, 0, none⟩ 1 1 [(.int .u8 (k : Int))] rfl rfl ?d1 ?d2 ?d3 ?d4 ?d5 ?_)
      try case d1 => exact World.news_of_block (cs := #[(.int .u8 (k : Int))]) (t := 5) (fr := (0, 0)) (heap_alloc_new _ _)
      case d2 => first | rfl | exact ⟨rfl⟩ | trivial | (intro u hu; simp at hu; subst hu; rfl) | simp
      case d3 => unfold maxLen; omega
      case d4 => omega
      case d5 => first | (simp; done) | (simp; omega) | omega
      intro A8 c8 w8 o8 g8 hat
      have hU8 := HUu.out.trans (((Upd.refl (fun b => (Value.slice A' (m + pre.length) c').ownBlock = some b) wr).alloc (.cells #[(.int .u8 (k : Int))] 5)).grown g8 (fun b hb _ => hb)) (fun b hb h => by rcases HBb.out b h with h | h; exact h; omega)
      have HO8 := hideP o8
      have HU8 := hideP hU8
      clear o8 g8 hat hU8
      go_wp2_with fail
      try go_ret
      have he : putN n = pre ++ [(k : Int)] := by rw [← HPp.out, putN_small hlt]
      refine ⟨A8, c8, ?_, ?_, HU8.out⟩
      · rw [he]; simp [Nat.add_assoc]
      · rw [he]
        have h9 := HO8.out
        simpa [bytv, Nat.add_assoc] using h9
    · have g1 : (128 : Int) ≤ (k : Int) := by omega
      go_wp2_with (at_builtin; refine wpList_append_T rfl _ _ 30 rfl base 5 i0 (.int .u8 0) Tryd.underlying30 hi0 hz0 hz1 hz2 rfl _ _ _ rfl (HOo.out.alloc _) ⟨wr.heap.size, 0, none⟩ 1 1 [(.int .u8 (bits .or .u8 ((k : Int) % 256) 128))] rfl rfl ?e1 ?e2 ?e3 ?e4 ?e5 ?_)
      try case e1 => exact World.news_of_block (cs := #[(.int .u8 (bits .or .u8 ((k : Int) % 256) 128))]) (t := 5) (fr := (0, 0)) (heap_alloc_new _ _)
      case e2 => first | rfl | exact ⟨rfl⟩ | trivial | (intro u hu; simp at hu; subst hu; rfl) | simp
      case e3 => unfold maxLen; omega
      case e4 => omega
      case e5 => first | (simp; done) | (simp; omega) | omega
      intro A8 c8 w8 o8 g8 hat
      have hU8 := HUu.out.trans (((Upd.refl (fun b => (Value.slice A' (m + pre.length) c').ownBlock = some b) wr).alloc (.cells #[(.int .u8 (bits .or .u8 ((k : Int) % 256) 128))] 5)).grown g8 (fun b hb _ => hb)) (fun b hb h => by rcases HBb.out b h with h | h; exact h; omega)
      have hB8 : ∀ b, (Value.slice A8 (m + pre.length + 1) c8).ownBlock = some b → (Value.slice A m c).ownBlock = some b ∨ w.heap.size ≤ b := fun b hb => by
        rcases hat with h | h
        · rw [h] at hb
          exact HBb.out b hb
        · rw [h] at hb
          injection hb with hb
          (try simp at hb)
          right
          omega
      have HO8 := hideP o8
      have HU8 := hideP hU8
      have HB8 := hideP hB8
      clear o8 g8 hat hU8 hB8
      go_wp2_with fail
      have hl : pre.length + 1 + (putN (k / 128)).length ≤ 4 := by
        have h1 := putN_len hn
        have h2 := congrArg List.length HPp.out
        rw [putN_big hlt] at h2
        simp at h2
        omega
      go_roundg (k / 128)
      case measure => omega
      case rel => exact ⟨k / 128, pre ++ [((128 + k % 128 : Nat) : Int)], A8, c8, rfl, by rw [List.append_assoc, List.singleton_append, ← putN_big hlt]; exact HPp.out, by go_num, by simp [Nat.add_assoc], by
        have h9 := HO8.out
        rw [or_byte] at h9
        simpa [bytv, Nat.add_assoc] using h9, by omega, by simp; omega, by simpa [Nat.add_assoc] using HB8.out, HU8.out⟩
set_option maxRecDepth 100000 in
set_option maxHeartbeats 2000000 in
theorem put_any (w : World) (base : Nat) (A : Option Addr) (m c : Nat) (xs : List Value) (n : Nat) (ho : OwnT w base 5 (.slice A m c) m xs) (hb : base ≤ w.heap.size) (hn : n < 268435456) (hm : m ≤ 100000000) :
    Calls Tryd.prog 51 #[.slice A m c, .int .i64 (n : Int)] w (PutAns w base A m c xs n) := by
  obtain ⟨i0, hi0, hz0, hz1, hz2⟩ := info_parts cinfo_u8
  have HO := hideP ho
  clear ho
  go_enter Tryd.func51, Tryd.ntmps51
  go_wp2_with fail
  go_loopg [0, 1] n (fun gk v0 v1 wr => ∃ (k : Nat) (pre : List Int) (A' : Option Addr) (c' : Nat), k = gk ∧ pre ++ putN k = putN n ∧ v1 = .int .i64 (k : Int) ∧ v0 = .slice A' (m + pre.length) c' ∧ OwnT wr base 5 (.slice A' (m + pre.length) c') (m + pre.length) (xs ++ bytv pre) ∧ k < 268435456 ∧ pre.length ≤ 4 ∧ (∀ b, (Value.slice A' (m + pre.length) c').ownBlock = some b → (Value.slice A m c).ownBlock = some b ∨ w.heap.size ≤ b) ∧ Upd (fun b => (Value.slice A m c).ownBlock = some b) w wr)
  case atStart => exact ⟨n, [], A, c, rfl, rfl, rfl, rfl, by simpa [bytv] using HO.out, hn, by simp, fun b hb => .inl hb, Upd.refl _ _⟩
  case round =>
    obtain ⟨k, pre, A', c', rfl, hp, rfl, rfl, ho, hk, hpl, hB, hU⟩ := hrel
    have HPp := hideP hp
    have HOo := hideP ho
    have HBb := hideP hB
    have HUu := hideP hU
    have hsz := hU.size
    clear hp ho hB hU
    by_cases hlt : k < 128
    · have g1 : ¬ (128 : Int) ≤ (k : Int) := by omega
      have hmod : (k : Int) % 256 = (k : Int) := by omega
      go_wp2_with (at_builtin; refine wpList_append_T rfl _ _ 30 rfl base 5 i0 (.int .u8 0) Tryd.underlying30 hi0 hz0 hz1 hz2 rfl _ _ _ rfl (HOo.out.alloc _) ⟨wr.heap.size, 0, none⟩ 1 1 [(.int .u8 (k : Int))] rfl rfl ?p1 ?p2 ?p3 ?p4 ?p5 ?_)
      try case p1 => exact World.news_of_block (cs := #[(.int .u8 (k : Int))]) (t := 5) (fr := (0, 0)) (heap_alloc_new _ _)
      case p2 => first | rfl | exact ⟨rfl⟩ | trivial | (intro u hu; simp at hu; subst hu; rfl) | simp
      case p3 => unfold maxLen; omega
      case p4 => omega
      case p5 => first | (simp; done) | (simp; omega) | omega
      intro A8 c8 w8 o8 g8 hat
      have hU8 := HUu.out.trans (((Upd.refl (fun b => (Value.slice A' (m + pre.length) c').ownBlock = some b) wr).alloc (.cells #[(.int .u8 (k : Int))] 5)).grown g8 (fun b hb _ => hb)) (fun b hb h => by rcases HBb.out b h with h | h; exact h; omega)
      have HO8 := hideP o8
      have HU8 := hideP hU8
      clear o8 g8 hat hU8
      go_wp2_with fail
      try go_ret
      have he : putN n = pre ++ [(k : Int)] := by rw [← HPp.out, putN_small hlt]
      refine ⟨A8, c8, ?_, ?_, HU8.out⟩
      · rw [he]; simp [Nat.add_assoc]
      · rw [he]
        have h9 := HO8.out
        simpa [bytv, Nat.add_assoc] using h9
    · have g1 : (128 : Int) ≤ (k : Int) := by omega
      go_wp2_with (at_builtin; refine wpList_append_T rfl _ _ 30 rfl base 5 i0 (.int .u8 0) Tryd.underlying30 hi0 hz0 hz1 hz2 rfl _ _ _ rfl (HOo.out.alloc _) ⟨wr.heap.size, 0, none⟩ 1 1 [(.int .u8 (128 + (k : Int) % 128))] rfl rfl ?q1 ?q2 ?q3 ?q4 ?q5 ?_)
      try case q1 => exact World.news_of_block (cs := #[(.int .u8 (128 + (k : Int) % 128))]) (t := 5) (fr := (0, 0)) (heap_alloc_new _ _)
      case q2 => first | rfl | exact ⟨rfl⟩ | trivial | (intro u hu; simp at hu; subst hu; rfl) | simp
      case q3 => unfold maxLen; omega
      case q4 => omega
      case q5 => first | (simp; done) | (simp; omega) | omega
      intro A8 c8 w8 o8 g8 hat
      have hU8 := HUu.out.trans (((Upd.refl (fun b => (Value.slice A' (m + pre.length) c').ownBlock = some b) wr).alloc (.cells #[(.int .u8 (128 + (k : Int) % 128))] 5)).grown g8 (fun b hb _ => hb)) (fun b hb h => by rcases HBb.out b h with h | h; exact h; omega)
      have hB8 : ∀ b, (Value.slice A8 (m + pre.length + 1) c8).ownBlock = some b → (Value.slice A m c).ownBlock = some b ∨ w.heap.size ≤ b := fun b hb => by
        rcases hat with h | h
        · rw [h] at hb
          exact HBb.out b hb
        · rw [h] at hb
          injection hb with hb
          (try simp at hb)
          right
          omega
      have HO8 := hideP o8
      have HU8 := hideP hU8
      have HB8 := hideP hB8
      clear o8 g8 hat hU8 hB8
      go_wp2_with fail
      have hl : pre.length + 1 + (putN (k / 128)).length ≤ 4 := by
        have h1 := putN_len hn
        have h2 := congrArg List.length HPp.out
        rw [putN_big hlt] at h2
        simp at h2
        omega
      go_roundg (k / 128)
      case measure => omega
      case rel => exact ⟨k / 128, pre ++ [((128 + k % 128 : Nat) : Int)], A8, c8, rfl, by rw [List.append_assoc, List.singleton_append, ← putN_big hlt]; exact HPp.out, by go_num, by simp [Nat.add_assoc], by
        have h9 := HO8.out
        rw [show (128 : Int) + (k : Int) % 128 = ((128 + k % 128 : Nat) : Int) by omega] at h9
        simpa [bytv, Nat.add_assoc] using h9, by omega, by simp; omega, by simpa [Nat.add_assoc] using HB8.out, HU8.out⟩
end Go.Proofs.YtdbdokjlcdogiaaDoor

/-
  The walks of (*loader).byte, left, num.
-/
namespace Go.Proofs.YtdbdokjlcdogiaaDoor
open Go.RowKit
set_option linter.unusedVariables false

/-- the loader at lb has the bytes bs left -/
structure LoadR (w : World) (S : Nat → Prop) (lb : Nat) (bs : List Int) : Prop where
  at_ : ∃ A c, Cells w lb 65 #[.slice A bs.length c] ∧ Reads w S 1 A bs.length (bytv bs) ∧ bs.length ≤ c
  bytes : ∀ x ∈ bs, 0 ≤ x ∧ x ≤ 255
  few : bs.length ≤ 8388608
  ne : ∀ b, S b → b ≠ lb

theorem LoadR.upd {F : Nat → Prop} {w w' : World} {S : Nat → Prop} {lb : Nat} {bs : List Int} (h : LoadR w S lb bs) (hU : Upd F w w') (h1 : ¬ F lb) (h2 : ∀ b, S b → ¬ F b) : LoadR w' S lb bs := by
  obtain ⟨A, c, hc, hr, hl⟩ := h.at_
  exact ⟨⟨A, c, hc.upd hU h1, hr.upd hU h2, hl⟩, h.bytes, h.few, h.ne⟩
theorem reads_tail {w : World} {S : Nat → Prop} {ad : Addr} {x : Int} {r : List Int} (h : Reads w S 1 (some ad) (x :: r).length (bytv (x :: r))) : Reads w S 1 (some (ad.add 1)) r.length (bytv r) := by
  refine ⟨by simp [bytv], fun hn => ?_⟩
  obtain ⟨ad', e, hb, hs, hc⟩ := h.2 (by simp)
  injection e with e
  subst e
  refine ⟨_, rfl, by rw [add_block]; exact hb, by rw [add_block]; exact hs, fun j u hu => ?_⟩
  rw [add_add_]
  rw [Nat.add_comm]
  exact hc (j + 1) u (by simpa [bytv] using hu)

def ByteAns (w : World) (S : Nat → Prop) (lb : Nat) : List Int → Ending → World → Prop
  | [], e, w' => e = .panicked brokenP ∧ Upd (fun b => b = lb) w w'
  | x :: r, e, w' => e = .returned (.int .i64 x) ∧ LoadR w' S lb r ∧ Upd (fun b => b = lb) w w'

set_option maxRecDepth 100000 in
set_option maxHeartbeats 1000000 in
theorem byte_any (w : World) (S : Nat → Prop) (lb : Nat) (bs : List Int) (h : LoadR w S lb bs) :
    Calls Tryd.prog 35 #[.pointer (some ⟨lb, 0, none⟩)] w (ByteAns w S lb bs) := by
  obtain ⟨A, c, hc, hr, hl⟩ := h.at_
  have HH := hideP h
  have HC := hideP hc
  have c0 : w.cell? ⟨lb, 0, none⟩ = some (.slice A bs.length c) := hc.cellv rfl
  have f0 : w.frozen? ⟨lb, 0, none⟩ = false := hc.frozen _
  cases bs with
  | nil =>
    simp only [List.length_nil] at c0
    clear h hc hr hl
    go_enter Tryd.func35, Tryd.ntmps35
    go_wp2_with (go_at_call 31; refine (need_no _).mono ?_; rintro e w2 ⟨rfl, rfl⟩)
    exact ⟨rfl, rfl, Upd.refl _ _⟩
  | cons x r =>
    obtain ⟨ad, u, rfl, hb, hS, hu, hcell⟩ := hr.at1 (k := 0) (by simp)
    obtain rfl : u = .int .u8 x := by simp [bytv] at hu; exact hu.symm
    have hx := h.bytes x (by simp)
    have g0 : (0 : Int) < ((x :: r).length : Int) := by simp only [List.length_cons]; omega
    have hcc : w.cell? ad = some (.int .u8 x) := by simpa [Addr.add] using hcell
    have hw : IntKind.i64.wrap x = x := by rw [IntKind.wrap_i64]; omega
    have g1 : (1 : Int) ≤ ((x :: r).length : Int) := by simp only [List.length_cons]; omega
    have HR := hideP (reads_tail hr)
    have hne : ad.block ≠ lb := h.ne _ hS
    have hll := hl
    generalize hn : (x :: r).length = n at *
    have HN := hideP hn
    have hrn : r.length = n - 1 := by rw [← hn]; simp
    have HRN := hideP hrn
    clear h hc hr hl hu hcell hn hrn
    have hcs : (c - 1 = 0) ∨ ¬ (c - 1 = 0) := Classical.em _
    rcases hcs with hcs | hcs
    all_goals
      go_enter Tryd.func35, Tryd.ntmps35
      go_wp2_with (go_at_call 31; refine (need_is _ _ (decide_eq_true (by omega))).mono ?_; rintro e w2 ⟨he, hw2⟩; subst he hw2)
      go_ret
    · have HU := (Upd.refl (fun b => b = lb) w2).setCell ⟨lb, 0, none⟩ (.slice (some ad) (n - 1) 0) (fun _ => rfl)
      have hr0 : r = [] := List.eq_nil_of_length_eq_zero (by have := HRN.out; omega)
      exact ⟨rfl, ⟨⟨some ad, 0, by rw [HRN.out]; exact HC.out.set_ 0 _, by rw [hr0]; exact .nil_, by rw [hr0]; exact Nat.le_refl _⟩, fun y hy => HH.out.bytes y (by simp [hy]), by have := HH.out.few; rw [HN.out] at this; have := HRN.out; omega, HH.out.ne⟩, HU⟩
    · have HU := (Upd.refl (fun b => b = lb) w2).setCell ⟨lb, 0, none⟩ (.slice (some ⟨ad.block, ad.off + 1, none⟩) (n - 1) (c - 1)) (fun _ => rfl)
      exact ⟨rfl, ⟨⟨_, c - 1, by rw [HRN.out]; exact HC.out.set_ 0 _, HR.out.upd HU (fun b hb e => HH.out.ne b hb e), by have := HRN.out; omega⟩, fun y hy => HH.out.bytes y (by simp [hy]), by have := HH.out.few; rw [HN.out] at this; have := HRN.out; omega, HH.out.ne⟩, HU⟩
theorem left_any (w : World) (S : Nat → Prop) (lb : Nat) (bs : List Int) (h : LoadR w S lb bs) :
    Calls Tryd.prog 36 #[.pointer (some ⟨lb, 0, none⟩)] w fun e w' => e = .returned (.int .i64 (bs.length : Int)) ∧ w' = w := by
  obtain ⟨A, c, hc, hr, hl⟩ := h.at_
  have c0 : w.cell? ⟨lb, 0, none⟩ = some (.slice A bs.length c) := hc.cellv rfl
  clear h hc hr hl
  go_enter Tryd.func36, Tryd.ntmps36
  go_wp2_with fail
  go_ret
  exact ⟨rfl, rfl⟩
end Go.Proofs.YtdbdokjlcdogiaaDoor

/-
  The walk of (*loader).num.
-/
namespace Go.Proofs.YtdbdokjlcdogiaaDoor
open Go.RowKit
set_option linter.unusedVariables false

/-- a number out of at most f more bytes -/
def numF : Nat → Int → Int → Bool → List Int → Option (Int × List Int)
  | 0, _, _, _, _ => none
  | _ + 1, _, _, _, [] => none
  | f + 1, n, step, first, x :: r => if x < 128 then (if 0 < x ∨ first = true then some (n + x % 128 * step, r) else none) else numF f (n + x % 128 * step) (step * 128) false r
def numB (bs : List Int) : Option (Int × List Int) := numF 4 0 1 true bs
def NumAns (w : World) (S : Nat → Prop) (lb : Nat) : Option (Int × List Int) → Ending → World → Prop
  | none, e, w' => e = .panicked brokenP ∧ Upd (fun b => b = lb) w w'
  | some (n, r), e, w' => e = .returned (.int .i64 n) ∧ LoadR w' S lb r ∧ Upd (fun b => b = lb) w w'
theorem wraps_i64 (n : Int) (h₀ : 0 ≤ n) (h₁ : n < 2 ^ 63) : IntKind.i64.wrap n = n := by rw [IntKind.wrap_i64]; omega
theorem and_127 {x : Int} (h0 : 0 ≤ x) (h1 : x ≤ 255) : bits .and .i64 x 127 = x % 128 := bits_mask .i64 63 (by decide) wraps_i64 7 (by decide) x h0 (by omega)
theorem or_join {n y : Int} (i : Nat) (h0 : 0 ≤ n) (h1 : n < 2 ^ i) (hi : i ≤ 28) (hy0 : 0 ≤ y) (hy : y % 2 ^ i = 0) (hy1 : y < 2 ^ 63) : bits .or .i64 n y = n + y := by
  obtain ⟨a, rfl⟩ := Int.eq_ofNat_of_zero_le h0
  obtain ⟨b, rfl⟩ := Int.eq_ofNat_of_zero_le hy0
  have h28 : (2 : Int) ^ i ≤ 2 ^ 28 := by exact_mod_cast Nat.pow_le_pow_right (by decide : 0 < 2) hi
  have hx := bits_join .i64 63 (by decide) wraps_i64 i (b : Int) (a : Int) hy0 hy hy1 h0 h1 (by omega)
  have hb : b < 2 ^ 63 := by exact_mod_cast hy1
  have ha : a < 2 ^ 63 := by
    have : (a : Int) < 2 ^ 63 := by omega
    exact_mod_cast this
  rw [(bits_nat .i64 63 (by decide) wraps_i64 b a hb ha).2] at hx
  rw [(bits_nat .i64 63 (by decide) wraps_i64 a b ha hb).2, Nat.or_comm a b, hx, Int.add_comm]

set_option maxRecDepth 100000 in
set_option maxHeartbeats 4000000 in
theorem num_any (w : World) (S : Nat → Prop) (lb : Nat) (bs : List Int) (h : LoadR w S lb bs) :
    Calls Tryd.prog 33 #[.pointer (some ⟨lb, 0, none⟩)] w (NumAns w S lb (numB bs)) := by
  have HL := hideP h
  generalize hP : NumAns w S lb (numB bs) = P
  have HPn := hideP (show ∀ w', numB bs = none → Upd (fun b => b = lb) w w' → P (.panicked brokenP) w' from fun w' h1 h2 => by rw [← hP, h1]; exact ⟨rfl, h2⟩)
  have HPs := hideP (show ∀ n r w', numB bs = some (n, r) → LoadR w' S lb r → Upd (fun b => b = lb) w w' → P (.returned (.int .i64 n)) w' from fun n r w' h1 h2 h3 => by rw [← hP, h1]; exact ⟨rfl, h2, h3⟩)
  clear h hP
  go_enter Tryd.func33, Tryd.ntmps33
  go_wp2_with fail
  go_loopg [3, 4] 4 (fun gk v3 v4 wr => ∃ (i : Nat) (n : Int) (r : List Int), i + gk = 4 ∧ v4 = .int .i64 (i : Int) ∧ v3 = .int .i64 n ∧ 0 ≤ n ∧ n < 128 ^ i ∧ LoadR wr S lb r ∧ numF (4 - i) n (128 ^ i) (decide (i = 0)) r = numB bs ∧ Upd (fun b => b = lb) w wr)
  case atStart => exact ⟨0, 0, bs, by omega, rfl, rfl, by omega, by decide, HL.out, rfl, Upd.refl _ _⟩
  case round =>
    obtain ⟨i, n, r, hk, rfl, rfl, hn0, hn1, hL, hF, hU⟩ := hrel
    have HU := hideP hU
    have hi : i = 0 ∨ i = 1 ∨ i = 2 ∨ i = 3 ∨ i = 4 := by omega
    rcases hi with rfl | rfl | rfl | rfl | rfl
    · have HF := hideP hF
      have HLr := hideP hL
      cases r with
      | nil =>
        clear hF hL hU hk
        go_wp2_with (first | (go_at_call 31; refine (need_is _ _ (by rfl)).mono ?_; rintro e w2 ⟨he, hw2⟩; subst he hw2) | (go_at_call 35; refine (byte_any _ S lb [] HLr.out).mono ?_; rintro e w3 ⟨rfl, hU3⟩))
        exact ⟨rfl, HPn.out _ HF.out.symm (HU.out.trans hU3 (fun _ _ h => h))⟩
      | cons x r =>
        have hx := hL.bytes x (by simp)
        have hn2 : n < 1 := by simpa using hn1
        have hA := and_127 hx.1 hx.2
        have hO : bits .or .i64 n (x % 128) = n + x % 128 := or_join 0 hn0 (by omega) (by omega) (by omega) (by omega) (by omega)
        clear hF hL hU hn1
        by_cases hlt : x < 128
        · go_wp2_with (first | (go_at_call 31; refine (need_is _ _ (by rfl)).mono ?_; rintro e w2 ⟨he, hw2⟩; subst he hw2) | (go_at_call 35; refine (byte_any _ S lb (x :: r) HLr.out).mono ?_; rintro e w3 ⟨rfl, hL3, hU3⟩))
          all_goals exact HPs.out _ _ _ (HF.out.symm.trans (by simp [numF, hlt])) hL3 (HU.out.trans hU3 (fun _ _ h => h))
        · go_wp2_with (first | (go_at_call 31; refine (need_is _ _ (by rfl)).mono ?_; rintro e w2 ⟨he, hw2⟩; subst he hw2) | (go_at_call 35; refine (byte_any _ S lb (x :: r) HLr.out).mono ?_; rintro e w3 ⟨rfl, hL3, hU3⟩))
          go_roundg (4 - 1)
          case measure => omega
          case rel => exact ⟨1, n + x % 128, r, by omega, rfl, rfl, by omega, by omega, hL3, (by first | (rw [← HF.out, numF, if_neg (show ¬ x < 128 by omega)]; first | rfl | (simp; done)) | (rw [← HF.out]; simp [numF, show ¬ x < 128 by omega])), HU.out.trans hU3 (fun _ _ h => h)⟩
    · have HF := hideP hF
      have HLr := hideP hL
      cases r with
      | nil =>
        clear hF hL hU hk
        go_wp2_with (first | (go_at_call 31; refine (need_is _ _ (by rfl)).mono ?_; rintro e w2 ⟨he, hw2⟩; subst he hw2) | (go_at_call 35; refine (byte_any _ S lb [] HLr.out).mono ?_; rintro e w3 ⟨rfl, hU3⟩))
        exact ⟨rfl, HPn.out _ HF.out.symm (HU.out.trans hU3 (fun _ _ h => h))⟩
      | cons x r =>
        have hx := hL.bytes x (by simp)
        have hn2 : n < 128 := by simpa using hn1
        have hA := and_127 hx.1 hx.2
        have hO : bits .or .i64 n (x % 128 * 128) = n + x % 128 * 128 := or_join 7 hn0 (by omega) (by omega) (by omega) (by omega) (by omega)
        clear hF hL hU hn1
        by_cases hlt : x < 128
        · by_cases hx0 : 0 < x
          · go_wp2_with (first | (go_at_call 31; refine (need_is _ _ (by rfl)).mono ?_; rintro e w2 ⟨he, hw2⟩; subst he hw2) | (go_at_call 31; refine (need_is _ _ (by first | rfl | exact decide_eq_true (by omega))).mono ?_; rintro e w2 ⟨he, hw2⟩; subst he hw2) | (go_at_call 35; refine (byte_any _ S lb (x :: r) HLr.out).mono ?_; rintro e w3 ⟨rfl, hL3, hU3⟩))
            exact HPs.out _ _ _ (HF.out.symm.trans (by simp [numF, hlt, hx0])) hL3 (HU.out.trans hU3 (fun _ _ h => h))
          · go_wp2_with (first | (go_at_call 31; refine (need_is _ _ (by rfl)).mono ?_; rintro e w2 ⟨he, hw2⟩; subst he hw2) | (go_at_call 31; refine (need_not _ _ (by first | rfl | exact decide_eq_false (by omega))).mono ?_; rintro e w4 ⟨he, hw4⟩; subst he hw4) | (go_at_call 35; refine (byte_any _ S lb (x :: r) HLr.out).mono ?_; rintro e w3 ⟨rfl, hL3, hU3⟩))
            exact ⟨rfl, HPn.out _ (by rw [← HF.out]; simp [numF, show x < 128 by omega, show ¬ 0 < x by omega]) (HU.out.trans hU3 (fun _ _ h => h))⟩
        · go_wp2_with (first | (go_at_call 31; refine (need_is _ _ (by rfl)).mono ?_; rintro e w2 ⟨he, hw2⟩; subst he hw2) | (go_at_call 35; refine (byte_any _ S lb (x :: r) HLr.out).mono ?_; rintro e w3 ⟨rfl, hL3, hU3⟩))
          go_roundg (4 - 2)
          case measure => omega
          case rel => exact ⟨2, n + x % 128 * 128, r, by omega, rfl, rfl, by omega, by omega, hL3, (by first | (rw [← HF.out, numF, if_neg (show ¬ x < 128 by omega)]; first | rfl | (simp; done)) | (rw [← HF.out]; simp [numF, show ¬ x < 128 by omega])), HU.out.trans hU3 (fun _ _ h => h)⟩
    · have HF := hideP hF
      have HLr := hideP hL
      cases r with
      | nil =>
        clear hF hL hU hk
        go_wp2_with (first | (go_at_call 31; refine (need_is _ _ (by rfl)).mono ?_; rintro e w2 ⟨he, hw2⟩; subst he hw2) | (go_at_call 35; refine (byte_any _ S lb [] HLr.out).mono ?_; rintro e w3 ⟨rfl, hU3⟩))
        exact ⟨rfl, HPn.out _ HF.out.symm (HU.out.trans hU3 (fun _ _ h => h))⟩
      | cons x r =>
        have hx := hL.bytes x (by simp)
        have hn2 : n < 16384 := by simpa using hn1
        have hA := and_127 hx.1 hx.2
        have hO : bits .or .i64 n (x % 128 * 16384) = n + x % 128 * 16384 := or_join 14 hn0 (by omega) (by omega) (by omega) (by omega) (by omega)
        clear hF hL hU hn1
        by_cases hlt : x < 128
        · by_cases hx0 : 0 < x
          · go_wp2_with (first | (go_at_call 31; refine (need_is _ _ (by rfl)).mono ?_; rintro e w2 ⟨he, hw2⟩; subst he hw2) | (go_at_call 31; refine (need_is _ _ (by first | rfl | exact decide_eq_true (by omega))).mono ?_; rintro e w2 ⟨he, hw2⟩; subst he hw2) | (go_at_call 35; refine (byte_any _ S lb (x :: r) HLr.out).mono ?_; rintro e w3 ⟨rfl, hL3, hU3⟩))
            exact HPs.out _ _ _ (HF.out.symm.trans (by simp [numF, hlt, hx0])) hL3 (HU.out.trans hU3 (fun _ _ h => h))
          · go_wp2_with (first | (go_at_call 31; refine (need_is _ _ (by rfl)).mono ?_; rintro e w2 ⟨he, hw2⟩; subst he hw2) | (go_at_call 31; refine (need_not _ _ (by first | rfl | exact decide_eq_false (by omega))).mono ?_; rintro e w4 ⟨he, hw4⟩; subst he hw4) | (go_at_call 35; refine (byte_any _ S lb (x :: r) HLr.out).mono ?_; rintro e w3 ⟨rfl, hL3, hU3⟩))
            exact ⟨rfl, HPn.out _ (by rw [← HF.out]; simp [numF, show x < 128 by omega, show ¬ 0 < x by omega]) (HU.out.trans hU3 (fun _ _ h => h))⟩
        · go_wp2_with (first | (go_at_call 31; refine (need_is _ _ (by rfl)).mono ?_; rintro e w2 ⟨he, hw2⟩; subst he hw2) | (go_at_call 35; refine (byte_any _ S lb (x :: r) HLr.out).mono ?_; rintro e w3 ⟨rfl, hL3, hU3⟩))
          go_roundg (4 - 3)
          case measure => omega
          case rel => exact ⟨3, n + x % 128 * 16384, r, by omega, rfl, rfl, by omega, by omega, hL3, (by first | (rw [← HF.out, numF, if_neg (show ¬ x < 128 by omega)]; first | rfl | (simp; done)) | (rw [← HF.out]; simp [numF, show ¬ x < 128 by omega])), HU.out.trans hU3 (fun _ _ h => h)⟩
    · have HF := hideP hF
      have HLr := hideP hL
      cases r with
      | nil =>
        clear hF hL hU hk
        go_wp2_with (first | (go_at_call 31; refine (need_is _ _ (by rfl)).mono ?_; rintro e w2 ⟨he, hw2⟩; subst he hw2) | (go_at_call 35; refine (byte_any _ S lb [] HLr.out).mono ?_; rintro e w3 ⟨rfl, hU3⟩))
        exact ⟨rfl, HPn.out _ HF.out.symm (HU.out.trans hU3 (fun _ _ h => h))⟩
      | cons x r =>
        have hx := hL.bytes x (by simp)
        have hn2 : n < 2097152 := by simpa using hn1
        have hA := and_127 hx.1 hx.2
        have hO : bits .or .i64 n (x % 128 * 2097152) = n + x % 128 * 2097152 := or_join 21 hn0 (by omega) (by omega) (by omega) (by omega) (by omega)
        clear hF hL hU hn1
        by_cases hlt : x < 128
        · by_cases hx0 : 0 < x
          · go_wp2_with (first | (go_at_call 31; refine (need_is _ _ (by rfl)).mono ?_; rintro e w2 ⟨he, hw2⟩; subst he hw2) | (go_at_call 31; refine (need_is _ _ (by first | rfl | exact decide_eq_true (by omega))).mono ?_; rintro e w2 ⟨he, hw2⟩; subst he hw2) | (go_at_call 35; refine (byte_any _ S lb (x :: r) HLr.out).mono ?_; rintro e w3 ⟨rfl, hL3, hU3⟩))
            exact HPs.out _ _ _ (HF.out.symm.trans (by simp [numF, hlt, hx0])) hL3 (HU.out.trans hU3 (fun _ _ h => h))
          · go_wp2_with (first | (go_at_call 31; refine (need_is _ _ (by rfl)).mono ?_; rintro e w2 ⟨he, hw2⟩; subst he hw2) | (go_at_call 31; refine (need_not _ _ (by first | rfl | exact decide_eq_false (by omega))).mono ?_; rintro e w4 ⟨he, hw4⟩; subst he hw4) | (go_at_call 35; refine (byte_any _ S lb (x :: r) HLr.out).mono ?_; rintro e w3 ⟨rfl, hL3, hU3⟩))
            exact ⟨rfl, HPn.out _ (by rw [← HF.out]; simp [numF, show x < 128 by omega, show ¬ 0 < x by omega]) (HU.out.trans hU3 (fun _ _ h => h))⟩
        · go_wp2_with (first | (go_at_call 31; refine (need_is _ _ (by rfl)).mono ?_; rintro e w2 ⟨he, hw2⟩; subst he hw2) | (go_at_call 35; refine (byte_any _ S lb (x :: r) HLr.out).mono ?_; rintro e w3 ⟨rfl, hL3, hU3⟩))
          go_roundg (4 - 4)
          case measure => omega
          case rel => exact ⟨4, n + x % 128 * 2097152, r, by omega, rfl, rfl, by omega, by omega, hL3, (by first | (rw [← HF.out, numF, if_neg (show ¬ x < 128 by omega)]; first | rfl | (simp; done)) | (rw [← HF.out]; simp [numF, show ¬ x < 128 by omega])), HU.out.trans hU3 (fun _ _ h => h)⟩
    · have HF := hideP hF
      clear hF hL hU hk
      go_wp2_with (first | (go_at_call 31; refine (need_not _ _ (by rfl)).mono ?_; rintro e w2 ⟨he, hw2⟩; subst he hw2))
      exact ⟨rfl, HPn.out _ HF.out.symm HU.out⟩
end Go.Proofs.YtdbdokjlcdogiaaDoor
