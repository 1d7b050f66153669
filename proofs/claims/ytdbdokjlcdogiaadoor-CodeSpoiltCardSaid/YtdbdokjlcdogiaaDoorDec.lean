/-
  The walks of heronref10.decimal and heronref10.word.
-/
import Derived.Test.YtdbdokjlcdogiaaDoorTextP
namespace Go.Proofs.YtdbdokjlcdogiaaDoor
open Go.RowKit Go.Lib
set_option linter.unusedVariables false

/-- bytes behind a row of the call's own -/
def PutT (w : World) (base : Nat) (A : Option Addr) (m c : Nat) (xs : List Value) (l : List UInt8) (e : Ending) (w' : World) : Prop :=
  ∃ A' c', e = .returned (.slice A' (m + l.length) c') ∧ OwnT w' base 5 (.slice A' (m + l.length) c') (m + l.length) (xs ++ byteCells l) ∧ Upd (fun b => (Value.slice A m c).ownBlock = some b) w w' ∧ (∀ b, (Value.slice A' (m + l.length) c').ownBlock = some b → (Value.slice A m c).ownBlock = some b ∨ w.heap.size ≤ b)

set_option maxRecDepth 100000 in
set_option maxHeartbeats 2000000 in
theorem decimal_any : ∀ (k n : Nat), n ≤ k → ∀ (w : World) (base : Nat) (A : Option Addr) (m c : Nat) (xs : List Value), OwnT w base 5 (.slice A m c) m xs → base ≤ w.heap.size → n < 10000000 → m ≤ 100000000 →
    Calls Tryd.prog 48 #[.slice A m c, .int .i64 (n : Int)] w (PutT w base A m c xs (decDigits n)) := by
  intro k
  induction k using Nat.strongRecOn with
  | _ k ih =>
  intro n hnk w base A m c xs ho hb hn hm
  obtain ⟨i0, hi0, hz0, hz1, hz2⟩ := info_parts cinfo_u8
  have HO := hideP ho
  have IH := hideP ih
  clear ho ih
  generalize hP : PutT w base A m c xs (decDigits n) = P
  have HP := hideP (show ∀ l A' c' w', decDigits n = l → OwnT w' base 5 (.slice A' (m + l.length) c') (m + l.length) (xs ++ byteCells l) → Upd (fun b => (Value.slice A m c).ownBlock = some b) w w' → (∀ b, (Value.slice A' (m + l.length) c').ownBlock = some b → (Value.slice A m c).ownBlock = some b ∨ w.heap.size ≤ b) → P (.returned (.slice A' (m + l.length) c')) w' from fun l A' c' w' h1 h2 h3 h4 => by rw [← hP, h1]; exact ⟨A', c', rfl, h2, h3, h4⟩)
  clear hP
  by_cases hlt : n < 10
  · have g1 : ¬ (10 : Int) ≤ (n : Int) := by omega
    have htm : (n : Int).tmod 10 = (n : Int) := Int.tmod_eq_of_lt (by omega) (by omega)
    have HD := hideP (decDigits_small hlt)
    have hby : Value.int IntKind.u8 (48 + (n : Int)) = .int .u8 ((UInt8.ofNat (48 + n)).toNat : Int) := by
      congr 1
      rw [UInt8.toNat_ofNat']
      omega
    have HBY := hideP hby
    clear hby
    go_enter Tryd.func48, Tryd.ntmps48
    go_wp2_with (at_builtin; refine wpList_append_T rfl _ _ 30 rfl base 5 i0 (.int .u8 0) Tryd.underlying30 hi0 hz0 hz1 hz2 rfl _ _ _ rfl (HO.out.alloc _) ⟨w.heap.size, 0, none⟩ 1 1 [(.int .u8 (48 + (n : Int)))] rfl rfl ?d1 ?d2 ?d3 ?d4 ?d5 ?_)
    try case d1 => exact World.news_of_block (cs := #[(.int .u8 (48 + (n : Int)))]) (t := 5) (fr := (0, 0)) (heap_alloc_new _ _)
    case d2 => first | rfl | exact ⟨rfl⟩ | trivial | (intro u hu; simp at hu; subst hu; rfl) | simp
    case d3 => unfold maxLen; omega
    case d4 => omega
    case d5 => first | (simp; done) | (simp; omega) | omega
    intro A8 c8 w8 o8 g8 hat
    have hU8 := ((Upd.refl (fun b => (Value.slice A m c).ownBlock = some b) w).alloc (.cells #[(.int .u8 (48 + (n : Int)))] 5)).grown g8 (fun b hb _ => hb)
    have hat' : ∀ b, (Value.slice A8 (m + 1) c8).ownBlock = some b → (Value.slice A m c).ownBlock = some b ∨ w.heap.size ≤ b := fun b hb => by
      rcases hat with h | h
      · rw [h] at hb; exact .inl hb
      · rw [h] at hb
        injection hb with hb
        (try simp at hb)
        right; omega
    have HU8 := hideP hU8
    have HO8 := hideP o8
    have HA8 := hideP hat'
    clear hU8 o8 g8 hat hat'
    go_wp2_with fail
    try go_ret
    refine HP.out [UInt8.ofNat (48 + n)] A8 c8 w8 HD.out ?_ HU8.out HA8.out
    have h := HO8.out
    rw [HBY.out] at h
    exact h
  · have g1 : (10 : Int) ≤ (n : Int) := by omega
    obtain ⟨q, hqn⟩ : ∃ q : Nat, n / 10 = q := ⟨_, rfl⟩
    obtain ⟨r, hrn⟩ : ∃ r : Nat, n % 10 = r := ⟨_, rfl⟩
    have htm : (n : Int).tmod 10 = (r : Int) := by rw [Int.tmod_eq_emod_of_nonneg (by omega)]; omega
    have htd : (n : Int).tdiv 10 = (q : Int) := by rw [Int.tdiv_eq_ediv_of_nonneg (by omega)]; omega
    have htm2 : (n : Int) % 10 = (r : Int) := by omega
    have htd2 : (n : Int) / 10 = (q : Int) := by omega
    have hr : r < 10 := by omega
    have hq : q < 1000000 := by omega
    have HD := hideP (show decDigits n = decDigits q ++ [UInt8.ofNat (48 + r)] by rw [decDigits_step hlt, hqn, hrn])
    have hby : Value.int IntKind.u8 (48 + (r : Int)) = .int .u8 ((UInt8.ofNat (48 + r)).toNat : Int) := by
      congr 1
      rw [UInt8.toNat_ofNat']
      omega
    have HBY := hideP hby
    have hdl := dec_len (n := q) (by omega)
    have HI := hideP (IH.out q (by omega) q (Nat.le_refl _) w base A m c xs HO.out hb (by omega) hm)
    clear hby hlt IH
    go_enter Tryd.func48, Tryd.ntmps48
    go_upto_region 3 with (go_at_call 48; refine HI.out.mono ?_; rintro e w5 ⟨A5, c5, rfl, o5, u5, h5⟩)
    have HO5 := hideP o5
    have HU5 := hideP u5
    have HA5 := hideP h5
    have hs5 := u5.size
    clear o5 u5 h5
    go_wp2_with (at_builtin; refine wpList_append_T rfl _ _ 30 rfl base 5 i0 (.int .u8 0) Tryd.underlying30 hi0 hz0 hz1 hz2 rfl _ _ _ rfl (HO5.out.alloc _) ⟨w5.heap.size, 0, none⟩ 1 1 [(.int .u8 (48 + (r : Int)))] rfl rfl ?e1 ?e2 ?e3 ?e4 ?e5 ?_)
    try case e1 => exact World.news_of_block (cs := #[(.int .u8 (48 + (r : Int)))]) (t := 5) (fr := (0, 0)) (heap_alloc_new _ _)
    case e2 => first | rfl | exact ⟨rfl⟩ | trivial | (intro u hu; simp at hu; subst hu; rfl) | simp
    case e3 => unfold maxLen; omega
    case e4 => omega
    case e5 => first | (simp; done) | (simp; omega) | omega
    intro A8 c8 w8 o8 g8 hat
    have hU8 := HU5.out.trans (((Upd.refl (fun b => (Value.slice A5 (m + (decDigits q).length) c5).ownBlock = some b) w5).alloc (.cells #[(.int .u8 (48 + (r : Int)))] 5)).grown g8 (fun b hb _ => hb)) (fun b hb h => by rcases HA5.out b h with h | h; exact h; omega)
    have hat' : ∀ b, (Value.slice A8 (m + (decDigits q).length + 1) c8).ownBlock = some b → (Value.slice A m c).ownBlock = some b ∨ w.heap.size ≤ b := fun b hb => by
      rcases hat with h | h
      · rw [h] at hb; exact HA5.out b hb
      · rw [h] at hb
        injection hb with hb
        (try simp at hb)
        right; omega
    have hl : m + (decDigits q).length + 1 = m + (decDigits q ++ [UInt8.ofNat (48 + r)]).length := by simp; omega
    rw [hl] at hat' o8
    have HU8 := hideP hU8
    have HO8 := hideP o8
    have HA8 := hideP hat'
    rw [hl]
    clear hU8 o8 g8 hat hat' hl
    go_wp2_with fail
    try go_ret
    refine HP.out (decDigits q ++ [UInt8.ofNat (48 + r)]) A8 c8 w8 HD.out ?_ HU8.out HA8.out
    have h := HO8.out
    rw [HBY.out] at h
    have e : xs ++ byteCells (decDigits q ++ [UInt8.ofNat (48 + r)]) = xs ++ (byteCells (decDigits q) ++ [Value.int IntKind.u8 ((UInt8.ofNat (48 + r)).toNat : Int)]) := by rw [byteCells_append]; rfl
    rw [e]
    first | exact h | (rw [← List.append_assoc]; exact h)
/-- an operation's word -/
def wordS (op : Int) : ByteArray := ⟨(wordT op).toArray⟩
set_option maxRecDepth 100000 in
set_option maxHeartbeats 2000000 in
theorem word_any (w : World) (op : Int) (h0 : 1 ≤ op) (h1 : op ≤ 7) : Calls Tryd.prog 49 #[.int .i64 op] w fun e w' => e = .returned (.string (wordS op)) ∧ w' = w := by
  have hc : op = 1 ∨ op = 2 ∨ op = 3 ∨ op = 4 ∨ op = 5 ∨ op = 6 ∨ op = 7 := by omega
  rcases hc with rfl | rfl | rfl | rfl | rfl | rfl | rfl <;>
  · go_enter Tryd.func49, Tryd.ntmps49
    go_wp2_with fail
    go_ret
    exact ⟨rfl, rfl⟩
end Go.Proofs.YtdbdokjlcdogiaaDoor
