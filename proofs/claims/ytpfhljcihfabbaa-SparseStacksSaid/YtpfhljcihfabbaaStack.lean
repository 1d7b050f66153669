/-
  The walks of sparse.Stack: Len, Most, Push, Pop, one set for each element type. Printed by gen_stk.py.
-/
import Derived.Test.YtpfhljcihfabbaaRows
import Derived.Test.YtpfhljcihfabbaaMem
import Derived.Test.YtpfhljcihfabbaaLaws
import Derived.WalkSpells
import Derived.WalkLawsBesides
import Derived.RegionTactic
import Derived.ChangeAlike
namespace Go.Proofs.Ytpfhljcihfabbaa
open Go.RowKit
set_option linter.unusedVariables false

/-- What a call leaves of the stack at ⟨b, off⟩: n' things, xs', the greatest count m'; nothing else of the old has turned. -/
structure StkP (w w' : World) (base b off : Nat) (t : TypeId) (cs : Array Value) (A : Option Addr) (n c : Nat) (e : TypeId) (n' : Nat) (xs' : List Value) (m' : Int) : Prop where
  ex : ∃ A' c', Cells w' b t ((cs.setIfInBounds off (.slice A' n' c')).setIfInBounds (off+1) (.int .i64 m')) ∧ w'.ownsRow base e 1 (.slice A' n' c') n' xs' ∧
    ((Value.slice A' n' c').ownBlock = (Value.slice A n c).ownBlock ∨ ∃ g, (Value.slice A' n' c').ownBlock = some g ∧ w.heap.size ≤ g)
  upd : Upd (fun k => k = b ∨ (Value.slice A n c).ownBlock = some k) w w'
theorem set_same {α : Type} {cs : Array α} {i : Nat} {v : α} (h : cs[i]? = some v) : cs.setIfInBounds i v = cs := by
  apply Array.ext_getElem?
  intro j
  by_cases hj : i = j
  · subst hj
    rw [Array.getElem?_setIfInBounds_self, h]
    simp [(Array.getElem?_eq_some_iff.1 h).1]
  · rw [Array.getElem?_setIfInBounds_ne hj]
theorem own_pop {w : World} {base e n g cap : Nat} {ys : List Value} {y : Value} (hn : ys.length = n) (h : w.ownsRow base e 1 (.slice (some ⟨g, 0, none⟩) (n+1) cap) (n+1) (ys ++ [y])) :
    w.ownsRow base e 1 (.slice (some ⟨g, 0, none⟩) n cap) n ys := by
  rcases h.2 with ⟨h', _⟩ | ⟨g', cap', cur, h', hb, hg, hnc, hcm, hcs, ht⟩
  · cases h'
  · injection h' with h1 h2 h3
    obtain rfl : g = g' := by injection h1 with h1; injection h1
    subst h3
    refine ⟨by simpa using hn, .inr ⟨g, cap, cur, rfl, hb, hg, by omega, hcm, hcs, ?_⟩⟩
    have := congrArg (List.take n) ht
    rw [List.take_take, Nat.min_eq_left (by omega), List.take_left' hn] at this
    simpa using this
theorem own_none {w : World} {base e n size : Nat} {A : Option Addr} {c : Nat} {xs : List Value} (h : w.ownsRow base e size (.slice A n c) n xs) : w.ownsRow base e size (.slice A 0 c) 0 [] := by
  rcases h.2 with ⟨h', _⟩ | ⟨g', cap', cur, h', hb, hg, hnc, hcm, hcs, ht⟩
  · injection h' with h1 h2 h3
    subst h1; subst h3
    exact ⟨by simp, .inl ⟨rfl, rfl⟩⟩
  · injection h' with h1 h2 h3
    subst h1; subst h3
    exact ⟨by simp, .inr ⟨g', c, cur, rfl, hb, hg, Nat.zero_le _, hcm, hcs, by simp⟩⟩
theorem own_last {w : World} {base e n : Nat} {A : Option Addr} {c : Nat} {xs : List Value} (h : w.ownsRow base e 1 (.slice A (n+1) c) (n+1) xs) :
    ∃ g, A = some ⟨g, 0, none⟩ ∧ g < w.heap.size ∧ base ≤ g ∧ n + 1 ≤ c := by
  rcases h.2 with ⟨h', _⟩ | ⟨g', cap', cur, h', hb, hg, hnc, hcm, hcs, ht⟩
  · cases h'
  · injection h' with h1 h2 h3
    subst h1; subst h3
    exact ⟨g', rfl, (Array.getElem?_eq_some_iff.1 hg).1, hb, hnc⟩

/-! ### heron/sparse.Stack[int] -/
theorem info_int : (Try.prog.info? 3).map (fun i => (i.zero, i.size, i.bytes)) = some (some (.int .i64 0), 1, 8) := by kernel_rfl
theorem len_int (w : World) (b off : Nat) (A : Option Addr) (n c : Nat) (h0 : w.cell? ⟨b, off, none⟩ = some (.slice A n c)) :
    Calls Try.prog 9 #[.pointer (some ⟨b, off, none⟩)] w fun e w' => e = .returned (.int .i64 n) ∧ w = w' := by
  go_enter Try.func9, Try.ntmps9
  go_wp2
  go_ret
  exact ⟨rfl, rfl⟩
theorem most_int (w : World) (b off : Nat) (m : Int) (h1 : w.cell? ⟨b, off+1, none⟩ = some (.int .i64 m)) :
    Calls Try.prog 10 #[.pointer (some ⟨b, off, none⟩)] w fun e w' => e = .returned (.int .i64 m) ∧ w = w' := by
  go_enter Try.func10, Try.ntmps10
  go_wp2
  go_ret
  exact ⟨rfl, rfl⟩
set_option maxHeartbeats 400000 in
theorem push_int (w : World) (base b off : Nat) (t : TypeId) (cs : Array Value) (A : Option Addr) (n c : Nat) (xs : List Value) (most : Int) (x : Int)
    (hb : Cells w b t cs) (h0 : cs[off]? = some (.slice A n c)) (h1 : cs[off+1]? = some (.int .i64 most))
    (hown : w.ownsRow base 3 1 (.slice A n c) n xs) (hne : t ≠ 3)
    (hlen : (n + 1) * 8 ≤ 140737488355328) (hbase : base ≤ w.heap.size) :
    Calls Try.prog 7 #[.pointer (some ⟨b, off, none⟩), .int .i64 x] w fun e w' => e = .returned (.tuple #[]) ∧
      StkP w w' base b off t cs A n c 3 (n + 1) (xs ++ [.int .i64 x]) (if most < n + 1 then n + 1 else most) := by
  have hnb : (Value.slice A n c).ownBlock ≠ some b := own_ne hown hb hne.symm
  obtain ⟨i0, hi, hz0, hz1, hz2⟩ := info_parts info_int
  have e0 := hb.cellv h0
  have e1 := hb.cellv h1
  go_enter Try.func7, Try.ntmps7
  go_wp2_with (at_builtin; refine wpList_append_own_at _ rfl _ _ 22 rfl base 3 i0 (.int .i64 0) 1 8 Try.underlying22 hi hz0 hz1 hz2 rfl (by decide) _ _ _ rfl (hown.alloc _) ⟨w.heap.size, 0, none⟩ 1 1 [.int .i64 x] rfl rfl ?c1 ?c2 ?c3 ?c4 ?c5 ?_)
  case c1 =>
    intro j u hj
    match j, hj with
    | 0, hj => simp at hj; subst hj; simp [Addr.add]
  case c2 => intro u hu; simp at hu; subst hu; rfl
  case c3 => unfold maxLen; omega
  case c4 => omega
  case c5 => simp; omega
  intro v' w1 hown' hg _ hat
  obtain ⟨A', c', rfl⟩ := own_shape hown'
  clear e0 e1
  have hb1 : Cells w1 b t cs := (hb.alloc _).grown hg hnb
  have e0 := hb1.cellv h0
  have e1 := hb1.cellv h1
  have f0 := hb1.frozen off
  have f1 := hb1.frozen (off + 1)
  go_wp2
  go_region
  go_end0
  have hnb' : (Value.slice A' (n + 1) c').ownBlock ≠ some b := own_ne hown' hb1 hne.symm
  refine ⟨rfl, ⟨A', c', ((hb1.set_ _ _).set_ _ _).drew, ?_, ?_⟩, ?_⟩
  · exact (own_far (own_far hown' _ _ hnb') _ _ hnb').drew
  · rcases hat with h | h
    · exact .inl h
    · exact .inr ⟨_, h, by simp⟩
  · refine Upd.drew (((((Upd.refl _ _).alloc _).grown hg ?_).setCell _ _ ?_).setCell _ _ ?_)
    · intro k hk _; exact .inr hk
    · intro _; exact .inl rfl
    · intro _; exact .inl rfl
theorem pop_int_none (w : World) (b off : Nat) (A : Option Addr) (c : Nat) (h0 : w.cell? ⟨b, off, none⟩ = some (.slice A 0 c)) :
    Calls Try.prog 8 #[.pointer (some ⟨b, off, none⟩)] w fun e w' => e = .returned (.tuple #[.int .i64 0, .bool false]) ∧ w = w' := by
  go_enter Try.func8, Try.ntmps8
  go_wp2
  go_ret2
  exact ⟨rfl, rfl⟩
set_option maxHeartbeats 400000 in
theorem pop_int_some (w : World) (base b off : Nat) (t : TypeId) (cs : Array Value) (A : Option Addr) (n c : Nat) (ys : List Value) (most : Int) (x : Int)
    (hb : Cells w b t cs) (hn : ys.length = n) (h0 : cs[off]? = some (.slice A (n+1) c)) (h1 : cs[off+1]? = some (.int .i64 most))
    (hown : w.ownsRow base 3 1 (.slice A (n+1) c) (n+1) (ys ++ [.int .i64 x])) (hne : t ≠ 3) (hlen : n + 1 ≤ 9223372036854775807) :
    Calls Try.prog 8 #[.pointer (some ⟨b, off, none⟩)] w fun e w' => e = .returned (.tuple #[.int .i64 x, .bool true]) ∧
      StkP w w' base b off t cs A (n+1) c 3 n ys most := by
  have hnb : (Value.slice A (n+1) c).ownBlock ≠ some b := own_ne hown hb hne.symm
  obtain ⟨g, rfl, hgs, hbg, hnc⟩ := own_last hown
  have hgb : g ≠ b := by intro e; subst e; exact hnb rfl
  have e0 := hb.cellv h0
  have f0 := hb.frozen off
  have c0 : w.cell? ⟨g, n, none⟩ = some (.int .i64 x) := by
    rw [hown.cellAt n (by omega), ← hn, List.getElem?_append_right (Nat.le_refl _)]; simp
  have g0 : w.frozen? ⟨g, n, none⟩ = false := hown.frozenAt n
  have hown' : (w.setCell ⟨g, n, none⟩ (.int .i64 0)).ownsRow base 3 1 (.slice (some ⟨g, 0, none⟩) n c) n ys := by
    have := (hown.stored n (.int .i64 0)).1
    rw [List.set_append_right _ _ (by omega)] at this
    exact own_pop hn (y := .int .i64 0) (by simpa [hn] using this)
  have hb1 := hb.far ⟨g, n, none⟩ (.int .i64 0) (fun e => hgb e.symm)
  have hcap : 0 < c := by omega
  go_enter Try.func8, Try.ntmps8
  go_wp2
  go_ret2
  have hb2 : Cells ((w.setCell ⟨g, n, none⟩ (.int .i64 0)).setCell ⟨b, off, none⟩ (.slice (some ⟨g, 0, none⟩) n c)) b t (cs.setIfInBounds off (.slice (some ⟨g, 0, none⟩) n c)) := hb1.set_ _ _
  refine ⟨rfl, ⟨_, c, ?_, own_far hown' _ _ (by simpa [Value.ownBlock] using hgb), .inl rfl⟩, ?_⟩
  · have e : (cs.setIfInBounds off (.slice (some ⟨g, 0, none⟩) n c)).setIfInBounds (off+1) (.int .i64 most) = cs.setIfInBounds off (.slice (some ⟨g, 0, none⟩) n c) :=
      set_same (by rw [Array.getElem?_setIfInBounds_ne (by omega)]; exact h1)
    rw [e]; exact hb2
  · exact ((Upd.refl _ _).setCell _ _ (fun _ => .inr rfl)).setCell _ _ (fun _ => .inl rfl)
set_option maxHeartbeats 400000 in
theorem clear_int (w : World) (base b off : Nat) (t : TypeId) (cs : Array Value) (A : Option Addr) (n c : Nat) (xs : List Value) (most : Int)
    (hb : Cells w b t cs) (h0 : cs[off]? = some (.slice A n c)) (h1 : cs[off+1]? = some (.int .i64 most))
    (hown : w.ownsRow base 3 1 (.slice A n c) n xs) (hne : t ≠ 3) :
    Calls Try.prog 19 #[.pointer (some ⟨b, off, none⟩)] w fun e w' => e = .returned (.tuple #[]) ∧
      StkP w w' base b off t cs A n c 3 0 [] 0 := by
  have hnb : (Value.slice A n c).ownBlock ≠ some b := own_ne hown hb hne.symm
  obtain ⟨i0, hi, hz0, hz1, hz2⟩ := info_parts info_int
  have e0 := hb.cellv h0
  go_enter Try.func19, Try.ntmps19
  go_wp2_with ((with_reducible show wpList _ _ _ _ _ _); refine wpList_clear_own rfl (.tmp 5) 22 rfl base 3 i0 (.int .i64 0) 1 Try.underlying22 hi hz0 rfl (by decide) (.slice A n c) n xs rfl hown ?_)
  intro w1 hown1 hg
  have hb1 : Cells w1 b t cs := hb.grown hg hnb
  clear e0
  have e0 := hb1.cellv h0
  have e1 := hb1.cellv h1
  have f0 := hb1.frozen off
  have f1 := hb1.frozen (off + 1)
  have hown2 : w1.ownsRow base 3 1 (.slice A 0 c) 0 [] := own_none hown1
  go_wp2
  go_end0
  have hnb' : (Value.slice A 0 c).ownBlock ≠ some b := by intro e; apply hnb; cases A <;> exact e
  refine ⟨rfl, ⟨A, c, (hb1.set_ _ _).set_ _ _, own_far (own_far hown2 _ _ hnb') _ _ hnb', .inl (by cases A <;> rfl)⟩, ?_⟩
  refine (((Upd.refl _ _).grown hg ?_).setCell _ _ ?_).setCell _ _ ?_
  · intro k hk _; exact .inr hk
  · intro _; exact .inl rfl
  · intro _; exact .inl rfl

/-! ### heron/sparse.Stack[string] -/
theorem info_str : (Try.prog.info? 9).map (fun i => (i.zero, i.size, i.bytes)) = some (some (.string ByteArray.empty), 1, 16) := by kernel_rfl
theorem most_str (w : World) (b off : Nat) (m : Int) (h1 : w.cell? ⟨b, off+1, none⟩ = some (.int .i64 m)) :
    Calls Try.prog 24 #[.pointer (some ⟨b, off, none⟩)] w fun e w' => e = .returned (.int .i64 m) ∧ w = w' := by
  go_enter Try.func24, Try.ntmps24
  go_wp2
  go_ret
  exact ⟨rfl, rfl⟩
set_option maxHeartbeats 400000 in
theorem push_str (w : World) (base b off : Nat) (t : TypeId) (cs : Array Value) (A : Option Addr) (n c : Nat) (xs : List Value) (most : Int) (x : ByteArray)
    (hb : Cells w b t cs) (h0 : cs[off]? = some (.slice A n c)) (h1 : cs[off+1]? = some (.int .i64 most))
    (hown : w.ownsRow base 9 1 (.slice A n c) n xs) (hne : t ≠ 9)
    (hlen : (n + 1) * 16 ≤ 140737488355328) (hbase : base ≤ w.heap.size) :
    Calls Try.prog 12 #[.pointer (some ⟨b, off, none⟩), .string x] w fun e w' => e = .returned (.tuple #[]) ∧
      StkP w w' base b off t cs A n c 9 (n + 1) (xs ++ [.string x]) (if most < n + 1 then n + 1 else most) := by
  have hnb : (Value.slice A n c).ownBlock ≠ some b := own_ne hown hb hne.symm
  obtain ⟨i0, hi, hz0, hz1, hz2⟩ := info_parts info_str
  have e0 := hb.cellv h0
  have e1 := hb.cellv h1
  go_enter Try.func12, Try.ntmps12
  go_wp2_with (at_builtin; refine wpList_append_own_at _ rfl _ _ 36 rfl base 9 i0 (.string ByteArray.empty) 1 16 Try.underlying36 hi hz0 hz1 hz2 rfl (by decide) _ _ _ rfl (hown.alloc _) ⟨w.heap.size, 0, none⟩ 1 1 [.string x] rfl rfl ?c1 ?c2 ?c3 ?c4 ?c5 ?_)
  case c1 =>
    intro j u hj
    match j, hj with
    | 0, hj => simp at hj; subst hj; simp [Addr.add]
  case c2 => intro u hu; simp at hu; subst hu; rfl
  case c3 => unfold maxLen; omega
  case c4 => omega
  case c5 => simp; omega
  intro v' w1 hown' hg _ hat
  obtain ⟨A', c', rfl⟩ := own_shape hown'
  clear e0 e1
  have hb1 : Cells w1 b t cs := (hb.alloc _).grown hg hnb
  have e0 := hb1.cellv h0
  have e1 := hb1.cellv h1
  have f0 := hb1.frozen off
  have f1 := hb1.frozen (off + 1)
  go_wp2
  go_region
  go_end0
  have hnb' : (Value.slice A' (n + 1) c').ownBlock ≠ some b := own_ne hown' hb1 hne.symm
  refine ⟨rfl, ⟨A', c', ((hb1.set_ _ _).set_ _ _).drew, ?_, ?_⟩, ?_⟩
  · exact (own_far (own_far hown' _ _ hnb') _ _ hnb').drew
  · rcases hat with h | h
    · exact .inl h
    · exact .inr ⟨_, h, by simp⟩
  · refine Upd.drew (((((Upd.refl _ _).alloc _).grown hg ?_).setCell _ _ ?_).setCell _ _ ?_)
    · intro k hk _; exact .inr hk
    · intro _; exact .inl rfl
    · intro _; exact .inl rfl
theorem pop_str_none (w : World) (b off : Nat) (A : Option Addr) (c : Nat) (h0 : w.cell? ⟨b, off, none⟩ = some (.slice A 0 c)) :
    Calls Try.prog 16 #[.pointer (some ⟨b, off, none⟩)] w fun e w' => e = .returned (.tuple #[.string ByteArray.empty, .bool false]) ∧ w = w' := by
  go_enter Try.func16, Try.ntmps16
  go_wp2
  go_ret2
  exact ⟨rfl, rfl⟩
set_option maxHeartbeats 400000 in
theorem pop_str_some (w : World) (base b off : Nat) (t : TypeId) (cs : Array Value) (A : Option Addr) (n c : Nat) (ys : List Value) (most : Int) (x : ByteArray)
    (hb : Cells w b t cs) (hn : ys.length = n) (h0 : cs[off]? = some (.slice A (n+1) c)) (h1 : cs[off+1]? = some (.int .i64 most))
    (hown : w.ownsRow base 9 1 (.slice A (n+1) c) (n+1) (ys ++ [.string x])) (hne : t ≠ 9) (hlen : n + 1 ≤ 9223372036854775807) :
    Calls Try.prog 16 #[.pointer (some ⟨b, off, none⟩)] w fun e w' => e = .returned (.tuple #[.string x, .bool true]) ∧
      StkP w w' base b off t cs A (n+1) c 9 n ys most := by
  have hnb : (Value.slice A (n+1) c).ownBlock ≠ some b := own_ne hown hb hne.symm
  obtain ⟨g, rfl, hgs, hbg, hnc⟩ := own_last hown
  have hgb : g ≠ b := by intro e; subst e; exact hnb rfl
  have e0 := hb.cellv h0
  have f0 := hb.frozen off
  have c0 : w.cell? ⟨g, n, none⟩ = some (.string x) := by
    rw [hown.cellAt n (by omega), ← hn, List.getElem?_append_right (Nat.le_refl _)]; simp
  have g0 : w.frozen? ⟨g, n, none⟩ = false := hown.frozenAt n
  have hown' : (w.setCell ⟨g, n, none⟩ (.string ByteArray.empty)).ownsRow base 9 1 (.slice (some ⟨g, 0, none⟩) n c) n ys := by
    have := (hown.stored n (.string ByteArray.empty)).1
    rw [List.set_append_right _ _ (by omega)] at this
    exact own_pop hn (y := .string ByteArray.empty) (by simpa [hn] using this)
  have hb1 := hb.far ⟨g, n, none⟩ (.string ByteArray.empty) (fun e => hgb e.symm)
  have hcap : 0 < c := by omega
  go_enter Try.func16, Try.ntmps16
  go_wp2
  go_ret2
  have hb2 : Cells ((w.setCell ⟨g, n, none⟩ (.string ByteArray.empty)).setCell ⟨b, off, none⟩ (.slice (some ⟨g, 0, none⟩) n c)) b t (cs.setIfInBounds off (.slice (some ⟨g, 0, none⟩) n c)) := hb1.set_ _ _
  refine ⟨rfl, ⟨_, c, ?_, own_far hown' _ _ (by simpa [Value.ownBlock] using hgb), .inl rfl⟩, ?_⟩
  · have e : (cs.setIfInBounds off (.slice (some ⟨g, 0, none⟩) n c)).setIfInBounds (off+1) (.int .i64 most) = cs.setIfInBounds off (.slice (some ⟨g, 0, none⟩) n c) :=
      set_same (by rw [Array.getElem?_setIfInBounds_ne (by omega)]; exact h1)
    rw [e]; exact hb2
  · exact ((Upd.refl _ _).setCell _ _ (fun _ => .inr rfl)).setCell _ _ (fun _ => .inl rfl)
set_option maxHeartbeats 400000 in
theorem clear_str (w : World) (base b off : Nat) (t : TypeId) (cs : Array Value) (A : Option Addr) (n c : Nat) (xs : List Value) (most : Int)
    (hb : Cells w b t cs) (h0 : cs[off]? = some (.slice A n c)) (h1 : cs[off+1]? = some (.int .i64 most))
    (hown : w.ownsRow base 9 1 (.slice A n c) n xs) (hne : t ≠ 9) :
    Calls Try.prog 21 #[.pointer (some ⟨b, off, none⟩)] w fun e w' => e = .returned (.tuple #[]) ∧
      StkP w w' base b off t cs A n c 9 0 [] 0 := by
  have hnb : (Value.slice A n c).ownBlock ≠ some b := own_ne hown hb hne.symm
  obtain ⟨i0, hi, hz0, hz1, hz2⟩ := info_parts info_str
  have e0 := hb.cellv h0
  go_enter Try.func21, Try.ntmps21
  go_wp2_with ((with_reducible show wpList _ _ _ _ _ _); refine wpList_clear_own rfl (.tmp 5) 36 rfl base 9 i0 (.string ByteArray.empty) 1 Try.underlying36 hi hz0 rfl (by decide) (.slice A n c) n xs rfl hown ?_)
  intro w1 hown1 hg
  have hb1 : Cells w1 b t cs := hb.grown hg hnb
  clear e0
  have e0 := hb1.cellv h0
  have e1 := hb1.cellv h1
  have f0 := hb1.frozen off
  have f1 := hb1.frozen (off + 1)
  have hown2 : w1.ownsRow base 9 1 (.slice A 0 c) 0 [] := own_none hown1
  go_wp2
  go_end0
  have hnb' : (Value.slice A 0 c).ownBlock ≠ some b := by intro e; apply hnb; cases A <;> exact e
  refine ⟨rfl, ⟨A, c, (hb1.set_ _ _).set_ _ _, own_far (own_far hown2 _ _ hnb') _ _ hnb', .inl (by cases A <;> rfl)⟩, ?_⟩
  refine (((Upd.refl _ _).grown hg ?_).setCell _ _ ?_).setCell _ _ ?_
  · intro k hk _; exact .inr hk
  · intro _; exact .inl rfl
  · intro _; exact .inl rfl

/-! ### heron/sparse.Stack[[]int] -/
theorem info_row : (Try.prog.info? 22).map (fun i => (i.zero, i.size, i.bytes)) = some (some (.slice none 0 0), 1, 24) := by kernel_rfl
theorem len_row (w : World) (b off : Nat) (A : Option Addr) (n c : Nat) (h0 : w.cell? ⟨b, off, none⟩ = some (.slice A n c)) :
    Calls Try.prog 25 #[.pointer (some ⟨b, off, none⟩)] w fun e w' => e = .returned (.int .i64 n) ∧ w = w' := by
  go_enter Try.func25, Try.ntmps25
  go_wp2
  go_ret
  exact ⟨rfl, rfl⟩
set_option maxHeartbeats 400000 in
theorem push_row (w : World) (base b off : Nat) (t : TypeId) (cs : Array Value) (A : Option Addr) (n c : Nat) (xs : List Value) (most : Int) (X : Option Addr) (xn xc : Nat)
    (hb : Cells w b t cs) (h0 : cs[off]? = some (.slice A n c)) (h1 : cs[off+1]? = some (.int .i64 most))
    (hown : w.ownsRow base 22 1 (.slice A n c) n xs) (hne : t ≠ 22)
    (hlen : (n + 1) * 24 ≤ 140737488355328) (hbase : base ≤ w.heap.size) :
    Calls Try.prog 14 #[.pointer (some ⟨b, off, none⟩), .slice X xn xc] w fun e w' => e = .returned (.tuple #[]) ∧
      StkP w w' base b off t cs A n c 22 (n + 1) (xs ++ [.slice X xn xc]) (if most < n + 1 then n + 1 else most) := by
  have hnb : (Value.slice A n c).ownBlock ≠ some b := own_ne hown hb hne.symm
  obtain ⟨i0, hi, hz0, hz1, hz2⟩ := info_parts info_row
  have e0 := hb.cellv h0
  have e1 := hb.cellv h1
  go_enter Try.func14, Try.ntmps14
  go_wp2_with (at_builtin; refine wpList_append_own_at _ rfl _ _ 39 rfl base 22 i0 (.slice none 0 0) 1 24 Try.underlying39 hi hz0 hz1 hz2 rfl (by decide) _ _ _ rfl (hown.alloc _) ⟨w.heap.size, 0, none⟩ 1 1 [.slice X xn xc] rfl rfl ?c1 ?c2 ?c3 ?c4 ?c5 ?_)
  case c1 =>
    intro j u hj
    match j, hj with
    | 0, hj => simp at hj; subst hj; simp [Addr.add]
  case c2 => intro u hu; simp at hu; subst hu; rfl
  case c3 => unfold maxLen; omega
  case c4 => omega
  case c5 => simp; omega
  intro v' w1 hown' hg _ hat
  obtain ⟨A', c', rfl⟩ := own_shape hown'
  clear e0 e1
  have hb1 : Cells w1 b t cs := (hb.alloc _).grown hg hnb
  have e0 := hb1.cellv h0
  have e1 := hb1.cellv h1
  have f0 := hb1.frozen off
  have f1 := hb1.frozen (off + 1)
  go_wp2
  go_region
  go_end0
  have hnb' : (Value.slice A' (n + 1) c').ownBlock ≠ some b := own_ne hown' hb1 hne.symm
  refine ⟨rfl, ⟨A', c', ((hb1.set_ _ _).set_ _ _).drew, ?_, ?_⟩, ?_⟩
  · exact (own_far (own_far hown' _ _ hnb') _ _ hnb').drew
  · rcases hat with h | h
    · exact .inl h
    · exact .inr ⟨_, h, by simp⟩
  · refine Upd.drew (((((Upd.refl _ _).alloc _).grown hg ?_).setCell _ _ ?_).setCell _ _ ?_)
    · intro k hk _; exact .inr hk
    · intro _; exact .inl rfl
    · intro _; exact .inl rfl
theorem pop_row_none (w : World) (b off : Nat) (A : Option Addr) (c : Nat) (h0 : w.cell? ⟨b, off, none⟩ = some (.slice A 0 c)) :
    Calls Try.prog 17 #[.pointer (some ⟨b, off, none⟩)] w fun e w' => e = .returned (.tuple #[.slice none 0 0, .bool false]) ∧ w = w' := by
  go_enter Try.func17, Try.ntmps17
  go_wp2
  go_ret2
  exact ⟨rfl, rfl⟩
set_option maxHeartbeats 400000 in
theorem pop_row_some (w : World) (base b off : Nat) (t : TypeId) (cs : Array Value) (A : Option Addr) (n c : Nat) (ys : List Value) (most : Int) (X : Option Addr) (xn xc : Nat)
    (hb : Cells w b t cs) (hn : ys.length = n) (h0 : cs[off]? = some (.slice A (n+1) c)) (h1 : cs[off+1]? = some (.int .i64 most))
    (hown : w.ownsRow base 22 1 (.slice A (n+1) c) (n+1) (ys ++ [.slice X xn xc])) (hne : t ≠ 22) (hlen : n + 1 ≤ 9223372036854775807) :
    Calls Try.prog 17 #[.pointer (some ⟨b, off, none⟩)] w fun e w' => e = .returned (.tuple #[.slice X xn xc, .bool true]) ∧
      StkP w w' base b off t cs A (n+1) c 22 n ys most := by
  have hnb : (Value.slice A (n+1) c).ownBlock ≠ some b := own_ne hown hb hne.symm
  obtain ⟨g, rfl, hgs, hbg, hnc⟩ := own_last hown
  have hgb : g ≠ b := by intro e; subst e; exact hnb rfl
  have e0 := hb.cellv h0
  have f0 := hb.frozen off
  have c0 : w.cell? ⟨g, n, none⟩ = some (.slice X xn xc) := by
    rw [hown.cellAt n (by omega), ← hn, List.getElem?_append_right (Nat.le_refl _)]; simp
  have g0 : w.frozen? ⟨g, n, none⟩ = false := hown.frozenAt n
  have hown' : (w.setCell ⟨g, n, none⟩ (.slice none 0 0)).ownsRow base 22 1 (.slice (some ⟨g, 0, none⟩) n c) n ys := by
    have := (hown.stored n (.slice none 0 0)).1
    rw [List.set_append_right _ _ (by omega)] at this
    exact own_pop hn (y := .slice none 0 0) (by simpa [hn] using this)
  have hb1 := hb.far ⟨g, n, none⟩ (.slice none 0 0) (fun e => hgb e.symm)
  have hcap : 0 < c := by omega
  go_enter Try.func17, Try.ntmps17
  go_wp2
  go_ret2
  have hb2 : Cells ((w.setCell ⟨g, n, none⟩ (.slice none 0 0)).setCell ⟨b, off, none⟩ (.slice (some ⟨g, 0, none⟩) n c)) b t (cs.setIfInBounds off (.slice (some ⟨g, 0, none⟩) n c)) := hb1.set_ _ _
  refine ⟨rfl, ⟨_, c, ?_, own_far hown' _ _ (by simpa [Value.ownBlock] using hgb), .inl rfl⟩, ?_⟩
  · have e : (cs.setIfInBounds off (.slice (some ⟨g, 0, none⟩) n c)).setIfInBounds (off+1) (.int .i64 most) = cs.setIfInBounds off (.slice (some ⟨g, 0, none⟩) n c) :=
      set_same (by rw [Array.getElem?_setIfInBounds_ne (by omega)]; exact h1)
    rw [e]; exact hb2
  · exact ((Upd.refl _ _).setCell _ _ (fun _ => .inr rfl)).setCell _ _ (fun _ => .inl rfl)
set_option maxHeartbeats 400000 in
theorem clear_row (w : World) (base b off : Nat) (t : TypeId) (cs : Array Value) (A : Option Addr) (n c : Nat) (xs : List Value) (most : Int)
    (hb : Cells w b t cs) (h0 : cs[off]? = some (.slice A n c)) (h1 : cs[off+1]? = some (.int .i64 most))
    (hown : w.ownsRow base 22 1 (.slice A n c) n xs) (hne : t ≠ 22) :
    Calls Try.prog 22 #[.pointer (some ⟨b, off, none⟩)] w fun e w' => e = .returned (.tuple #[]) ∧
      StkP w w' base b off t cs A n c 22 0 [] 0 := by
  have hnb : (Value.slice A n c).ownBlock ≠ some b := own_ne hown hb hne.symm
  obtain ⟨i0, hi, hz0, hz1, hz2⟩ := info_parts info_row
  have e0 := hb.cellv h0
  go_enter Try.func22, Try.ntmps22
  go_wp2_with ((with_reducible show wpList _ _ _ _ _ _); refine wpList_clear_own rfl (.tmp 5) 39 rfl base 22 i0 (.slice none 0 0) 1 Try.underlying39 hi hz0 rfl (by decide) (.slice A n c) n xs rfl hown ?_)
  intro w1 hown1 hg
  have hb1 : Cells w1 b t cs := hb.grown hg hnb
  clear e0
  have e0 := hb1.cellv h0
  have e1 := hb1.cellv h1
  have f0 := hb1.frozen off
  have f1 := hb1.frozen (off + 1)
  have hown2 : w1.ownsRow base 22 1 (.slice A 0 c) 0 [] := own_none hown1
  go_wp2
  go_end0
  have hnb' : (Value.slice A 0 c).ownBlock ≠ some b := by intro e; apply hnb; cases A <;> exact e
  refine ⟨rfl, ⟨A, c, (hb1.set_ _ _).set_ _ _, own_far (own_far hown2 _ _ hnb') _ _ hnb', .inl (by cases A <;> rfl)⟩, ?_⟩
  refine (((Upd.refl _ _).grown hg ?_).setCell _ _ ?_).setCell _ _ ?_
  · intro k hk _; exact .inr hk
  · intro _; exact .inl rfl
  · intro _; exact .inl rfl

/-! ### heron/heronref03.Stack -/
theorem info_ref : (Try.prog.info? 3).map (fun i => (i.zero, i.size, i.bytes)) = some (some (.int .i64 0), 1, 8) := by kernel_rfl
theorem len_ref (w : World) (b off : Nat) (A : Option Addr) (n c : Nat) (h0 : w.cell? ⟨b, off, none⟩ = some (.slice A n c)) :
    Calls Try.prog 18 #[.pointer (some ⟨b, off, none⟩)] w fun e w' => e = .returned (.int .i64 n) ∧ w = w' := by
  go_enter Try.func18, Try.ntmps18
  go_wp2
  go_ret
  exact ⟨rfl, rfl⟩
theorem most_ref (w : World) (b off : Nat) (m : Int) (h1 : w.cell? ⟨b, off+1, none⟩ = some (.int .i64 m)) :
    Calls Try.prog 23 #[.pointer (some ⟨b, off, none⟩)] w fun e w' => e = .returned (.int .i64 m) ∧ w = w' := by
  go_enter Try.func23, Try.ntmps23
  go_wp2
  go_ret
  exact ⟨rfl, rfl⟩
set_option maxHeartbeats 400000 in
theorem push_ref (w : World) (base b off : Nat) (t : TypeId) (cs : Array Value) (A : Option Addr) (n c : Nat) (xs : List Value) (most : Int) (x : Int)
    (hb : Cells w b t cs) (h0 : cs[off]? = some (.slice A n c)) (h1 : cs[off+1]? = some (.int .i64 most))
    (hown : w.ownsRow base 3 1 (.slice A n c) n xs) (hne : t ≠ 3)
    (hlen : (n + 1) * 8 ≤ 140737488355328) (hbase : base ≤ w.heap.size) :
    Calls Try.prog 11 #[.pointer (some ⟨b, off, none⟩), .int .i64 x] w fun e w' => e = .returned (.tuple #[]) ∧
      StkP w w' base b off t cs A n c 3 (n + 1) (xs ++ [.int .i64 x]) (if most < n + 1 then n + 1 else most) := by
  have hnb : (Value.slice A n c).ownBlock ≠ some b := own_ne hown hb hne.symm
  obtain ⟨i0, hi, hz0, hz1, hz2⟩ := info_parts info_ref
  have e0 := hb.cellv h0
  have e1 := hb.cellv h1
  go_enter Try.func11, Try.ntmps11
  go_wp2_with (at_builtin; refine wpList_append_own_at _ rfl _ _ 22 rfl base 3 i0 (.int .i64 0) 1 8 Try.underlying22 hi hz0 hz1 hz2 rfl (by decide) _ _ _ rfl (hown.alloc _) ⟨w.heap.size, 0, none⟩ 1 1 [.int .i64 x] rfl rfl ?c1 ?c2 ?c3 ?c4 ?c5 ?_)
  case c1 =>
    intro j u hj
    match j, hj with
    | 0, hj => simp at hj; subst hj; simp [Addr.add]
  case c2 => intro u hu; simp at hu; subst hu; rfl
  case c3 => unfold maxLen; omega
  case c4 => omega
  case c5 => simp; omega
  intro v' w1 hown' hg _ hat
  obtain ⟨A', c', rfl⟩ := own_shape hown'
  clear e0 e1
  have hb1 : Cells w1 b t cs := (hb.alloc _).grown hg hnb
  have e0 := hb1.cellv h0
  have e1 := hb1.cellv h1
  have f0 := hb1.frozen off
  have f1 := hb1.frozen (off + 1)
  go_wp2
  go_region
  go_end0
  have hnb' : (Value.slice A' (n + 1) c').ownBlock ≠ some b := own_ne hown' hb1 hne.symm
  refine ⟨rfl, ⟨A', c', ((hb1.set_ _ _).set_ _ _).drew, ?_, ?_⟩, ?_⟩
  · exact (own_far (own_far hown' _ _ hnb') _ _ hnb').drew
  · rcases hat with h | h
    · exact .inl h
    · exact .inr ⟨_, h, by simp⟩
  · refine Upd.drew (((((Upd.refl _ _).alloc _).grown hg ?_).setCell _ _ ?_).setCell _ _ ?_)
    · intro k hk _; exact .inr hk
    · intro _; exact .inl rfl
    · intro _; exact .inl rfl
theorem pop_ref_none (w : World) (b off : Nat) (A : Option Addr) (c : Nat) (h0 : w.cell? ⟨b, off, none⟩ = some (.slice A 0 c)) :
    Calls Try.prog 15 #[.pointer (some ⟨b, off, none⟩)] w fun e w' => e = .returned (.tuple #[.int .i64 0, .bool false]) ∧ w = w' := by
  go_enter Try.func15, Try.ntmps15
  go_wp2
  go_ret2
  exact ⟨rfl, rfl⟩
set_option maxHeartbeats 400000 in
theorem pop_ref_some (w : World) (base b off : Nat) (t : TypeId) (cs : Array Value) (A : Option Addr) (n c : Nat) (ys : List Value) (most : Int) (x : Int)
    (hb : Cells w b t cs) (hn : ys.length = n) (h0 : cs[off]? = some (.slice A (n+1) c)) (h1 : cs[off+1]? = some (.int .i64 most))
    (hown : w.ownsRow base 3 1 (.slice A (n+1) c) (n+1) (ys ++ [.int .i64 x])) (hne : t ≠ 3) (hlen : n + 1 ≤ 9223372036854775807) :
    Calls Try.prog 15 #[.pointer (some ⟨b, off, none⟩)] w fun e w' => e = .returned (.tuple #[.int .i64 x, .bool true]) ∧
      StkP w w' base b off t cs A (n+1) c 3 n ys most := by
  have hnb : (Value.slice A (n+1) c).ownBlock ≠ some b := own_ne hown hb hne.symm
  obtain ⟨g, rfl, hgs, hbg, hnc⟩ := own_last hown
  have hgb : g ≠ b := by intro e; subst e; exact hnb rfl
  have e0 := hb.cellv h0
  have f0 := hb.frozen off
  have c0 : w.cell? ⟨g, n, none⟩ = some (.int .i64 x) := by
    rw [hown.cellAt n (by omega), ← hn, List.getElem?_append_right (Nat.le_refl _)]; simp
  have hown' := own_pop hn hown
  have hcap : 0 < c := by omega
  go_enter Try.func15, Try.ntmps15
  go_wp2
  go_ret2
  have hb2 : Cells (w.setCell ⟨b, off, none⟩ (.slice (some ⟨g, 0, none⟩) n c)) b t (cs.setIfInBounds off (.slice (some ⟨g, 0, none⟩) n c)) := hb.set_ _ _
  refine ⟨rfl, ⟨_, c, ?_, own_far hown' _ _ (by simpa [Value.ownBlock] using hgb), .inl rfl⟩, ?_⟩
  · have e : (cs.setIfInBounds off (.slice (some ⟨g, 0, none⟩) n c)).setIfInBounds (off+1) (.int .i64 most) = cs.setIfInBounds off (.slice (some ⟨g, 0, none⟩) n c) :=
      set_same (by rw [Array.getElem?_setIfInBounds_ne (by omega)]; exact h1)
    rw [e]; exact hb2
  · exact (Upd.refl _ _).setCell _ _ (fun _ => .inl rfl)
set_option maxHeartbeats 400000 in
theorem clear_ref (w : World) (base b off : Nat) (t : TypeId) (cs : Array Value) (A : Option Addr) (n c : Nat) (most : Int)
    (hb : Cells w b t cs) (h0 : cs[off]? = some (.slice A n c)) (h1 : cs[off+1]? = some (.int .i64 most)) :
    Calls Try.prog 20 #[.pointer (some ⟨b, off, none⟩)] w fun e w' => e = .returned (.tuple #[]) ∧
      Cells w' b t ((cs.setIfInBounds off (.slice none 0 0)).setIfInBounds (off+1) (.int .i64 0)) ∧ Upd (fun k => k = b) w w' := by
  have e0 := hb.cellv h0
  have e1 := hb.cellv h1
  have f0 := hb.frozen off
  have f1 := hb.frozen (off+1)
  go_enter Try.func20, Try.ntmps20
  go_wp2
  go_end0
  refine ⟨rfl, (hb.set_ _ _).set_ _ _, ?_⟩
  refine ((Upd.refl (fun k => k = b) _).setCell _ _ ?_).setCell _ _ ?_ <;> exact fun _ => rfl
end Go.Proofs.Ytpfhljcihfabbaa

