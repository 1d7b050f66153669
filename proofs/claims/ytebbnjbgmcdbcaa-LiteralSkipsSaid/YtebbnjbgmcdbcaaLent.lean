/-
  The walks of heronlaw15's sameInts, lent, back; of the document's finder.
-/
import Derived.Test.YtebbnjbgmcdbcaaAll
import Derived.Laws.CopyOwn
namespace Go.Proofs.Ytebbnjbgmcdbcaa
open Go.RowKit
set_option linter.unusedVariables false

theorem reads_drewN {w : World} {S : Nat → Prop} {size n : Nat} {A : Option Addr} {xs : List Value} (h : Reads w S size A n xs) (q : Nat) : Reads (w.drewN q) S size A n xs := h.upd ((Upd.refl Nob w).drewN q) (fun _ _ => not_nob)

set_option maxHeartbeats 1000000 in
theorem same_any (w : World) (S1 S2 : Nat → Prop) (A B : Option Addr) (n m c d : Nat) (xs ys : List Int) (hx : Reads w S1 1 A n (intv xs)) (hy : Reads w S2 1 B m (intv ys)) (hn : n ≤ 140737488355328) :
    Calls Try.prog 15 #[.slice A n c, .slice B m d] w fun e w' => e = .returned (.bool (decide (xs = ys))) ∧ ∃ q, w' = w.drewN q := by
  obtain rfl : xs.length = n := by have := hx.1; simpa [intv] using this
  obtain rfl : ys.length = m := by have := hy.1; simpa [intv] using this
  by_cases hl : xs.length = ys.length
  rotate_left
  · have hv : decide (xs = ys) = false := decide_eq_false (fun e => hl (by rw [e]))
    rw [hv]; clear hv
    have hlb : ((xs.length : Int) == (ys.length : Int)) = false := beq_eq_false_iff_ne.2 (by omega)
    have hlb2 : (xs.length == ys.length) = false := beq_eq_false_iff_ne.2 hl
    go_enter Try.func15, Try.ntmps15
    go_wp2_with fail
    go_ret
    exact ⟨rfl, 0, rfl⟩
  have HX := hide hx
  have HY := hide hy
  have HL := hide hl
  clear hx hy
  go_enter Try.func15, Try.ntmps15
  go_wp2_with fail
  go_loopg [5] xs.length (fun gk v5 wr => ∃ k q : Nat, k + gk = xs.length ∧ v5 = .int .i64 (k : Int) ∧ wr = w.drewN q ∧ ∀ j, j < k → xs[j]? = ys[j]?)
  case atStart => exact ⟨0, 0, by omega, rfl, rfl, fun j hj => by omega⟩
  case round =>
    obtain ⟨k, q, hk, rfl, rfl, hj⟩ := hrel
    have HJ := hide hj
    clear hj
    by_cases hlt : k < xs.length
    · obtain ⟨ad, x, rfl, hxk, hcx⟩ := HX.out.int1 hlt
      obtain ⟨bd, y, rfl, hyk, hcy⟩ := HY.out.int1 (k := k) (by have := HL.out; omega)
      have g1 : (k : Int) < (xs.length : Int) := by omega
      have g2 : (k : Int) < (ys.length : Int) := by have := HL.out; omega
      have HXK := hide hxk
      have HYK := hide hyk
      clear hxk hyk hl
      by_cases hxy : x = y
      · subst hxy
        go_wp2_with fail
        go_quiet (fail)
        go_wp2_with fail
        go_roundg (xs.length - (k + 1))
        case measure => omega
        case rel => exact ⟨k + 1, _, by omega, by go_num, by first | rfl | rw [World.drewN_drewN], fun j hj => (by rcases (by omega : j < k ∨ j = k) with h | h; exact HJ.out j h; subst h; rw [HXK.out, HYK.out])⟩
      · have hxe : (x == y) = false := by simpa using hxy
        have hv : decide (xs = ys) = false := decide_eq_false (fun e => by
          have h1 := HXK.out
          rw [e, HYK.out] at h1
          injection h1 with h1
          exact hxy h1.symm)
        have HV := hide hv
        clear hv
        go_wp2_with fail
        go_quiet (fail)
        go_wp2_with fail
        go_ret
        exact ⟨congrArg Ending.returned (congrArg Value.bool HV.out.symm), _, by first | rfl | rw [World.drewN_drewN]⟩
    · have hkn : k = xs.length := by omega
      have hv : decide (xs = ys) = true := decide_eq_true (List.ext_getElem? fun j => by
        by_cases hj : j < k
        · exact HJ.out j hj
        · rw [List.getElem?_eq_none (by omega), List.getElem?_eq_none (by omega)])
      have HV := hide hv
      clear hk hv
      subst hkn
      go_wp2_with fail
      go_ret
      exact ⟨congrArg Ending.returned (congrArg Value.bool HV.out.symm), q, rfl⟩

/-- a row with the numbers ys and the two marks behind them -/
def marked (ys : List Int) : List Value := intv (ys ++ [-71, -72])
def LentPost (w : World) (xs : List Int) (n : Nat) (e : Ending) (w' : World) : Prop := ∃ g, e = .returned (.slice (some ⟨g, 0, none⟩) (n + 2) (n + 2)) ∧ w'.ownsRow w.heap.size 3 1 (.slice (some ⟨g, 0, none⟩) (n + 2) (n + 2)) (n + 2) (marked xs) ∧ Upd Nob w w'

theorem zeros_two (xs : List Int) (n : Nat) : intv xs ++ (List.replicate (n + 2) (Value.int .i64 0)).drop (n * 1) = intv (xs ++ [0, 0]) := by
  rw [intv_append, List.drop_replicate, Nat.mul_one]
  congr 1
  rw [show n + 2 - n = 2 by omega]
  rfl
theorem mark_cells {w2 : World} {base g n : Nat} {xs : List Int} (hl : xs.length = n) (o2 : w2.ownsRow base 3 1 (.slice (some ⟨g, 0, none⟩) (n + 2) (n + 2)) (n + 2) (intv xs ++ (List.replicate (n + 2) (Value.int .i64 0)).drop (n * 1))) :
    w2.cell? ⟨g, n, none⟩ = some (.int .i64 0) ∧ w2.frozen? ⟨g, n, none⟩ = false ∧ w2.cell? ⟨g, n + 1, none⟩ = some (.int .i64 0) ∧ w2.frozen? ⟨g, n + 1, none⟩ = false := by
  rw [zeros_two] at o2
  refine ⟨?_, o2.frozenAt n, ?_, o2.frozenAt (n + 1)⟩
  · rw [o2.cellAt n (by omega), intv_append, List.getElem?_append_right (by simp [intv]; omega)]
    simp [intv, hl]
  · rw [o2.cellAt (n + 1) (by omega), intv_append, List.getElem?_append_right (by simp [intv]; omega)]
    simp [intv, hl]

set_option maxHeartbeats 1000000 in
theorem lent_any (w : World) (S : Nat → Prop) (A : Option Addr) (n c : Nat) (xs : List Int) (hx : Reads w S 1 A n (intv xs)) (hn : n * 8 ≤ 140737488351232) :
    Calls Try.prog 18 #[.slice A n c] w (LentPost w xs n) := by
  obtain ⟨i0, hi0, hz0, hz1, hz2⟩ := info_parts info_int
  have hl : xs.length = n := by have := hx.1; simpa [intv] using this
  go_enter Try.func18, Try.ntmps18
  have hz : (madeCells (Value.int .i64 0).cells ((n + 2) * 1)).toList = List.replicate (n + 2) (.int .i64 0) := by
    have : (Value.int .i64 0).cells = #[Value.int .i64 0] := rfl
    rw [this, toList_madeCells_one, Nat.mul_one]
  have HZ := hide hz
  have HX := hide hx
  clear hz hx
  go_wp2_with (first
    | (at_make; refine wpList_make_full w rfl (.tmp 6) (.tmp 6) 29 rfl w.heap.size 3 i0 (.int .i64 0) 1 Try.underlying29 hi0 hz0 hz1 .i64 .i64 ((n : Int) + 2) ((n : Int) + 2) (n + 2) rfl rfl (by omega) (by omega) (by rw [hz2]; omega) (by unfold maxLen; omega) (Nat.le_refl _) ?_; intro w1 o1 hg1; rw [HZ.out] at o1; have hr1 := HX.out.upd ((Upd.refl Nob w).grown hg1 (by simp)) (fun _ _ => not_nob))
    | ((with_reducible show wpList _ _ _ _ _ _); refine wpList_copy_reads rfl (.tmp 8) (.tmp 9) 29 29 rfl w.heap.size 3 i0 1 Try.underlying29 hi0 hz1 w.heap.size (n + 2) (n + 2) _ rfl o1 S A n c (intv xs) rfl hr1 (intv_one xs) (by omega) ?_; intro w2 o2 hg2; obtain ⟨a0, a1, a2, a3⟩ := mark_cells hl o2))
  go_ret
  have hbs : w.heap.size < w2.heap.size := (o2.lt _ rfl).2
  have hd : intv xs ++ (List.replicate (n + 2) (Value.int .i64 0)).drop (n * 1) = intv (xs ++ [0, 0]) := zeros_two xs n
  rw [hd] at o2
  have o3 := (((o2.stored n (.int .i64 (-71))).1.stored (n + 1) (.int .i64 (-72))).1)
  have e3 : ((intv (xs ++ [0, 0])).set n (.int .i64 (-71))).set (n + 1) (.int .i64 (-72)) = marked xs := by
    have hil : (intv xs).length = n := by simp [intv, hl]
    unfold marked
    rw [intv_append, intv_append, List.set_append_right _ _ (by omega), List.set_append_right _ _ (by omega), hil]
    simp [intv]
  rw [e3] at o3
  refine ⟨_, rfl, o3, ?_⟩
  refine ((((Upd.refl Nob w).grown hg1 (by simp)).grown hg2 ?_).setCell _ _ ?_).setCell _ _ ?_
  · intro k hk hlt; injection hk with hk; omega
  · intro hlt; simp at hlt
  · intro hlt; simp at hlt

/-- the marked row's first n numbers read as a list -/
theorem marked_reads {w : World} {base g n : Nat} {ys : List Int} (hl : ys.length = n) (o : w.ownsRow base 3 1 (.slice (some ⟨g, 0, none⟩) (n + 2) (n + 2)) (n + 2) (marked ys)) :
    Reads w (fun k => k = g) 1 (some ⟨g, 0, none⟩) n (intv ys) := by
  refine ⟨by simp [intv, hl], fun hn => ⟨_, rfl, (o.lt g rfl).2, rfl, fun j u hj => ?_⟩⟩
  rw [add_lit_, Nat.zero_add]
  have hjl : j < n := by have := (List.getElem?_eq_some_iff.1 hj).1; simpa [intv, hl] using this
  rw [o.cellAt j (by omega)]
  unfold marked
  rw [intv_append, List.getElem?_append_left (by simp [intv, hl]; omega)]
  exact hj
theorem marked_marks {w : World} {base g n : Nat} {ys : List Int} (hl : ys.length = n) (o : w.ownsRow base 3 1 (.slice (some ⟨g, 0, none⟩) (n + 2) (n + 2)) (n + 2) (marked ys)) :
    w.cell? ⟨g, n, none⟩ = some (.int .i64 (-71)) ∧ w.cell? ⟨g, n + 1, none⟩ = some (.int .i64 (-72)) := by
  unfold marked at o
  refine ⟨?_, ?_⟩
  · rw [o.cellAt n (by omega), intv_append, List.getElem?_append_right (by simp [intv]; omega)]
    simp [intv, hl]
  · rw [o.cellAt (n + 1) (by omega), intv_append, List.getElem?_append_right (by simp [intv]; omega)]
    simp [intv, hl]

set_option maxHeartbeats 2000000 in
theorem back_any (w : World) (base g : Nat) (S : Nat → Prop) (A : Option Addr) (n c : Nat) (xs : List Int) (hx : Reads w S 1 A n (intv xs)) (o : w.ownsRow base 3 1 (.slice (some ⟨g, 0, none⟩) (n + 2) (n + 2)) (n + 2) (marked xs)) (hn : n * 8 ≤ 140737488351232) :
    Calls Try.prog 20 #[.slice (some ⟨g, 0, none⟩) (n + 2) (n + 2), .slice A n c] w fun e w' => e = .returned (.bool true) ∧ Upd (fun k => k = g) w w' := by
  have hl : xs.length = n := by have := hx.1; simpa [intv] using this
  have hr := marked_reads hl o
  obtain ⟨m0, m1⟩ := marked_marks hl o
  have HX := hide hx
  have HR := hide hr
  have HO := hide o
  have k1 : (n : Int) ≤ (n : Int) + 2 := by omega
  clear hx hr o
  go_enter Try.func20, Try.ntmps20
  go_wp2_with (go_at_call 15; refine (same_any w _ _ (some ⟨g, 0, none⟩) A n n (n + 2) c xs xs HR.out HX.out (by omega)).mono ?_; rintro e w1 ⟨he, q1, rfl⟩; rw [decide_eq_true rfl] at he; subst he)
  go_loopg [7] (n + 2) (fun gk v7 wr => ∃ (k : Nat) (ys : List Value), k + gk = n + 2 ∧ v7 = .int .i64 (k : Int) ∧ wr.ownsRow base 3 1 (.slice (some ⟨g, 0, none⟩) (n + 2) (n + 2)) (n + 2) ys ∧ Upd (fun k => k = g) w wr)
  case atStart => exact ⟨0, _, by omega, rfl, HO.out, (Upd.refl _ w).drewN q1⟩
  case round =>
    obtain ⟨k, ys, hk, rfl, ho, hU⟩ := hrel
    have HOK := hide ho
    have HU := hide hU
    by_cases hlt : k < n + 2
    · have fz : wr.frozen? ⟨g, k, none⟩ = false := ho.frozenAt k
      obtain ⟨u, cu⟩ : ∃ u, wr.cell? ⟨g, k, none⟩ = some u := by
        have h1 := ho.cellAt k (by omega)
        rw [List.getElem?_eq_getElem (by have := ho.1; omega)] at h1
        exact ⟨_, h1⟩
      have g1 : (k : Int) < (n : Int) + 2 := by omega
      clear ho hU
      go_wp2_with fail
      go_roundg (n + 2 - (k + 1))
      case measure => omega
      case rel => exact ⟨k + 1, _, by omega, by go_num, (HOK.out.stored k (.int .i64 97)).1, HU.out.setCell _ _ (fun _ => rfl)⟩
    · have g1 : ¬ (k : Int) < (n : Int) + 2 := by omega
      clear ho hU
      go_wp2_with fail
      go_ret
      exact ⟨rfl, HU.out⟩

/-! ### the document's finder -/
structure RefR (w : World) (base rb : Nat) (A : Option Addr) (c : Nat) (P : List Int) : Prop where
  blk : Cells w rb 67 #[.slice A P.length c]
  own : w.ownsRow base 3 1 (.slice A P.length c) P.length (intv P)
theorem RefR.upd {F : Nat → Prop} {w w' : World} {base rb : Nat} {A : Option Addr} {c : Nat} {P : List Int} (h : RefR w base rb A c P) (hU : Upd F w w') (hF : ∀ k, k < w.heap.size → ¬ F k) : RefR w' base rb A c P :=
  ⟨h.blk.upd hU (hF _ h.blk.lt), own_upd h.own hU (fun k hk => hF k (h.own.lt k hk).2)⟩
theorem FindR.old {F : Nat → Prop} {w w' : World} {base fb bb : Nat} {A : Option Addr} {c : Nat} {P back : List Int} (h : FindR w base fb bb A c P back) (hU : Upd F w w') (hF : ∀ k, k < w.heap.size → ¬ F k) : FindR w' base fb bb A c P back :=
  ⟨h.blk.upd hU (hF _ h.blk.lt), own_upd h.own hU (fun k hk => hF k (h.own.lt k hk).2), own_upd h.at_ hU (fun k hk => hF k (h.at_.lt k hk).2), h.apart, h.low⟩

def RefPost (w : World) (P : List Int) (e : Ending) (w' : World) : Prop := ∃ rb A c, e = .returned (.tuple #[.pointer (some ⟨rb, 0, none⟩), .int .i64 0]) ∧ RefR w' w.heap.size rb A c P ∧ Upd Nob w w'

theorem ref_long (w : World) (A : Option Addr) (n c : Nat) (hn : 4194304 < n) :
    Calls Try.prog 21 #[.slice A n c] w fun e w' => e = .returned (.tuple #[.pointer none, .int .i64 2]) ∧ w = w' := by
  go_enter Try.func21, Try.ntmps21
  go_wp2_with fail
  go_ret2
  exact ⟨rfl, rfl⟩

set_option maxHeartbeats 1000000 in
theorem ref_new (w : World) (S : Nat → Prop) (A : Option Addr) (n c : Nat) (P : List Int) (hr : Reads w S 1 A n (intv P)) (hn : n ≤ 4194304) :
    Calls Try.prog 21 #[.slice A n c] w (RefPost w P) := by
  obtain rfl : P.length = n := by have := hr.1; simpa [intv] using this
  obtain ⟨i0, hi0, hz0, hz1, hz2⟩ := info_parts info_int
  have hB : (w.alloc (.cells #[] 3)).ownsRow w.heap.size 3 1 (.slice (some ⟨w.heap.size, 0, none⟩) 0 0) 0 [] := World.ownsRow_lit (size := 1) w #[] 0 (Nat.le_refl _) (by unfold maxLen; omega) rfl
  have HR := hide hr
  have HB := hide hB
  clear hr hB
  go_enter Try.func21, Try.ntmps21
  go_wp2_with (first
    | (at_builtin; refine wpList_append_reads rfl (.tmp 7) (.tmp 8) 29 rfl w.heap.size 3 i0 (.int .i64 0) 1 8 Try.underlying29 hi0 hz0 hz1 hz2 rfl (by decide) (.slice (some ⟨w.heap.size, 0, none⟩) 0 0) 0 [] rfl HB.out S A P.length c (intv P) rfl (HR.out.alloc _) (intv_one P) (by unfold maxLen; omega) (by omega) (by simp) ?_; intro v2 w2 o2 g2 a2; simp only [Nat.zero_add, List.nil_append] at o2; obtain ⟨A2, c2, rfl⟩ := own_shape o2)
    | fail)
  go_ret2
  have hU2 : Upd Nob w w2 := ((Upd.refl Nob w).alloc _).grown g2 (fun k hk h => by injection hk with hk; change w.heap.size = k at hk; omega)
  exact ⟨w2.heap.size, A2, c2, rfl, ⟨Cells.new _ _ _, o2.alloc _⟩, hU2.alloc _⟩

set_option maxHeartbeats 1000000 in
theorem stands_any (w : World) (base rb : Nat) (A : Option Addr) (c : Nat) (P : List Int) (hF : RefR w base rb A c P) (hP : P.length ≤ 4194304)
    (S : Nat → Prop) (T : Option Addr) (m d : Nat) (text : List Int) (hr : Reads w S 1 T m (intv text)) (hm : m ≤ 140737488355328) (i : Nat) (hi : i ≤ m) :
    Calls Try.prog 28 #[.pointer (some ⟨rb, 0, none⟩), .slice T m d, .int .i64 (i : Int)] w fun e w' => e = .returned (.bool (standsB P text i)) ∧ ∃ q, w' = w.drewN q := by
  obtain rfl : text.length = m := by have := hr.1; simpa [intv] using this
  have e0 : w.cell? ⟨rb, 0, none⟩ = some (.slice A P.length c) := hF.blk.cellv rfl
  have hlit := Reads.of_own hF.own
  by_cases hl : text.length - i < P.length
  · have hv : standsB P text i = false := by
      rcases h : standsB P text i with _ | _
      · rfl
      · have := stands_len h; omega
    have HV := hide hv
    have g1 : (text.length : Int) - (i : Int) < (P.length : Int) := by omega
    clear hv hlit
    go_enter Try.func28, Try.ntmps28
    go_wp2_with fail
    go_ret
    exact ⟨congrArg Ending.returned (congrArg Value.bool HV.out.symm), 0, rfl⟩
  have HR := hide hr
  have HL := hide hlit
  have H0 := hide (told_zero (P := P) (T := text) (i := i) (b := true) (decide_eq_true (by omega)).symm)
  have g1 : ¬ (text.length : Int) - (i : Int) < (P.length : Int) := by omega
  clear hr hlit hF
  go_enter Try.func28, Try.ntmps28
  go_wp2_with fail
  go_loopg [7] P.length (fun gk v7 wr => ∃ k q : Nat, k + gk = P.length ∧ v7 = .int .i64 (k : Int) ∧ wr = w.drewN q ∧ Told P text i k true)
  case atStart => exact ⟨0, 0, by omega, rfl, rfl, H0.out⟩
  case round =>
    obtain ⟨k, q, hk, rfl, rfl, ht⟩ := hrel
    have HT := hide ht
    clear ht
    by_cases hlt : k < P.length
    · obtain ⟨ad, x, rfl, hx, hcx⟩ := HL.out.int1 hlt
      obtain ⟨td, y, rfl, hy, hcy⟩ := HR.out.int1 (k := i + k) (by omega)
      have HM := hide (told_more HT.out hy hx)
      have g2 : (k : Int) < (P.length : Int) := by omega
      have g3 : (i : Int) + (k : Int) < (text.length : Int) := by omega
      clear hx hy
      by_cases hxy : y = x
      · subst hxy
        have HM2 := hide (show Told P text i (k + 1) true by have := HM.out; simpa using this)
        go_wp2_with fail
        go_quiet (fail)
        go_wp2_with fail
        go_roundg (P.length - (k + 1))
        case measure => omega
        case rel => exact ⟨k + 1, _, by omega, by go_num, by first | rfl | rw [World.drewN_drewN], HM2.out⟩
      · have hxe : (y == x) = false := by simpa using hxy
        have HV := hide (told_stop hi (k := k + 1) (by omega) (show Told P text i (k + 1) false by have := HM.out; rwa [hxe] at this))
        go_wp2_with fail
        go_quiet (fail)
        go_wp2_with fail
        go_ret
        exact ⟨congrArg Ending.returned (congrArg Value.bool HV.out.symm), _, by first | rfl | rw [World.drewN_drewN]⟩
    · have hkn : k = P.length := by omega
      have HV := hide (told_end hi (show Told P text i P.length true by rw [← hkn]; exact HT.out))
      have g2 : ¬ (k : Int) < (P.length : Int) := by omega
      go_wp2_with fail
      go_ret
      exact ⟨congrArg Ending.returned (congrArg Value.bool HV.out.symm), q, rfl⟩

set_option maxHeartbeats 1000000 in
theorem ref_next (w : World) (base rb : Nat) (A : Option Addr) (c : Nat) (P : List Int) (hF : RefR w base rb A c P) (hP : P.length ≤ 4194304)
    (S : Nat → Prop) (T : Option Addr) (m d : Nat) (text : List Int) (hr : Reads w S 1 T m (intv text)) (hm : m ≤ 140737488355328) (at_ : Int) (hat : In64 at_) :
    Calls Try.prog 23 #[.pointer (some ⟨rb, 0, none⟩), .slice T m d, .int .i64 at_] w fun e w' => e = .returned (.int .i64 (nextOf P text at_)) ∧ ∃ q, w' = w.drewN q := by
  obtain rfl : text.length = m := by have := hr.1; simpa [intv] using this
  have h1 := hat.1
  have h2 := hat.2
  by_cases hlow : at_ < 0
  · rw [nextOf_out (.inl hlow)]
    go_enter Try.func23, Try.ntmps23
    go_wp2_with fail
    go_ret
    exact ⟨rfl, 0, rfl⟩
  obtain ⟨a, rfl⟩ := Int.eq_ofNat_of_zero_le (by omega : 0 ≤ at_)
  by_cases hhigh : text.length < a
  · rw [nextOf_out (.inr (by omega))]
    go_enter Try.func23, Try.ntmps23
    go_wp2_with fail
    go_ret
    exact ⟨rfl, 0, rfl⟩
  have ha : a ≤ text.length := by omega
  have HR := hide hr
  have HF := hide hF
  clear hr hF
  go_enter Try.func23, Try.ntmps23
  go_wp2_with fail
  go_loopg [7, 8] (text.length + 1 - a) (fun gk v7 v8 wr => ∃ i q : Nat, i + gk = text.length + 1 ∧ v7 = .int .i64 (i : Int) ∧ wr = w.drewN q ∧ a ≤ i ∧ ∀ s, a ≤ s → s < i → standsB P text s = false)
  case atStart => exact ⟨a, 0, by omega, rfl, rfl, Nat.le_refl _, fun s _ _ => by omega⟩
  case round =>
    obtain ⟨i, q, hk, rfl, rfl, hai, hno⟩ := hrel
    have HN := hide hno
    clear hno
    by_cases hlt : i ≤ text.length
    · have hFq := HF.out.upd ((Upd.refl Nob w).drewN q) (fun _ _ => not_nob)
      have hRq := reads_drewN HR.out q
      rcases hs : standsB P text i with _ | _
      · have HS := hide hs
        go_wp2_with (go_at_call 28; refine (stands_any (w.drewN q) base rb A c P hFq hP S T text.length d text hRq hm i hlt).mono ?_; rintro e w4 ⟨he, q4, rfl⟩; rw [hs] at he; subst he)
        go_roundg (text.length + 1 - (i + 1))
        case measure => omega
        case rel => exact ⟨i + 1, _, by omega, by go_num, by first | rfl | rw [World.drewN_drewN], by omega, fun s h1 h2 => (by rcases (by omega : s < i ∨ s = i) with h3 | h3; exact HN.out s h1 h3; subst h3; exact HS.out)⟩
      · have HV := hide (nextOf_some hai hs (fun s h1 h2 => HN.out s h1 h2))
        go_wp2_with (go_at_call 28; refine (stands_any (w.drewN q) base rb A c P hFq hP S T text.length d text hRq hm i hlt).mono ?_; rintro e w4 ⟨he, q4, rfl⟩; rw [hs] at he; subst he)
        go_ret
        exact ⟨congrArg Ending.returned (congrArg (Value.int .i64) HV.out.symm), _, by first | rfl | rw [World.drewN_drewN]⟩
    · have HV := hide (nextOf_none (P := P) ha (fun s h1 => (by
        by_cases h2 : s < i
        · exact HN.out s h1 h2
        · rcases h3 : standsB P text s with _ | _
          · rfl
          · have := (standsB_iff.1 h3).1; omega)))
      go_wp2_with fail
      go_ret
      exact ⟨congrArg Ending.returned (congrArg (Value.int .i64) HV.out.symm), q, rfl⟩
end Go.Proofs.Ytebbnjbgmcdbcaa
