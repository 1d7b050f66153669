/-
  Great, Back, put together.
-/
import Derived.Test.YtlaofcgllchedaaZ12RefSound
import Derived.Test.YtlaofcgllchedaaZ02TreeP
import Derived.Laws.CopyOwn

/-
  The walk of heronlaw05.Great: some answer.
-/
namespace Go.Proofs.Ytlaofcgllchedaa
open Go.RowKit
set_option linter.unusedVariables false

set_option maxHeartbeats 2000000 in
theorem big_any (t : Tree) (w : World) (S : Nat → Prop) (cs : Array Value) (h1 : NodeR w S cs t) :
    Calls Try.prog 15 #[.agg cs] w (DeepAns w) := by
  obtain ⟨RA, rc, SA, sc, rfl, -⟩ := h1.top
  have HN := hideP h1
  clear h1
  unfold nodeCells at HN ⊢
  generalize hP : DeepAns w = P
  have HP := hideP (show ∀ b w', Upd Nob w w' → P (.returned (.bool b)) w' from fun b w' a => by rw [← hP]; exact ⟨b, rfl, a⟩)
  clear hP
  have C0 := Cells.new w 30 #[.int .i64 t.kind, .slice RA t.rs.length rc, .int .i64 t.am, .slice SA t.subs.length sc, .int .i64 t.mn, .int .i64 t.mx, .bool t.lz, .int .i64 t.ix, .string t.nm]
  have hU2 := (Upd.refl Nob w).alloc (.cells #[.int .i64 t.kind, .slice RA t.rs.length rc, .int .i64 t.am, .slice SA t.subs.length sc, .int .i64 t.mn, .int .i64 t.mx, .bool t.lz, .int .i64 t.ix, .string t.nm] 30)
  go_enter Try.func15, Try.ntmps15
  go_upto_region 1 with fail
  generalize w.alloc (.cells #[.int .i64 t.kind, .slice RA t.rs.length rc, .int .i64 t.am, .slice SA t.subs.length sc, .int .i64 t.mn, .int .i64 t.mx, .bool t.lz, .int .i64 t.ix, .string t.nm] 30) = w2 at *
  obtain ⟨e0, e1, e2, e3, e4, e5, e6, e7, e8⟩ := nine C0
  clear C0
  go_wp2_with fail
  refine (great_go _ t w2 S _ 200000 (Nat.le_refl _) (HN.out.upd_ hU2 (fun _ _ => not_nob)) (by omega) (by omega)).mono ?_
  rintro e w3 ⟨v, rfl, -, -, hU3⟩
  have HU3 := hideP (hU2.trans hU3 (fun _ _ h => h))
  clear hU3 hU2 e0 e1 e2 e3 e4 e5 e6 e7 e8
  go_wp2_with fail
  try go_ret
  exact HP.out _ _ HU3.out
end Go.Proofs.Ytlaofcgllchedaa

/-
  The walks of heronlaw08's sameInts and may.
-/
namespace Go.Proofs.Ytlaofcgllchedaa
open Go.RowKit
set_option linter.unusedVariables false

set_option maxHeartbeats 1000000 in
theorem same_any (w : World) (S1 S2 : Nat → Prop) (A B : Option Addr) (n m c d : Nat) (xs ys : List Int) (hx : Reads w S1 1 A n (intv xs)) (hy : Reads w S2 1 B m (intv ys)) (hn : n ≤ 140737488355328) :
    Calls Try.prog 9 #[.slice A n c, .slice B m d] w fun e w' => e = .returned (.bool (decide (xs = ys))) ∧ ∃ q, w' = w.drewN q := by
  obtain rfl : xs.length = n := by have := hx.1; simpa [intv] using this
  obtain rfl : ys.length = m := by have := hy.1; simpa [intv] using this
  by_cases hl : xs.length = ys.length
  rotate_left
  · have hv : decide (xs = ys) = false := decide_eq_false (fun e => hl (by rw [e]))
    rw [hv]; clear hv
    have hlb : ((xs.length : Int) == (ys.length : Int)) = false := beq_eq_false_iff_ne.2 (by omega)
    have hlb2 : (xs.length == ys.length) = false := beq_eq_false_iff_ne.2 hl
    go_enter Try.func9, Try.ntmps9
    go_wp2_with fail
    go_ret
    exact ⟨rfl, 0, rfl⟩
  have HX := hideP hx
  have HY := hideP hy
  have HL := hideP hl
  clear hx hy
  go_enter Try.func9, Try.ntmps9
  go_wp2_with fail
  go_loopg [5] xs.length (fun gk v5 wr => ∃ k q : Nat, k + gk = xs.length ∧ v5 = .int .i64 (k : Int) ∧ wr = w.drewN q ∧ ∀ j, j < k → xs[j]? = ys[j]?)
  case atStart => exact ⟨0, 0, by omega, rfl, rfl, fun j hj => by omega⟩
  case round =>
    obtain ⟨k, q, hk, rfl, rfl, hj⟩ := hrel
    have HJ := hideP hj
    clear hj
    by_cases hlt : k < xs.length
    · obtain ⟨ad, x, rfl, hxk, hcx⟩ := HX.out.int1 hlt
      obtain ⟨bd, y, rfl, hyk, hcy⟩ := HY.out.int1 (k := k) (by have := HL.out; omega)
      have g1 : (k : Int) < (xs.length : Int) := by omega
      have g2 : (k : Int) < (ys.length : Int) := by have := HL.out; omega
      have HXK := hideP hxk
      have HYK := hideP hyk
      clear hxk hyk hl
      by_cases hxy : x = y
      · subst hxy
        go_wp2_with fail
        go_quiet (fail)
        go_wp2_with fail
        go_roundg (xs.length - (k + 1))
        case measure => omega
        case rel => exact ⟨k + 1, _, by omega, by go_num, by first | rfl | rw [World.drewN_drewN], fun j hj => (by rcases (by omega : j < k ∨ j = k) with h | h; exact HJ.out j h; subst h; rw [HXK.out, HYK.out])⟩
      · have hxe : (x == y) = false := by simpa using hxy
        have hv : decide (xs = ys) = false := decide_eq_false (fun e => by
          have h1 := HXK.out
          rw [e, HYK.out] at h1
          injection h1 with h1
          exact hxy h1.symm)
        have HV := hideP hv
        clear hv
        go_wp2_with fail
        go_quiet (fail)
        go_wp2_with fail
        go_ret
        exact ⟨congrArg Ending.returned (congrArg Value.bool HV.out.symm), _, by first | rfl | rw [World.drewN_drewN]⟩
    · have hkn : k = xs.length := by omega
      have hv : decide (xs = ys) = true := decide_eq_true (List.ext_getElem? fun j => by
        by_cases hj : j < k
        · exact HJ.out j hj
        · rw [List.getElem?_eq_none (by omega), List.getElem?_eq_none (by omega)])
      have HV := hideP hv
      clear hk hv
      subst hkn
      go_wp2_with fail
      go_ret
      exact ⟨congrArg Ending.returned (congrArg Value.bool HV.out.symm), q, rfl⟩


theorem binfo_int : (Try.prog.info? 3).map (fun i => (i.zero, i.size, i.bytes)) = some (some (.int .i64 0), 1, 8) := by kernel_rfl
/-- the first k numbers laid down from behind -/
def backL (xs : List Int) (k : Nat) : List Int := List.replicate (xs.length - k) 0 ++ (xs.take k).reverse
theorem backL_len (xs : List Int) {k : Nat} (h : k ≤ xs.length) : (backL xs k).length = xs.length := by simp [backL]; omega
theorem backL_all (xs : List Int) : backL xs xs.length = xs.reverse := by simp [backL]
theorem backL_step {xs : List Int} {k : Nat} {x : Int} (hx : xs[k]? = some x) : (backL xs k).set (xs.length - 1 - k) x = backL xs (k + 1) := by
  obtain ⟨hk, rfl⟩ := List.getElem?_eq_some_iff.1 hx
  unfold backL
  rw [show xs.length - k = (xs.length - (k + 1)) + 1 by omega, List.replicate_succ', List.append_assoc, List.set_append_right _ _ (by simp; omega), List.length_replicate,
    show xs.length - 1 - k - (xs.length - (k + 1)) = 0 by omega, List.take_add_one, List.reverse_append, hx]
  rfl
theorem refL_step {xs : List Int} {k : Nat} {x : Int} (hk : k < xs.length) (hx : xs[xs.length - 1 - k]? = some x) : (xs.drop (xs.length - k)).reverse ++ [x] = (xs.drop (xs.length - (k + 1))).reverse := by
  obtain ⟨hl, rfl⟩ := List.getElem?_eq_some_iff.1 hx
  have h := List.drop_eq_getElem_cons hl
  rw [show xs.length - (k + 1) = xs.length - 1 - k by omega, h, List.reverse_cons, show xs.length - 1 - k + 1 = xs.length - k by omega]

set_option maxHeartbeats 1000000 in
/-- mirror.Back: in memory of its own -/
theorem back_any (w : World) (S : Nat → Prop) (A : Option Addr) (n c : Nat) (xs : List Int) (hx : Reads w S 1 A n (intv xs)) (hn : n * 8 ≤ 140737488355328) :
    Calls Try.prog 8 #[.slice A n c] w fun e w' => ∃ g, e = .returned (.slice (some ⟨g, 0, none⟩) n n) ∧ w'.ownsRow w.heap.size 3 1 (.slice (some ⟨g, 0, none⟩) n n) n (intv xs.reverse) ∧ Upd Nob w w' := by
  obtain ⟨i0, hi0, hz0, hz1, hz2⟩ := info_parts binfo_int
  obtain rfl : xs.length = n := by have := hx.1; simpa [intv] using this
  have hz : (madeCells (Value.int .i64 0).cells (xs.length * 1)).toList = intv (backL xs 0) := by
    have : (Value.int .i64 0).cells = #[Value.int .i64 0] := rfl
    rw [this, toList_madeCells_one, Nat.mul_one]
    simp [backL, intv]
  have HZ := hideP hz
  have HX := hideP hx
  clear hz hx
  go_enter Try.func8, Try.ntmps8
  go_wp2_with (at_make; refine wpList_make_full w rfl _ _ 22 rfl w.heap.size 3 i0 (.int .i64 0) 1 Try.underlying22 hi0 hz0 hz1 .i64 .i64 (xs.length : Int) (xs.length : Int) xs.length rfl rfl (by omega) (by omega) (by rw [hz2]; omega) (by unfold maxLen; omega) (Nat.le_refl _) ?_; intro w1 o1 hg1; rw [HZ.out] at o1; have HO1 := hideP o1; have HU1 := hideP ((Upd.refl Nob w).grown hg1 (by simp)); clear o1 hg1)
  go_loopg [11] xs.length (fun gk v11 wr => ∃ k : Nat, k + gk = xs.length ∧ v11 = .int .i64 (k : Int) ∧ wr.ownsRow w.heap.size 3 1 (.slice (some ⟨w.heap.size, 0, none⟩) xs.length xs.length) xs.length (intv (backL xs k)) ∧ Upd Nob w wr)
  case atStart => exact ⟨0, by omega, rfl, HO1.out, HU1.out⟩
  case round =>
    obtain ⟨k, hk, rfl, ho, hU⟩ := hrel
    by_cases hlt : k < xs.length
    · obtain ⟨ad, x, rfl, hxk, hcx⟩ := (HX.out.upd hU (fun _ _ => not_nob)).int1 hlt
      obtain ⟨m, hm⟩ : ∃ m : Nat, m = xs.length - 1 - k := ⟨_, rfl⟩
      have hmi : (xs.length : Int) - 1 - (k : Int) = (m : Int) := by omega
      have g1 : (k : Int) < (xs.length : Int) := by omega
      have g2 : (m : Int) < (xs.length : Int) := by omega
      have fz : wr.frozen? ⟨w.heap.size, m, none⟩ = false := ho.frozenAt m
      obtain ⟨u, cu⟩ : ∃ u, wr.cell? ⟨w.heap.size, m, none⟩ = some u := by
        have h1 := ho.cellAt m (by omega)
        rw [List.getElem?_eq_getElem (by have := ho.1; omega)] at h1
        exact ⟨_, h1⟩
      have hst := (ho.stored m (.int .i64 x)).1
      rw [show (intv (backL xs k)).set m (.int .i64 x) = intv (backL xs (k + 1)) by rw [← backL_step hxk, hm]; simp [intv, List.map_set]] at hst
      have HO := hideP hst
      have HU := hideP (hU.setCell ⟨w.heap.size, m, none⟩ (.int .i64 x) (fun h => by simp at h))
      clear ho hU hst hxk hm
      go_wp2_with fail
      go_roundg (xs.length - (k + 1))
      case measure => omega
      case rel => exact ⟨k + 1, by omega, by go_num, HO.out, HU.out⟩
    · have g1 : ¬ (k : Int) < (xs.length : Int) := by omega
      obtain rfl : k = xs.length := by omega
      rw [backL_all] at ho
      have HO := hideP ho
      have HU := hideP hU
      clear ho hU
      go_wp2_with fail
      go_ret
      exact ⟨w.heap.size, rfl, HO.out, HU.out⟩

set_option maxHeartbeats 1000000 in
/-- heronref08.Back -/
theorem refBack_any (w : World) (S : Nat → Prop) (A : Option Addr) (n c : Nat) (xs : List Int) (hx : Reads w S 1 A n (intv xs)) (hn : n * 8 ≤ 140737488355328) :
    Calls Try.prog 7 #[.slice A n c] w fun e w' => ∃ B d, e = .returned (.slice B n d) ∧ w'.ownsRow w.heap.size 3 1 (.slice B n d) n (intv xs.reverse) ∧ Upd Nob w w' := by
  obtain ⟨i0, hi0, hz0, hz1, hz2⟩ := info_parts binfo_int
  obtain rfl : xs.length = n := by have := hx.1; simpa [intv] using this
  have HX := hideP hx
  clear hx
  go_enter Try.func7, Try.ntmps7
  go_wp2_with fail
  go_loopg [3, 4] xs.length (fun gk v3 v4 wr => ∃ (k : Nat) (i : Int) (B : Option Addr) (d : Nat), k + gk = xs.length ∧ i = (xs.length : Int) - 1 - (k : Int) ∧ v4 = .int .i64 i ∧ v3 = .slice B k d ∧ wr.ownsRow w.heap.size 3 1 (.slice B k d) k (intv (xs.drop (xs.length - k)).reverse) ∧ Upd Nob w wr)
  case atStart => exact ⟨0, _, none, 0, by omega, by omega, rfl, rfl, by simpa [intv] using World.ownsRow_nil w w.heap.size 3 1, Upd.refl _ _⟩
  case round =>
    obtain ⟨k, i, B, d, hk, hi, rfl, rfl, ho, hU⟩ := hrel
    by_cases hlt : k < xs.length
    · obtain ⟨m, rfl⟩ : ∃ m : Nat, i = (m : Int) := Int.eq_ofNat_of_zero_le (by omega)
      obtain ⟨ad, x, rfl, hxk, hcx⟩ := (HX.out.upd hU (fun _ _ => not_nob)).int1 (k := m) (by omega)
      have g1 : (0 : Int) ≤ (m : Int) := by omega
      have g2 : (m : Int) < (xs.length : Int) := by omega
      have hst := refL_step hlt (by rw [show xs.length - 1 - k = m by omega]; exact hxk)
      have HST := hideP (show intv (xs.drop (xs.length - k)).reverse ++ [.int .i64 x] = intv (xs.drop (xs.length - (k + 1))).reverse by rw [← hst, intv_append]; rfl)
      have HO := hideP ho
      have HU := hideP hU
      have HI := hideP hi
      have hsz := hU.size
      clear ho hU hst hxk hi
      go_wp2_with (at_builtin; refine wpList_append_own_at _ rfl _ _ 22 rfl w.heap.size 3 i0 (.int .i64 0) 1 8 Try.underlying22 hi0 hz0 hz1 hz2 rfl (by decide) _ _ _ rfl (HO.out.alloc _) ⟨wr.heap.size, 0, none⟩ 1 1 [(.int .i64 x)] rfl rfl ?d1 ?d2 ?d3 ?d4 ?d5 ?_)
      case d1 => exact World.news_of_block (cs := #[(.int .i64 x)]) (t := 3) (fr := (0, 0)) (heap_alloc_new _ _)
      case d2 => first | rfl | exact ⟨rfl⟩ | trivial | (intro u hu; simp at hu; subst hu; rfl) | simp
      case d3 => unfold maxLen; omega
      case d4 => omega
      case d5 => simp; omega
      intro v8 w8 o8 g8 _ hat
      obtain ⟨A8, c8, rfl⟩ := own_shape o8
      rw [HST.out] at o8
      have hU8 := HU.out.trans (((Upd.refl (fun b => (Value.slice B k d).ownBlock = some b) wr).alloc (.cells #[(.int .i64 x)] 3)).grown g8 (fun b hb _ => hb)) (fun b hb h => absurd (HO.out.lt b h).1 (by omega))
      have HO8 := hideP o8
      have HU8 := hideP hU8
      clear o8 g8 hat hU8
      go_wp2_with fail
      have hi := HI.out
      go_roundg (xs.length - (k + 1))
      case measure => omega
      case rel => exact ⟨k + 1, (m : Int) - 1, A8, c8, by omega, by omega, by go_num, rfl, HO8.out, HU8.out⟩
    · obtain rfl : k = xs.length := by omega
      have g1 : ¬ (0 : Int) ≤ i := by omega
      rw [Nat.sub_self, List.drop_zero] at ho
      have HO := hideP ho
      have HU := hideP hU
      clear ho hU hi
      go_wp2_with fail
      go_ret
      exact ⟨B, d, rfl, HO.out, HU.out⟩
end Go.Proofs.Ytlaofcgllchedaa
