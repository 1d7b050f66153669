/-
  The walk of heronlaw11.PikeReaches.
-/
import Derived.Test.YtnkefclbchpafaaSteps
import Derived.Test.YtnkefclbchpafaaReach
namespace Go.Proofs.Ytnkefclbchpafaa
open Go.RowKit
set_option linter.unusedVariables false

/-- what is told by the loop: whether a Match can be come to from a place that counts -/
theorem reaches_end {is : List PInst} {text : List Int} {st m a i : Nat} {anchored th : Bool} (hR : Inside is) (hst : st < is.length) (ha : a ≤ text.length) (hi : a ≤ i)
    (hy : th = true → ∃ k, a ≤ k ∧ k ≤ text.length ∧ (anchored = true → k = a) ∧ Hits is text k st ∧ ∀ k', a ≤ k' → k' < k → ¬ Hits is text k' st)
    (hn : th = false → ∀ k, a ≤ k → k < i → ¬ Hits is text k st) (he : text.length < i ∨ th = true ∨ (anchored = true ∧ a < i)) :
    (runF is st m text a anchored).1.isSome = th := by
  cases th with
  | true =>
    obtain ⟨k, h1, h2, h3, h4, h5⟩ := hy rfl
    cases anchored with
    | true =>
      obtain rfl := h3 rfl
      exact (run_iff hR hst h2).2 h4
    | false =>
      rw [run_least hR hst h1 h2 h4 h5]
      exact (run_iff hR hst h2).2 h4
  | false =>
    have hno := hn rfl
    cases anchored with
    | true =>
      have hlt : a < i := by rcases he with h | h | h; (omega); (cases h); (exact h.2)
      cases hr : (runF is st m text a true).1.isSome
      · rfl
      · exact absurd ((run_iff hR hst ha).1 hr) (hno a (Nat.le_refl _) hlt)
    | false =>
      have hlt : text.length < i := by rcases he with h | h | h; (exact h); (cases h); (cases h.1)
      rw [run_none hR hst ha (fun k h1 h2 => hno k h1 (by omega))]
      rfl

set_option maxRecDepth 100000 in
set_option maxHeartbeats 8000000 in
theorem pikeReaches_any (w : World) (S : Nat → Prop) (A : Option Addr) (n c : Nat) (is : List PInst) (start caps : Int) (T : Option Addr) (tn tc : Nat) (text : List Int) (a : Int) (anchored : Bool)
    (h : InstsR w S A n is) (hs : In64 start) (hc : In64 caps) (hn : n ≤ 140737488355328) (ht : TextR w S T tn text) (ha : In64 a) :
    Calls Try.prog 7 #[.agg #[.slice A n c, .int .i64 start, .int .i64 caps], .agg #[.slice T tn tc, .int .i64 a, .bool anchored]] w fun e w' => e = .returned (.bool true) ∧ Upd Nob w w' := by
  obtain rfl : is.length = n := h.len
  obtain rfl : text.length = tn := ht.len
  have hsz : (w.alloc (.cells #[.slice A is.length c, .int .i64 start, .int .i64 caps] 27)).heap.size = w.heap.size + 1 := by simp
  have C0 := (Cells.new w 27 #[.slice A is.length c, .int .i64 start, .int .i64 caps]).alloc (.cells #[.slice T text.length tc, .int .i64 a, .bool anchored] 30)
  have C1 := Cells.new (w.alloc (.cells #[.slice A is.length c, .int .i64 start, .int .i64 caps] 27)) 30 #[.slice T text.length tc, .int .i64 a, .bool anchored]
  rw [hsz] at C1
  have hU := ((Upd.refl Nob w).alloc (.cells #[.slice A is.length c, .int .i64 start, .int .i64 caps] 27)).alloc (.cells #[.slice T text.length tc, .int .i64 a, .bool anchored] 30)
  have H := hideP h
  have HT := hideP ht
  have h64 := ht.n
  clear h ht
  go_enter Try.func7, Try.ntmps7
  go_upto_region 1 with fail
  generalize (w.alloc (.cells #[.slice A is.length c, .int .i64 start, .int .i64 caps] 27)).alloc (.cells #[.slice T text.length tc, .int .i64 a, .bool anchored] 30) = w1 at *
  generalize w.heap.size = pb at C0 C1
  have HC0 := hideP C0
  have HC1 := hideP C1
  have HU1 := hideP hU
  clear C0 C1 hU hsz
  go_wp2_with fail
  refine (awake_any w1).mono ?_
  rintro e w2 ⟨rfl, hU2⟩
  have HC0 := hideP (HC0.out.upd hU2 not_nob)
  have HC1 := hideP (HC1.out.upd hU2 not_nob)
  have HU2 := hideP (HU1.out.trans hU2 (fun _ _ h => h))
  have e0 : w2.cell? ⟨pb, 0, none⟩ = some (.slice A is.length c) := HC0.out.cellv rfl
  have e1 : w2.cell? ⟨pb, 0 + 1, none⟩ = some (.int .i64 start) := HC0.out.cellv rfl
  have e2 : w2.cell? ⟨pb, 0 + 2, none⟩ = some (.int .i64 caps) := HC0.out.cellv rfl
  have x0 : w2.cell? ⟨pb + 1, 0, none⟩ = some (.slice T text.length tc) := HC1.out.cellv rfl
  have x1 : w2.cell? ⟨pb + 1, 0 + 1, none⟩ = some (.int .i64 a) := HC1.out.cellv rfl
  have x2 : w2.cell? ⟨pb + 1, 0 + 2, none⟩ = some (.bool anchored) := HC1.out.cellv rfl
  clear hU2
  go_wp2_with fail
  refine (may_law w2 S A is.length c is start caps T text.length tc text a anchored (H.out.upd HU2.out (fun _ _ => not_nob)) hs hc hn (HT.out.upd HU2.out (fun _ _ => not_nob)) ha).mono ?_
  rintro e w3 ⟨rfl, hU3⟩
  have HC0 := hideP (HC0.out.upd hU3 not_nob)
  have HC1 := hideP (HC1.out.upd hU3 not_nob)
  have HU3 := hideP (HU2.out.trans hU3 (fun _ _ h => h))
  have e0 : w3.cell? ⟨pb, 0, none⟩ = some (.slice A is.length c) := HC0.out.cellv rfl
  have e1 : w3.cell? ⟨pb, 0 + 1, none⟩ = some (.int .i64 start) := HC0.out.cellv rfl
  have e2 : w3.cell? ⟨pb, 0 + 2, none⟩ = some (.int .i64 caps) := HC0.out.cellv rfl
  have x0 : w3.cell? ⟨pb + 1, 0, none⟩ = some (.slice T text.length tc) := HC1.out.cellv rfl
  have x1 : w3.cell? ⟨pb + 1, 0 + 1, none⟩ = some (.int .i64 a) := HC1.out.cellv rfl
  have x2 : w3.cell? ⟨pb + 1, 0 + 2, none⟩ = some (.bool anchored) := HC1.out.cellv rfl
  clear hU3
  generalize hok : okB is start caps text a = ok
  have HOK := hideP hok
  clear hok
  rcases ok with _ | _
  · go_wp2_with fail
    go_ret
    exact ⟨rfl, HU3.out⟩
  obtain ⟨hck, hl4, ha0, ha1⟩ := okB_yes HOK.out
  obtain ⟨a0, rfl⟩ : ∃ k : Nat, a = (k : Int) := Int.eq_ofNat_of_zero_le ha0
  by_cases hlong : (200 : Int) < (text.length : Int)
  · clear hck
    go_wp2_with fail
    go_ret
    exact ⟨rfl, HU3.out⟩
  obtain ⟨⟨n1, n2, s0, s1, m0, m1⟩, hmay⟩ := vcheck hck
  have hst : start.toNat < is.length := by omega
  have HCK := hideP hck
  have HMAY := hideP hmay
  have HR := hideP (inside_of hmay)
  clear hck hmay
  go_wp2_with fail
  refine (pk_run w3 S A is.length c is start caps T text.length tc text (a0 : Int) anchored (H.out.upd HU3.out (fun _ _ => not_nob)) hs hc hn (HT.out.upd HU3.out (fun _ _ => not_nob)) ha).mono ?_
  generalize hans : ansF is start caps text (a0 : Int) anchored = ans
  obtain ⟨⟨fo, steps⟩, er⟩ := ans
  have hrun := hans
  rw [ansF_in HCK.out hl4 (by omega)] at hrun
  injection hrun with hrun her
  subst her
  have HRUN := hideP hrun
  clear hans hrun
  rintro e w4 ⟨FA, fn, fc, rfl, rfl, -, ho4, hU4⟩
  have CF := Cells.new w4 33 #[.bool fo.isSome, .slice FA (capsOf fo).length fc, .int .i64 (whOf fo), .int .i64 (steps : Int)]
  have hU5 := (Upd.refl Nob w4).alloc (.cells #[.bool fo.isSome, .slice FA (capsOf fo).length fc, .int .i64 (whOf fo), .int .i64 (steps : Int)] 33)
  have HF := hideP CF
  have HC0 := hideP ((HC0.out.upd hU4 not_nob).upd hU5 not_nob)
  have HC1 := hideP ((HC1.out.upd hU4 not_nob).upd hU5 not_nob)
  have HU5 := hideP ((HU3.out.trans hU4 (fun _ _ h => h)).trans hU5 (fun _ _ h => h))
  clear ho4 hU4 hU5 CF e0 e1 e2 x0 x1 x2
  simp only
  go_upto_region 6 with fail
  have hfbl := HF.out.lt
  generalize w4.alloc (.cells #[.bool fo.isSome, .slice FA (capsOf fo).length fc, .int .i64 (whOf fo), .int .i64 (steps : Int)] 33) = w5 at *
  generalize w4.heap.size = fb at *
  obtain ⟨st, rfl⟩ : ∃ q : Nat, start = (q : Int) := Int.eq_ofNat_of_zero_le s0
  have hst : st < is.length := by omega
  have x1 : w5.cell? ⟨pb + 1, 0 + 1, none⟩ = some (.int .i64 (a0 : Int)) := HC1.out.cellv rfl
  have h200 : text.length ≤ 200 := by omega
  go_upto_region 7 with fail
  go_wp2_with fail
  clear x1
  go_loopg [9, 10] (text.length + 1 - a0) (fun gk v9 v10 wr => ∃ (i : Nat) (th : Bool), i + gk = text.length + 1 ∧ a0 ≤ i ∧ v10 = .int .i64 (i : Int) ∧ v9 = .bool th ∧ Upd Nob w5 wr ∧ (th = true → ∃ k, a0 ≤ k ∧ k ≤ text.length ∧ (anchored = true → k = a0) ∧ Hits is text k st ∧ ∀ k', a0 ≤ k' → k' < k → ¬ Hits is text k' st) ∧ (th = false → ∀ k, a0 ≤ k → k < i → ¬ Hits is text k st))
  case atStart => exact ⟨a0, false, by omega, Nat.le_refl _, rfl, rfl, Upd.refl _ _, fun h => Bool.noConfusion h, fun _ k h1 h2 => absurd h1 (by omega)⟩
  case round =>
    obtain ⟨i, th, hi, hai, rfl, rfl, hUr, hyes, hno⟩ := hrel
    have HUr := hideP hUr
    have HNO := hideP hno
    have HYES := hideP hyes
    have HFr := hideP (HF.out.upd hUr not_nob)
    have HC0r := hideP (HC0.out.upd hUr not_nob)
    have HC1r := hideP (HC1.out.upd hUr not_nob)
    have HUw := hideP (HU5.out.trans hUr (fun _ _ h => h))
    clear hUr hno hyes
    have f0 : wr.cell? ⟨fb, 0, none⟩ = some (.bool fo.isSome) := HFr.out.cellv rfl
    have f1 : wr.cell? ⟨fb, 0 + 1, none⟩ = some (.slice FA (capsOf fo).length fc) := HFr.out.cellv rfl
    have f2 : wr.cell? ⟨fb, 0 + 2, none⟩ = some (.int .i64 (whOf fo)) := HFr.out.cellv rfl
    have e0 : wr.cell? ⟨pb, 0, none⟩ = some (.slice A is.length c) := HC0r.out.cellv rfl
    have e1 : wr.cell? ⟨pb, 0 + 1, none⟩ = some (.int .i64 (st : Int)) := HC0r.out.cellv rfl
    have e2 : wr.cell? ⟨pb, 0 + 2, none⟩ = some (.int .i64 caps) := HC0r.out.cellv rfl
    have x0 : wr.cell? ⟨pb + 1, 0, none⟩ = some (.slice T text.length tc) := HC1r.out.cellv rfl
    have x1 : wr.cell? ⟨pb + 1, 0 + 1, none⟩ = some (.int .i64 (a0 : Int)) := HC1r.out.cellv rfl
    have x2 : wr.cell? ⟨pb + 1, 0 + 2, none⟩ = some (.bool anchored) := HC1r.out.cellv rfl
    by_cases hend : text.length < i ∨ th = true ∨ (anchored = true ∧ a0 < i)
    · have hfin : fo.isSome = th := by
        have := reaches_end (m := caps.toNat) HR.out hst (by omega) hai HYES.out HNO.out hend
        rw [show runF is st caps.toNat text a0 anchored = (fo, steps) from HRUN.out] at this
        exact this
      clear x0
      have x0 : wr.cell? ⟨pb + 1, 0, none⟩ = some (.slice T text.length tc) := HC1r.out.cellv rfl
      by_cases hle : (i : Int) ≤ (text.length : Int)
      rotate_left
      · rcases fo with _ | fv
        · obtain rfl : th = false := hfin.symm
          clear hfin hend
          go_wp2_with fail
          go_ret
          exact ⟨rfl, HUw.out⟩
        · obtain rfl : th = true := hfin.symm
          clear hfin hend
          go_wp2_with fail
          go_ret
          exact ⟨rfl, HUw.out⟩
      cases th with
      | true =>
        obtain ⟨fv, rfl⟩ := Option.isSome_iff_exists.1 hfin
        clear hfin hend
        go_wp2_with fail
        go_ret
        exact ⟨rfl, HUw.out⟩
      | false =>
        obtain rfl : fo = none := by cases fo with | none => rfl | some x => cases hfin
        obtain ⟨rfl, hai2⟩ : anchored = true ∧ a0 < i := by rcases hend with h | h | h; (omega); (cases h); (exact h)
        have hne : ((i : Int) == (a0 : Int)) = false := by simp; omega
        clear hfin hend
        go_wp2_with fail
        go_ret
        exact ⟨rfl, HUw.out⟩
    · have hle : (i : Int) ≤ (text.length : Int) := by omega
      obtain rfl : th = false := by cases th with | false => rfl | true => exact absurd (.inr (.inl rfl)) hend
      have hgo : i = a0 ∨ anchored = false := by
        cases anchored with
        | false => exact .inr rfl
        | true => exact .inl (by by_cases e : i = a0; (exact e); (exact absurd (.inr (.inr ⟨rfl, by omega⟩)) hend))
      have Q := reach_any wr S A is.length c is st caps T text.length tc text i (H.out.upd HUw.out (fun _ _ => not_nob)) hs hc n2 (HT.out.upd HUw.out (fun _ _ => not_nob)) (by omega) h200 hst HMAY.out
      have HQ := hideP Q
      clear Q hend f0 f1 f2
      rcases hgo with rfl | rfl
      · have heq : ((i : Int) == (i : Int)) = true := by simp
        go_wp2_with fail
        refine HQ.out.mono ?_
        rintro e w6 ⟨r, rfl, hr, hU6⟩
        have HRR := hideP hr
        have HU6 := hideP hU6
        clear hr hU6
        go_wp2_with fail
        go_roundg (text.length - i)
        case measure => omega
        case rel => exact ⟨i + 1, r, by omega, by omega, by go_num, rfl, HUr.out.trans HU6.out (fun _ _ h => h), fun h => ⟨i, hai, by omega, fun _ => rfl, HRR.out.1 h, HNO.out trivial⟩, fun h k h1 h2 => if e : k = i then by rw [e]; exact fun hh => Bool.noConfusion (h.symm.trans (HRR.out.2 hh)) else HNO.out trivial k h1 (by omega)⟩
      · by_cases hia : i = a0
        · subst hia
          have heq : ((i : Int) == (i : Int)) = true := by simp
          go_wp2_with fail
          refine HQ.out.mono ?_
          rintro e w6 ⟨r, rfl, hr, hU6⟩
          have HRR := hideP hr
          have HU6 := hideP hU6
          clear hr hU6
          go_wp2_with fail
          go_roundg (text.length - i)
          case measure => omega
          case rel => exact ⟨i + 1, r, by omega, by omega, by go_num, rfl, HUr.out.trans HU6.out (fun _ _ h => h), fun h => ⟨i, hai, by omega, fun h => Bool.noConfusion h, HRR.out.1 h, HNO.out trivial⟩, fun h k h1 h2 => if e : k = i then by rw [e]; exact fun hh => Bool.noConfusion (h.symm.trans (HRR.out.2 hh)) else HNO.out trivial k h1 (by omega)⟩
        · have heq : ((i : Int) == (a0 : Int)) = false := by simp; omega
          go_wp2_with fail
          refine HQ.out.mono ?_
          rintro e w6 ⟨r, rfl, hr, hU6⟩
          have HRR := hideP hr
          have HU6 := hideP hU6
          clear hr hU6
          go_wp2_with fail
          go_roundg (text.length - i)
          case measure => omega
          case rel => exact ⟨i + 1, r, by omega, by omega, by go_num, rfl, HUr.out.trans HU6.out (fun _ _ h => h), fun h => ⟨i, hai, by omega, fun h => Bool.noConfusion h, HRR.out.1 h, HNO.out trivial⟩, fun h k h1 h2 => if e : k = i then by rw [e]; exact fun hh => Bool.noConfusion (h.symm.trans (HRR.out.2 hh)) else HNO.out trivial k h1 (by omega)⟩
end Go.Proofs.Ytnkefclbchpafaa
