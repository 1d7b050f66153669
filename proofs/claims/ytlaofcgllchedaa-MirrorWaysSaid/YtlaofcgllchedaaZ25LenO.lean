/-
  SizeO, LenO, put together.
-/
import Derived.Test.YtlaofcgllchedaaZ23UnfO
import Derived.Test.YtlaofcgllchedaaZ24Greatest

/-
  The walk of heronref06.Size.
-/
namespace Go.Proofs.Ytlaofcgllchedaa
open Go.RowKit
set_option linter.unusedVariables false

def repZ (n mn mx : Int) : Int := if mx < 0 ∧ mn = 0 then 1 + n else if mx < 0 then mn * n + 1 else max 1 (mn * n + (mx - mn) * (1 + n))
mutual
def szT : Tree → Int
  | .mk k rs am subs mn mx lz ix nm => if k = 6 then min 1073741824 (repZ (szL 0 subs) mn mx) else if k = 4 ∨ k = 5 ∨ k = 7 then min 1073741824 (1 + szL 0 subs) else 1
def szL : Int → List Tree → Int
  | n, [] => n
  | n, t :: l => szL (min 1073741824 (n + szT t)) l
end
theorem szT_eq (t : Tree) : szT t = if t.kind = 6 then min 1073741824 (repZ (szL 0 t.subs) t.mn t.mx) else if t.kind = 4 ∨ t.kind = 5 ∨ t.kind = 7 then min 1073741824 (1 + szL 0 t.subs) else 1 := by
  obtain ⟨k, rs, am, subs, mn, mx, lz, ix, nm⟩ := t
  rw [szT]
  rfl
set_option maxRecDepth 100000 in
set_option maxHeartbeats 4000000 in
theorem size_go (n : Nat) : ∀ (t : Tree) (w : World) (S : Nat → Prop) (cs : Array Value), SizeOf.sizeOf t ≤ n → OkV t → NodeR w S cs t →
    Calls Try.prog 25 #[.agg cs] w fun e w' => e = .returned (.int .i64 (szT t)) ∧ (0 ≤ szT t ∧ szT t ≤ 1073741824) ∧ Upd Nob w w' := by
  induction n with
  | zero => exact fun t _ _ _ h => by obtain ⟨k, r, a, l, m, x, z, i, nn⟩ := t; simp at h
  | succ n ih =>
  intro t w S cs hn hv h1
  obtain ⟨RA, rc, SA, sc, rfl, hr1, ho, hs1⟩ := h1.top
  have C0 := Cells.new w 30 (nodeCells t RA rc SA sc)
  have hU := (Upd.refl Nob w).alloc (.cells (nodeCells t RA rc SA sc) 30)
  have IH := hideP ih
  have HN := hideP hn
  have HV := hideP hv.top
  have H1 := hideP (h1.upd_ hU (fun _ _ => not_nob))
  have hnl := ho.n
  have HE := hideP (szT_eq t)
  clear ih hn hv h1 hr1 hs1 ho
  unfold nodeCells at C0 hU H1
  unfold nodeCells
  go_enter Try.func25, Try.ntmps25
  go_upto_region 1 with fail
  generalize w.alloc (.cells #[.int .i64 t.kind, .slice RA t.rs.length rc, .int .i64 t.am, .slice SA t.subs.length sc, .int .i64 t.mn, .int .i64 t.mx, .bool t.lz, .int .i64 t.ix, .string t.nm] 30) = w2 at *
  have HU := hideP hU
  have HC := hideP C0
  clear C0 hU
  go_wp2_with fail
  go_loopg [3, 4, 5] t.subs.length (fun gk v3 v4 v5 wr => ∃ (k : Nat) (v : Int), k + gk = t.subs.length ∧ v4 = .int .i64 (k : Int) ∧ v3 = .int .i64 v ∧ (0 ≤ v ∧ v ≤ 1073741824) ∧ szL v (t.subs.drop k) = szL 0 t.subs ∧ Upd Nob w2 wr)
  case atStart => exact ⟨0, 0, by omega, rfl, rfl, by omega, by rw [List.drop_zero], Upd.refl _ _⟩
  case round =>
    obtain ⟨k, v, hk, rfl, rfl, hv, hgr, hUr⟩ := hrel
    have HUr := hideP hUr
    have HVV := hideP hv
    have HK := hideP hk
    obtain ⟨e0, e1, e2, e3, e4, e5, e6, e7, e8⟩ := nineN (HC.out.upd hUr not_nob)
    by_cases hlt : k < t.subs.length
    · have g2 : (k : Int) < (t.subs.length : Int) := by omega
      obtain ⟨ad, g, o, x, PA, pc, QA, qc, rfl, hadd, hSg, hgl, hx, hX, hlx, hcs⟩ := NodeR.sub H1.out.open_.2.2 hlt
      obtain ⟨p0, p1, p2, p3, p4, p5, p6, p7, p8⟩ := sub_cells (fun j v hv => (hUr.cell (p := ⟨g, o + j, none⟩) hgl not_nob).trans (hcs j v hv))
      have hxn : SizeOf.sizeOf x ≤ n := by have := HN.out; omega
      have hxv := HV.out.2 x (List.mem_of_getElem? hx)
      have HXV := hideP hxv
      have HX := hideP (hX.upd_ hUr (fun _ _ => not_nob))
      have hd : t.subs.drop k = x :: t.subs.drop (k + 1) := by
        rw [List.drop_eq_getElem_cons hlt]
        congr 1
        rw [List.getElem?_eq_getElem hlt] at hx
        injection hx
      rw [hd, szL] at hgr
      have HGR := hideP hgr
      clear hcs hX hlx hx hd hgr hUr hv hk hxv
      go_upto_region 6 with (go_at_call 25; refine (IH.out x wr _ _ hxn HXV.out HX.out).mono ?_; rintro e w5 ⟨rfl, hi5, hU5⟩; have HI5 := hideP hi5; have HU5 := hideP (HUr.out.trans hU5 (fun _ _ h => h)); clear hi5 hU5)
      have hw : IntKind.i64.wrap (v + szT x) = v + szT x := by rw [IntKind.wrap_i64]; have := HI5.out; have := HVV.out; omega
      generalize szT x = z at *
      go_wp2_with fail
      · go_roundg (t.subs.length - (k + 1))
        case measure => have := HK.out; omega
        case rel => exact ⟨k + 1, v + z, by have := HK.out; omega, by go_num, rfl, by have := HI5.out; have := HVV.out; omega, by have h := HGR.out; rwa [show min 1073741824 (v + z) = v + z by omega] at h, HU5.out⟩
      · go_roundg (t.subs.length - (k + 1))
        case measure => have := HK.out; omega
        case rel => exact ⟨k + 1, 1073741824, by have := HK.out; omega, by go_num, rfl, by omega, by have h := HGR.out; rwa [show min 1073741824 (v + z) = 1073741824 by omega] at h, HU5.out⟩
    · have g2 : ¬ (k : Int) < (t.subs.length : Int) := by omega
      rw [List.drop_eq_nil_of_le (by omega), szL] at hgr
      have HGR := hideP hgr
      have hE2 := HE.out
      rw [← hgr] at hE2
      have HE2 := hideP hE2
      clear hUr hgr hk hE2
      have hv0 := hv.1
      have hv1 := hv.2
      have hw2 : IntKind.i64.wrap (1 + v) = 1 + v := by rw [IntKind.wrap_i64]; omega
      by_cases hk6 : t.kind = 6
      · obtain ⟨m0, m1, m2, -⟩ := HV.out.1.1 hk6
        have hkb : (t.kind == 6) = true := by simpa using hk6
        have hE := HE2.out
        rw [if_pos hk6] at hE
        clear hk6 hv
        by_cases hx0 : t.mx < 0
        · have hd1 : decide (t.mx < 0) = true := decide_eq_true hx0
          by_cases hm0 : t.mn = 0
          · have hd2 : (t.mn == 0) = true := by simpa using hm0
            have HEE := hideP (show szT t = min 1073741824 (1 + v) by rw [hE, repZ, if_pos ⟨hx0, hm0⟩])
            clear hE hm0
            go_wp2_with fail
            all_goals (try go_ret)
            all_goals (exact ⟨congrArg (fun z => Ending.returned (.int .i64 z)) (by have := HEE.out; omega), by have := HEE.out; omega, HU.out.trans HUr.out (fun _ _ h => h)⟩)
          · have hd2 : (t.mn == 0) = false := by simpa using hm0
            have HEE := hideP (show szT t = min 1073741824 (t.mn * v + 1) by rw [hE, repZ, if_neg (by omega), if_pos hx0])
            have ha0 : 0 ≤ t.mn * v := Int.mul_nonneg m0 hv0
            have ha1 : t.mn * v ≤ 1000 * 1073741824 := Int.mul_le_mul m1 hv1 hv0 (by omega)
            obtain ⟨a, hA⟩ : ∃ a, t.mn * v = a := ⟨_, rfl⟩
            rw [hA] at ha0 ha1
            have HEE := hideP (show szT t = min 1073741824 (a + 1) by rw [← hA]; exact HEE.out)
            have hwa : IntKind.i64.wrap (t.mn * v) = a := by rw [hA, IntKind.wrap_i64]; omega
            have hwb : IntKind.i64.wrap (a + 1) = a + 1 := by rw [IntKind.wrap_i64]; omega
            clear hE hm0 hA
            clear hx0
            go_wp2_with fail
            all_goals (try go_ret)
            all_goals (exact ⟨congrArg (fun z => Ending.returned (.int .i64 z)) (by have := HEE.out; omega), by have := HEE.out; omega, HU.out.trans HUr.out (fun _ _ h => h)⟩)
        · have hd1 : decide (t.mx < 0) = false := decide_eq_false hx0
          have hd3 : ¬ t.mx < 0 := hx0
          have HEE := hideP (show szT t = min 1073741824 (max 1 (t.mn * v + (t.mx - t.mn) * (1 + v))) by rw [hE, repZ, if_neg (by omega), if_neg hx0])
          have ha0 : 0 ≤ t.mn * v := Int.mul_nonneg m0 hv0
          have ha1 : t.mn * v ≤ 1000 * 1073741824 := Int.mul_le_mul m1 hv1 hv0 (by omega)
          have hb1 : (t.mx - t.mn) * (1 + v) ≤ 1000 * 1073741825 := Int.le_trans (Int.mul_le_mul_of_nonneg_right (show t.mx - t.mn ≤ 1000 by omega) (by omega)) (Int.mul_le_mul_of_nonneg_left (by omega) (by omega))
          have hb0 : -1000 * 1073741825 ≤ (t.mx - t.mn) * (1 + v) := Int.le_trans (show (-1000 : Int) * 1073741825 ≤ -1000 * (1 + v) by omega) (Int.mul_le_mul_of_nonneg_right (show -1000 ≤ t.mx - t.mn by omega) (by omega))
          have hwd : IntKind.i64.wrap (t.mx - t.mn) = t.mx - t.mn := by rw [IntKind.wrap_i64]; omega
          obtain ⟨a, hA⟩ : ∃ a, t.mn * v = a := ⟨_, rfl⟩
          obtain ⟨b, hB⟩ : ∃ b, (t.mx - t.mn) * (1 + v) = b := ⟨_, rfl⟩
          rw [hA] at ha0 ha1
          rw [hB] at hb0 hb1
          have HEE := hideP (show szT t = min 1073741824 (max 1 (a + b)) by rw [← hA, ← hB]; exact HEE.out)
          have hwa : IntKind.i64.wrap (t.mn * v) = a := by rw [hA, IntKind.wrap_i64]; omega
          have hwb : IntKind.i64.wrap ((t.mx - t.mn) * (1 + v)) = b := by rw [hB, IntKind.wrap_i64]; omega
          have hwc : IntKind.i64.wrap (a + b) = a + b := by rw [IntKind.wrap_i64]; omega
          clear hE hx0 hA hB
          go_wp2_with fail
          all_goals (try go_ret)
          all_goals (exact ⟨congrArg (fun z => Ending.returned (.int .i64 z)) (by have := HEE.out; omega), by have := HEE.out; omega, HU.out.trans HUr.out (fun _ _ h => h)⟩)
      · have hk6b : (t.kind == 6) = false := by simpa using hk6
        have hE := HE2.out
        rw [if_neg hk6] at hE
        clear hk6 hv
        by_cases hk : t.kind = 4 ∨ t.kind = 5 ∨ t.kind = 7
        · have HEE := hideP (show szT t = min 1073741824 (1 + v) by rw [hE, if_pos hk])
          clear hE
          rcases hk with hk | hk | hk
          · have c1 : (t.kind == 4) = true := by rw [hk]; rfl
            clear hk
            go_wp2_with fail
            all_goals (try go_ret)
            all_goals (exact ⟨congrArg (fun z => Ending.returned (.int .i64 z)) (by have := HEE.out; omega), by have := HEE.out; omega, HU.out.trans HUr.out (fun _ _ h => h)⟩)
          · have c1 : (t.kind == 4) = false := by rw [hk]; rfl
            have c2 : (t.kind == 5) = true := by rw [hk]; rfl
            clear hk
            go_wp2_with fail
            all_goals (try go_ret)
            all_goals (exact ⟨congrArg (fun z => Ending.returned (.int .i64 z)) (by have := HEE.out; omega), by have := HEE.out; omega, HU.out.trans HUr.out (fun _ _ h => h)⟩)
          · have c1 : (t.kind == 4) = false := by rw [hk]; rfl
            have c2 : (t.kind == 5) = false := by rw [hk]; rfl
            have c3 : (t.kind == 7) = true := by rw [hk]; rfl
            clear hk
            go_wp2_with fail
            all_goals (try go_ret)
            all_goals (exact ⟨congrArg (fun z => Ending.returned (.int .i64 z)) (by have := HEE.out; omega), by have := HEE.out; omega, HU.out.trans HUr.out (fun _ _ h => h)⟩)
        · have HEE := hideP (show szT t = 1 by rw [hE, if_neg hk])
          have c1 : (t.kind == 4) = false := by simp; omega
          have c2 : (t.kind == 5) = false := by simp; omega
          have c3 : (t.kind == 7) = false := by simp; omega
          clear hE hk
          go_wp2_with fail
          all_goals (try go_ret)
          all_goals (exact ⟨congrArg (fun z => Ending.returned (.int .i64 z)) (by have := HEE.out; omega), by have := HEE.out; omega, HU.out.trans HUr.out (fun _ _ h => h)⟩)
end Go.Proofs.Ytlaofcgllchedaa

/-
  How long the row of an unfolded tree is. Plain.
-/
namespace Go.Proofs.Ytlaofcgllchedaa
set_option linter.unusedVariables false

theorem rowT_le (ss : List Nat) (l : List PN) : (rowT ss l).1.length ≤ l.length + (if ss.length = 1 then 0 else 1) := by
  match ss with
  | [] => exact Nat.le_of_eq (putT_len (bareN 1 [] false) l).1
  | [a] => exact Nat.le_refl _
  | a :: b :: r =>
    rw [if_neg (by simp)]
    exact Nat.le_of_eq (putT_len (bareN 4 (a :: b :: r) false) l).1
theorem times_le {f : Uf} {c : Nat} (hf : ∀ l, (f l).1.length ≤ l.length + c) : ∀ (n : Nat) (l : List PN), (timesT f n l).1.length ≤ l.length + n * c ∧ (timesT f n l).2.length = n
  | 0, l => ⟨by simp [timesT], rfl⟩
  | n + 1, l => by
    have h1 := hf l
    obtain ⟨h2, h3⟩ := times_le hf n (f l).1
    refine ⟨?_, by simp only [timesT, List.length_cons, h3]⟩
    simp only [timesT]
    rw [Nat.succ_mul]
    omega
theorem opt_le {f : Uf} {c : Nat} (lz : Bool) (hf : ∀ l, (f l).1.length ≤ l.length + c) : ∀ (k : Nat) (l : List PN), 0 < k → (optT f lz k l).1.length + 1 ≤ l.length + k * c + 2 * k
  | 0, l, h => by omega
  | 1, l, _ => by
    have h1 := hf l
    have h2 := (putT_len (bareN 103 [(f l).2] lz) (f l).1).1
    have e : optT f lz 1 l = putT (bareN 103 [(f l).2] lz) (f l).1 := rfl
    rw [e, h2]
    omega
  | k + 2, l, _ => by
    have h1 := hf l
    have ih := opt_le lz hf (k + 1) (f l).1 (by omega)
    obtain ⟨r, hr⟩ : ∃ r, optT f lz (k + 1) (f l).1 = r := ⟨_, rfl⟩
    obtain ⟨q, hq⟩ : ∃ q, rowT [(f l).2, r.2] r.1 = q := ⟨_, rfl⟩
    have e : optT f lz (k + 2) l = putT (bareN 103 [q.2] lz) q.1 := by rw [← hq, ← hr]; rfl
    have h2 : q.1.length ≤ r.1.length + 1 := by
      have h := rowT_le [(f l).2, r.2] r.1
      rw [hq, if_neg (by simp)] at h
      exact h
    have h3 := (putT_len (bareN 103 [q.2] lz) q.1).1
    rw [hr] at ih
    rw [e, h3]
    have : (k + 2) * c = (k + 1) * c + c := Nat.succ_mul (k + 1) c
    omega
theorem rep_le {f : Uf} {s : Nat} (hs : 1 ≤ s) (hf : ∀ l, (f l).1.length + 1 ≤ l.length + 2 * s) {mn mx : Int} (lz : Bool) (h0 : 0 ≤ mn) (hm : mx < 0 ∨ mn ≤ mx) (l : List PN) : ((repT f mn mx lz l).1.length : Int) + 1 ≤ (l.length : Int) + 2 * repZ (s : Int) mn mx := by
  obtain ⟨c, hc⟩ : ∃ c, c + 1 = 2 * s := ⟨2 * s - 1, by omega⟩
  have hf' : ∀ l, (f l).1.length ≤ l.length + c := fun l => by have := hf l; omega
  have key : ∀ N : Nat, N * c + N = 2 * (N * s) := fun N => by
    rw [← Nat.mul_succ, show c.succ = 2 * s from hc, Nat.mul_left_comm]
  unfold repZ
  by_cases hx : mx < 0
  · by_cases hm0 : mn = 0
    · rw [if_pos ⟨hx, hm0⟩, repT_star hx hm0, (putT_len _ _).1]
      have := hf' l
      omega
    · obtain ⟨N, hN⟩ : ∃ N : Nat, mn = (N : Int) + 1 := ⟨(mn - 1).toNat, by omega⟩
      rw [if_neg (by omega), if_pos hx, repT_plus hx hN]
      obtain ⟨h1, h2⟩ := times_le hf' N l
      have h3 := hf' (timesT f N l).1
      have h4 := putT_len (bareN 102 [(f (timesT f N l).1).2] lz) (f (timesT f N l).1).1
      have h5 := rowT_le ((timesT f N l).2 ++ [(putT (bareN 102 [(f (timesT f N l).1).2] lz) (f (timesT f N l).1).1).2]) (putT (bareN 102 [(f (timesT f N l).1).2] lz) (f (timesT f N l).1).1).1
      have h6 := key N
      have e : mn * (s : Int) = ((N * s : Nat) : Int) + (s : Int) := by rw [hN, Int.add_mul, Int.one_mul]; simp
      rw [e]
      have h7 : (if ((timesT f N l).2 ++ [(putT (bareN 102 [(f (timesT f N l).1).2] lz) (f (timesT f N l).1).1).2]).length = 1 then 0 else 1) = if N = 0 then 0 else 1 := by simp [h2]
      rw [h7] at h5
      generalize N * s = a at *
      generalize N * c = b at *
      split at h5 <;> omega
  · obtain ⟨N, hN⟩ : ∃ N : Nat, mn = (N : Int) := ⟨mn.toNat, by omega⟩
    rw [if_neg (by omega), if_neg hx]
    obtain ⟨h1, h2⟩ := times_le hf' N l
    have h6 := key N
    have e : mn * (s : Int) = ((N * s : Nat) : Int) := by rw [hN]; simp
    rw [e]
    by_cases hmm : mn < mx
    · obtain ⟨K, hK⟩ : ∃ K : Nat, mx - mn = (K : Int) := ⟨(mx - mn).toNat, by omega⟩
      rw [repT_opt hx hmm hN hK, hK]
      have h3 := opt_le lz hf' K (timesT f N l).1 (by omega)
      have h5 := rowT_le ((timesT f N l).2 ++ [(optT f lz K (timesT f N l).1).2]) (optT f lz K (timesT f N l).1).1
      have h7 : (if ((timesT f N l).2 ++ [(optT f lz K (timesT f N l).1).2]).length = 1 then 0 else 1) = if N = 0 then 0 else 1 := by simp [h2]
      rw [h7] at h5
      have h8 := key K
      have e2 : (K : Int) * (1 + (s : Int)) = (K : Int) + ((K * s : Nat) : Int) := by rw [Int.mul_add, Int.mul_one]; simp
      rw [e2]
      have hK0 : 0 < K := by omega
      generalize N * s = a at *
      generalize N * c = b at *
      generalize K * s = a' at *
      generalize K * c = b' at *
      split at h5 <;> omega
    · have hmx : mx - mn = 0 := by omega
      rw [repT_same hx hmm hN, hmx, Int.zero_mul]
      have h5 := rowT_le (timesT f N l).2 (timesT f N l).1
      rw [h2] at h5
      have h9 : 1 ≤ N → s ≤ N * s := fun h => Nat.le_mul_of_pos_left s h
      generalize hA : N * s = a at *
      generalize N * c = b at *
      split at h5
      · have := h9 (by omega)
        omega
      · rcases Nat.eq_zero_or_pos N with hz | hz
        · subst hz
          simp at hA
          omega
        · omega
def LenP (t : Tree) : Prop := 1 ≤ szT t ∧ (szT t < 1073741824 → ∀ l, ((unfT t l).1.length : Int) + 1 ≤ (l.length : Int) + 2 * szT t)
theorem lenL : ∀ (ts : List Tree), (∀ x ∈ ts, LenP x) → ∀ v : Int, 0 ≤ v → v ≤ 1073741824 → v ≤ szL v ts ∧ (szL v ts < 1073741824 → ∀ l, ((unfTL ts l).1.length : Int) ≤ (l.length : Int) + 2 * (szL v ts - v))
  | [], _, v, h0, h1 => by
    rw [szL]
    refine ⟨Int.le_refl _, fun _ l => ?_⟩
    rw [unfTL]
    show ((l.length : Nat) : Int) ≤ _
    omega
  | x :: r, h, v, h0, h1 => by
    obtain ⟨p1, p2⟩ := h x (by simp)
    rw [szL]
    obtain ⟨i1, i2⟩ := lenL r (fun y hy => h y (by simp [hy])) (min 1073741824 (v + szT x)) (by omega) (by omega)
    refine ⟨by omega, fun hz l => ?_⟩
    have j1 := p2 (by omega) l
    have j2 := i2 hz (unfT x l).1
    rw [unfTL]
    show ((unfTL r (unfT x l).1).1.length : Int) ≤ _
    omega
theorem unf_le (n : Nat) : ∀ (t : Tree), SizeOf.sizeOf t ≤ n → OkU t → OkV t → LenP t := by
  induction n with
  | zero => exact fun t h => by obtain ⟨k, r, a, l, m, x, z, i, nn⟩ := t; simp at h
  | succ n ih =>
  intro t hn hu hv
  have hsub : ∀ x ∈ t.subs, LenP x := fun x hx => ih x (by have := Tree.sub_lt hx; omega) (hu.top.2 x hx) (hv.top.2 x hx)
  obtain ⟨a1, a2⟩ := lenL t.subs hsub 0 (by omega) (by omega)
  unfold LenP
  rw [szT_eq]
  by_cases hk6 : t.kind = 6
  · rw [if_pos hk6]
    obtain ⟨m0, m1, m2, m3⟩ := hv.top.1.1 hk6
    have hpos : 0 < t.subs.length := by
      have := hu.top.1.2.2.2 (.inl hk6)
      omega
    obtain ⟨x, hx⟩ : ∃ x, t.subs[0]? = some x := ⟨_, List.getElem?_eq_getElem hpos⟩
    have hl1 := hu.top.1.2.2.2 (.inl hk6)
    have hs1 : t.subs = [x] := by
      obtain ⟨y, hy⟩ := List.length_eq_one_iff.1 hl1
      rw [hy] at hx
      simp at hx
      rw [hy, hx]
    obtain ⟨p1, p2⟩ := hsub x (List.mem_of_getElem? hx)
    have hz : szL 0 t.subs = min 1073741824 (szT x) := by rw [hs1, szL, szL, Int.zero_add]
    rw [hz, unfT_6 hk6 hx]
    obtain ⟨s, hs⟩ : ∃ s : Nat, min 1073741824 (szT x) = (s : Int) := ⟨(min 1073741824 (szT x)).toNat, by omega⟩
    rw [hs]
    have hs0 : 1 ≤ s := by omega
    have hr1 : 1 ≤ repZ (s : Int) t.mn t.mx := by
      unfold repZ
      split
      · omega
      · split
        · have : 0 ≤ t.mn * (s : Int) := Int.mul_nonneg m0 (by omega)
          omega
        · omega
    refine ⟨by omega, fun hlt l => ?_⟩
    by_cases h00 : t.mn = 0 ∧ t.mx = 0
    · have e := repT_same (f := unfT x) (lz := t.lz) (mn := t.mn) (mx := t.mx) (N := 0) (by omega) (by omega) (by omega) l
      rw [e]
      have h5 := rowT_le (timesT (unfT x) 0 l).2 (timesT (unfT x) 0 l).1
      simp [timesT] at h5
      show ((rowT [] l).1.length : Int) + 1 ≤ _
      omega
    · have hrs : (s : Int) ≤ repZ (s : Int) t.mn t.mx := by
        unfold repZ
        split
        · omega
        · split
          · have : 1 * (s : Int) ≤ t.mn * (s : Int) := Int.mul_le_mul_of_nonneg_right (by omega) (by omega)
            omega
          · by_cases hm1 : 1 ≤ t.mn
            · have h1 : 1 * (s : Int) ≤ t.mn * (s : Int) := Int.mul_le_mul_of_nonneg_right (by omega) (by omega)
              have h2 : 0 ≤ (t.mx - t.mn) * (1 + (s : Int)) := Int.mul_nonneg (by omega) (by omega)
              omega
            · have h1 : 0 ≤ t.mn * (s : Int) := Int.mul_nonneg m0 (by omega)
              have h2 : 1 * (1 + (s : Int)) ≤ (t.mx - t.mn) * (1 + (s : Int)) := Int.mul_le_mul_of_nonneg_right (by omega) (by omega)
              omega
      have hxs : szT x = (s : Int) := by omega
      have hf : ∀ l, (unfT x l).1.length + 1 ≤ l.length + 2 * s := fun l => by
        have := p2 (by omega) l
        omega
      have := rep_le hs0 hf t.lz m0 m3 l
      omega
  · rw [if_neg hk6]
    have hp : ∀ l, (unfT t l).1.length = (unfTL t.subs l).1.length + 1 := fun l => by rw [unfT_n hk6, (putT_len _ _).1]
    by_cases hk : t.kind = 4 ∨ t.kind = 5 ∨ t.kind = 7
    · rw [if_pos hk]
      refine ⟨by omega, fun hlt l => ?_⟩
      rw [hp]
      have := a2 (by omega) l
      omega
    · rw [if_neg hk]
      have hk1 := hu.top.1.1
      have hk7 := hu.top.1.2.1
      have hse := hv.top.1.2 (by omega)
      have hsn := List.eq_nil_of_length_eq_zero hse
      refine ⟨by omega, fun hlt l => ?_⟩
      rw [hp, hsn, unfTL]
      show ((l.length + 1 : Nat) : Int) + 1 ≤ _
      omega
end Go.Proofs.Ytlaofcgllchedaa
