/-
  RefSoundX, Unf, put together.
-/
import Derived.Test.YtlaofcgllchedaaZRefNodeX
import Derived.Test.YtlaofcgllchedaaZ11SoundX
import Derived.Test.YtlaofcgllchedaaZ12RefSound
import Derived.Test.YtlaofcgllchedaaZ00View

/-
  The walks of heronref05.count and Sound on every tree: a yes says that it may be.
-/
namespace Go.Proofs.Ytlaofcgllchedaa
open Go.RowKit
set_option linter.unusedVariables false

/-- what count answers -/
def CntAns (t : Tree) (l : Nat) (d : Int) (w : World) (e : Ending) (w' : World) : Prop :=
  ∃ v : Int, e = .returned (.int .i64 v) ∧ -1 ≤ v ∧ v ≤ 200000 ∧ (0 ≤ v → OkF t d ∧ cntT t ≤ l ∧ v = ((l - cntT t : Nat) : Int)) ∧ Upd Nob w w'
set_option maxRecDepth 100000 in
set_option maxHeartbeats 8000000 in
theorem countX_go (n : Nat) : ∀ (t : Tree) (w : World) (S : Nat → Prop) (cs : Array Value) (l : Nat) (d : Int), SizeOf.sizeOf t ≤ n → NodeR w S cs t → l ≤ 200000 → 0 ≤ d → d ≤ 10001 →
    Calls Try.prog 20 #[.agg cs, .int .i64 (l : Int), .int .i64 d] w (CntAns t l d w) := by
  induction n with
  | zero => exact fun t _ _ _ _ _ h => absurd h (size_pos t)
  | succ n ih =>
  intro t w S cs l d hn h1 hl2 hd0 hd2
  obtain ⟨RA, rc, SA, sc, rfl, hr1, ho, hs1⟩ := h1.top
  have C0 := Cells.new w 30 (nodeCells t RA rc SA sc)
  have hU := (Upd.refl Nob w).alloc (.cells (nodeCells t RA rc SA sc) 30)
  have HCT := hideP (cntT_eq t)
  have IH := hideP ih
  have HN := hideP hn
  have H1 := hideP (h1.upd_ hU (fun _ _ => not_nob))
  have hnl := ho.n
  clear ih hn h1 hr1 hs1 ho
  unfold nodeCells at C0 hU H1
  unfold nodeCells
  generalize hP : CntAns t l d w = P
  have HP := hideP (show ∀ (v : Int) w', -1 ≤ v → v ≤ 200000 → (0 ≤ v → OkF t d ∧ cntT t ≤ l ∧ v = ((l - cntT t : Nat) : Int)) → Upd Nob w w' → P (.returned (.int .i64 v)) w' from fun v w' a b c d => by rw [← hP]; exact ⟨v, rfl, a, b, c, d⟩)
  clear hP
  go_enter Try.func20, Try.ntmps20
  go_upto_region 1 with fail
  generalize w.alloc (.cells #[.int .i64 t.kind, .slice RA t.rs.length rc, .int .i64 t.am, .slice SA t.subs.length sc, .int .i64 t.mn, .int .i64 t.mx, .bool t.lz, .int .i64 t.ix, .string t.nm] 30) = w2 at *
  have HU := hideP hU
  have HC := hideP C0
  obtain ⟨e0, e1, e2, e3, e4, e5, e6, e7, e8⟩ := nine C0
  clear C0 hU
  obtain ⟨m, hm⟩ : ∃ m : Int, (l : Int) - 1 = m := ⟨_, rfl⟩
  have HM := hideP hm
  have m0 : -1 ≤ m := by omega
  have m1 : m ≤ 200000 := by omega
  go_upto_region 2 with (go_at_call 24; refine (refNode_any t _ _ _ H1.out).mono ?_; rintro e w3 ⟨r, rfl, hq, hU3⟩; have HQ := hideP hq; have HU3 := hideP (HU.out.trans hU3 (fun _ _ h => h)); have HC3 := hideP (HC.out.upd hU3 not_nob); have HN3 := hideP (H1.out.upd_ hU3 (fun _ _ => not_nob)).open_.2.2; clear hU3 hq e0 e1 e2 e3 e4 e5 e6 e7 e8)
  rcases r with _ | _
  · clear hm
    go_wp2_with fail
    try go_ret
    exact HP.out _ _ (by omega) (by omega) (fun h => by omega) HU3.out
  by_cases g1 : (10000 : Int) < d
  · clear hm
    go_wp2_with fail
    try go_ret
    exact HP.out _ _ (by omega) (by omega) (fun h => by omega) HU3.out
  have HF := hideP (HQ.out rfl)
  go_upto_region 5 with fail
  clear hm
  go_wp2_with fail
  go_loopg [1, 8] t.subs.length (fun gk v1 v8 wr => ∃ (k : Nat) (v : Int), k + gk = t.subs.length ∧ v8 = .int .i64 (k : Int) ∧ v1 = .int .i64 v ∧ -1 ≤ v ∧ v ≤ 200000 ∧ (0 ≤ v → v = m - (cntL (t.subs.take k) : Nat) ∧ ∀ (j : Nat) x, j < k → t.subs[j]? = some x → OkF x (d + 1)) ∧ Upd Nob w3 wr)
  case atStart => exact ⟨0, m, by omega, rfl, rfl, m0, m1, fun _ => ⟨by simp [cntL], fun j x h => by omega⟩, Upd.refl _ _⟩
  case round =>
    obtain ⟨k, v, hk, rfl, rfl, v0, v1, hv, hUr⟩ := hrel
    have b3 : wr.cell? ⟨w.heap.size, 0 + 3, none⟩ = some (.slice SA t.subs.length sc) := (HC3.out.upd hUr not_nob).cellv rfl
    have HV := hideP hv
    clear hv
    by_cases hlt : k < t.subs.length
    · have g2 : (k : Int) < (t.subs.length : Int) := by omega
      by_cases g3 : 0 ≤ v
      · obtain ⟨ad, g, o, x, PA, pc, QA, qc, rfl, hadd, hSg, hgl, hx, hX, hlx, hcs⟩ := NodeR.sub HN3.out hlt
        have up : ∀ (a : Addr) v, a.block < w3.heap.size → w3.cell? a = some v → wr.cell? a = some v := fun a v hb ha => (hUr.cell hb not_nob).trans ha
        obtain ⟨p0, p1, p2, p3, p4, p5, p6, p7, p8⟩ := sub_cells (fun j v hv => up ⟨g, o + j, none⟩ v hgl (hcs j v hv))
        have hxn : SizeOf.sizeOf x ≤ n := by have := HN.out; omega
        have HX := hideP (hX.upd_ hUr (fun _ _ => not_nob))
        have HXK := hideP hx
        have HST := hideP (cntL_step hx)
        have HUr := hideP hUr
        have HK := hideP hk
        have vw : IntKind.i64.wrap (d + 1) = d + 1 := by rw [IntKind.wrap_i64]; omega
        obtain ⟨q, rfl⟩ : ∃ q : Nat, v = (q : Int) := Int.eq_ofNat_of_zero_le g3
        have HVV := hideP (HV.out g3)
        clear up hcs hX hx hlx hUr hk
        go_wp2_with fail
        refine (IH.out x wr _ _ q (d + 1) hxn HX.out (by omega) (by omega) (by omega)).mono ?_
        rintro e w5 ⟨v', rfl, v2, v3, hv', hU5⟩
        have HU5 := hideP (HUr.out.trans hU5 (fun _ _ h => h))
        have HV' := hideP hv'
        clear hU5 hv' b3 p0 p1 p2 p3 p4 p5 p6 p7 p8
        go_wp2_with fail
        have hk := HK.out
        go_roundg (t.subs.length - (k + 1))
        case measure => omega
        case rel => exact ⟨k + 1, v', by omega, by go_num, rfl, v2, v3, fun h => by
          obtain ⟨o1, o2, o3⟩ := HV'.out h
          obtain ⟨p1, p2⟩ := HVV.out
          have hst := HST.out
          refine ⟨by omega, fun j z hj hz => ?_⟩
          by_cases e : j = k
          · subst e
            rw [HXK.out] at hz
            injection hz with hz
            subst hz
            exact o1
          · exact p2 j z (by omega) hz, HU5.out⟩
      · have HUr := hideP hUr
        clear hUr
        go_wp2_with fail
        try go_ret
        exact HP.out _ _ v0 v1 (fun h => absurd h (by omega)) (HU3.out.trans HUr.out (fun _ _ h => h))
    · have g2 : ¬ (k : Int) < (t.subs.length : Int) := by omega
      have HUr := hideP hUr
      have HK := hideP (show k = t.subs.length by omega)
      clear hUr
      go_wp2_with fail
      try go_ret
      refine HP.out _ _ v0 v1 (fun h => ?_) (HU3.out.trans HUr.out (fun _ _ h => h))
      obtain ⟨p1, p2⟩ := HV.out h
      have hk := HK.out
      rw [hk, List.take_length] at p1
      have h1 := HCT.out
      have h2 := HM.out
      exact ⟨OkF.of HF.out (by omega) (fun i x hx => p2 i x (by rw [hk]; exact (List.getElem?_eq_some_iff.1 hx).1) hx), by omega, by omega⟩

/-- some answer; 0 says that it may be -/
def RsAns (t : Tree) (w : World) (e : Ending) (w' : World) : Prop := ∃ r : Bool, e = .returned (.int .i64 (if r = true then 0 else 50)) ∧ (r = true → SoundF t) ∧ Upd Nob w w'
set_option maxHeartbeats 2000000 in
theorem refSound_any (t : Tree) (w : World) (S : Nat → Prop) (cs : Array Value) (h1 : NodeR w S cs t) :
    Calls Try.prog 12 #[.agg cs] w (RsAns t w) := by
  obtain ⟨RA, rc, SA, sc, rfl, -⟩ := h1.top
  have HN := hideP h1
  clear h1
  unfold nodeCells at HN ⊢
  generalize hP : RsAns t w = P
  have HPy := hideP (show ∀ w', SoundF t → Upd Nob w w' → P (.returned (.int .i64 0)) w' from fun w' a c => by rw [← hP]; exact ⟨true, rfl, fun _ => a, c⟩)
  have HPn := hideP (show ∀ w', Upd Nob w w' → P (.returned (.int .i64 50)) w' from fun w' c => by rw [← hP]; exact ⟨false, rfl, fun h => (by cases h), c⟩)
  clear hP
  have C0 := Cells.new w 30 #[.int .i64 t.kind, .slice RA t.rs.length rc, .int .i64 t.am, .slice SA t.subs.length sc, .int .i64 t.mn, .int .i64 t.mx, .bool t.lz, .int .i64 t.ix, .string t.nm]
  have hU2 := (Upd.refl Nob w).alloc (.cells #[.int .i64 t.kind, .slice RA t.rs.length rc, .int .i64 t.am, .slice SA t.subs.length sc, .int .i64 t.mn, .int .i64 t.mx, .bool t.lz, .int .i64 t.ix, .string t.nm] 30)
  go_enter Try.func12, Try.ntmps12
  go_upto_region 1 with fail
  generalize w.alloc (.cells #[.int .i64 t.kind, .slice RA t.rs.length rc, .int .i64 t.am, .slice SA t.subs.length sc, .int .i64 t.mn, .int .i64 t.mx, .bool t.lz, .int .i64 t.ix, .string t.nm] 30) = w2 at *
  obtain ⟨e0, e1, e2, e3, e4, e5, e6, e7, e8⟩ := nine C0
  clear C0
  go_wp2_with fail
  refine (countX_go _ t w2 S _ 200000 1 (Nat.le_refl _) (HN.out.upd_ hU2 (fun _ _ => not_nob)) (by omega) (by omega) (by omega)).mono ?_
  rintro e w3 ⟨v, rfl, v0, v1, hv, hU3⟩
  have HU3 := hideP (hU2.trans hU3 (fun _ _ h => h))
  have HV := hideP hv
  clear hU3 hU2 hv e0 e1 e2 e3 e4 e5 e6 e7 e8
  by_cases g : v < 0
  · go_wp2_with fail
    try go_ret
    exact HPn.out _ HU3.out
  · have HS := hideP (show SoundF t from ⟨(HV.out (by omega)).1, (HV.out (by omega)).2.1⟩)
    go_wp2_with fail
    try go_ret
    exact HPy.out _ HS.out HU3.out
end Go.Proofs.Ytlaofcgllchedaa

/-
  Unfolded trees as rows of nodes, and the walk through them depth first, with what was begun and decided kept: plain; what it finds is what can be come to.
-/
namespace Go.Proofs.Ytlaofcgllchedaa
set_option linter.unusedVariables false

/-- what a text says of classes and assertions at its places -/
structure Env where
  cls : List (Int × Int) → Nat → Bool
  asr : Int → Nat → Bool
/-- unfolded trees -/
inductive UT where
  | eps | cls (rs : List (Int × Int)) | asr (a : Int) | cat (l : List UT) | alt (l : List UT) | grp (ix : Int) (x : UT)
  | star (x : UT) (lz : Bool) | plus (x : UT) (lz : Bool) | quest (x : UT) (lz : Bool)
/-- a node of the row -/
structure PN where
  kind : Int
  asr : Int
  ix : Int
  rs : List (Int × Int)
  subs : List Nat
  lz : Bool
  up : Int
  nth : Int
/-- so many steps -/
inductive StarR (R : Nat → Nat → Prop) : Nat → Nat → Prop
  | nil (i) : StarR R i i
  | cons (i j k) : R i j → StarR R j k → StarR R i k
theorem StarR.one {R : Nat → Nat → Prop} {i j : Nat} (h : R i j) : StarR R i j := .cons _ _ _ h (.nil _)
theorem StarR.trans {R : Nat → Nat → Prop} {i j k : Nat} (h : StarR R i j) (g : StarR R j k) : StarR R i k := by
  induction h with
  | nil => exact g
  | cons i j k h1 _ ih => exact .cons _ _ _ h1 (ih g)
mutual
/-- does an unfolded tree fit from a place to another one? -/
def fitU (E : Env) : UT → Nat → Nat → Prop
  | .eps, i, j => i = j
  | .cls rs, i, j => E.cls rs i = true ∧ j = i + 1
  | .asr a, i, j => E.asr a i = true ∧ i = j
  | .cat l, i, j => fitC E l i j
  | .alt l, i, j => fitA E l i j
  | .grp _ x, i, j => fitU E x i j
  | .star x _, i, j => StarR (fitU E x) i j
  | .plus x _, i, j => ∃ k, fitU E x i k ∧ StarR (fitU E x) k j
  | .quest x _, i, j => i = j ∨ fitU E x i j
def fitC (E : Env) : List UT → Nat → Nat → Prop
  | [], i, j => i = j
  | x :: r, i, j => ∃ k, fitU E x i k ∧ fitC E r k j
def fitA (E : Env) : List UT → Nat → Nat → Prop
  | [], _, _ => False
  | x :: r, i, j => fitU E x i j ∨ fitA E r i j
end
theorem fitA_iff (E : Env) : ∀ (l : List UT) (i j : Nat), fitA E l i j ↔ ∃ x ∈ l, fitU E x i j
  | [], i, j => by simp [fitA]
  | x :: r, i, j => by rw [fitA, fitA_iff E r]; simp

/-! ### the row stands for an unfolded tree -/
mutual
/-- node n of the row, and what stands below it, is the tree -/
inductive Rep (l : List PN) : UT → Nat → Prop
  | eps (n : Nat) (x : PN) : l[n]? = some x → x.kind = 1 → Rep l .eps n
  | cls (n : Nat) (x : PN) : l[n]? = some x → x.kind = 2 → Rep l (.cls x.rs) n
  | asr (n : Nat) (x : PN) : l[n]? = some x → x.kind = 3 → Rep l (.asr x.asr) n
  | cat (n : Nat) (x : PN) (us : List UT) : l[n]? = some x → x.kind = 4 → x.subs ≠ [] → RepS l us n 0 x.subs → Rep l (.cat us) n
  | alt (n : Nat) (x : PN) (us : List UT) : l[n]? = some x → x.kind = 5 → RepS l us n 0 x.subs → Rep l (.alt us) n
  | grp (n : Nat) (x : PN) (u : UT) : l[n]? = some x → x.kind = 7 → RepS l [u] n 0 x.subs → Rep l (.grp x.ix u) n
  | star (n : Nat) (x : PN) (u : UT) : l[n]? = some x → x.kind = 101 → RepS l [u] n 0 x.subs → Rep l (.star u x.lz) n
  | plus (n : Nat) (x : PN) (u : UT) : l[n]? = some x → x.kind = 102 → RepS l [u] n 0 x.subs → Rep l (.plus u x.lz) n
  | quest (n : Nat) (x : PN) (u : UT) : l[n]? = some x → x.kind = 103 → RepS l [u] n 0 x.subs → Rep l (.quest u x.lz) n
/-- some nodes, subs of node n from the k-th on -/
inductive RepS (l : List PN) : List UT → Nat → Nat → List Nat → Prop
  | nil (n k : Nat) : RepS l [] n k []
  | cons (n k : Nat) (u : UT) (us : List UT) (s : Nat) (ss : List Nat) (x : PN) : Rep l u s → l[s]? = some x → x.up = (n : Int) → x.nth = (k : Int) → RepS l us n (k + 1) ss → RepS l (u :: us) n k (s :: ss)
end
theorem RepS.none {l : List PN} {n k : Nat} {ss : List Nat} (h : RepS l [] n k ss) : ss = [] := by
  cases h
  rfl
theorem RepS.one {l : List PN} {u : UT} {n : Nat} {ss : List Nat} (h : RepS l [u] n 0 ss) : ∃ s x, ss = [s] ∧ Rep l u s ∧ l[s]? = some x ∧ x.up = (n : Int) ∧ x.nth = 0 := by
  cases h with
  | cons _ _ _ _ s ss x h1 h2 h3 h4 h5 =>
    cases h5
    exact ⟨s, x, rfl, h1, h2, h3, h4⟩
/-- what a node stands in -/
inductive Ctx where
  | top | seq (rest : List UT) (k : Ctx) | one (k : Ctx) | loop (x : UT) (k : Ctx)
inductive RepC (l : List PN) : Ctx → Nat → Prop
  | top (n : Nat) (x : PN) : l[n]? = some x → x.up < 0 → RepC l .top n
  | seq (n : Nat) (x : PN) (m : Nat) (y : PN) (us : List UT) (ss : List Nat) (c : Ctx) (k : Nat) : l[n]? = some x → x.up = (m : Int) → x.nth = (k : Int) → l[m]? = some y → y.kind = 4 → y.subs.drop (k + 1) = ss → RepS l us m (k + 1) ss → RepC l c m → RepC l (.seq us c) n
  | one (n : Nat) (x : PN) (m : Nat) (y : PN) (c : Ctx) : l[n]? = some x → x.up = (m : Int) → l[m]? = some y → y.kind = 5 ∨ y.kind = 7 ∨ y.kind = 103 → RepC l c m → RepC l (.one c) n
  | loop (n : Nat) (x : PN) (m : Nat) (y : PN) (u : UT) (c : Ctx) : l[n]? = some x → x.up = (m : Int) → l[m]? = some y → y.kind = 101 ∨ y.kind = 102 → y.subs = [n] → Rep l u n → RepC l c m → RepC l (.loop u c) n
/-- from behind a node to the end of the whole -/
def outC (E : Env) : Ctx → Nat → Nat → Prop
  | .top, i, e => i = e
  | .seq us c, i, e => ∃ k, fitC E us i k ∧ outC E c k e
  | .one c, i, e => outC E c i e
  | .loop x c, i, e => ∃ k, StarR (fitU E x) i k ∧ outC E c k e

/-! ### what can be come to -/
inductive Cf where
  | B (n p : Nat) | D (n p : Nat) | H (n p : Nat) | E (p : Nat)
def subW (x : PN) : Nat := x.subs.getD 0 0
/-- the next things -/
def succs (E : Env) (l : List PN) : Cf → List Cf
  | .B n p => match l[n]? with
    | none => []
    | some x => if x.kind = 1 then [.H n p]
      else if x.kind = 2 then (if E.cls x.rs p = true then [.H n (p + 1)] else [])
      else if x.kind = 3 then (if E.asr x.asr p = true then [.H n p] else [])
      else if x.kind = 4 ∨ x.kind = 102 then [.B (subW x) p]
      else if x.kind = 5 then x.subs.map (fun s => .B s p)
      else if x.kind = 7 then [.B (subW x) p]
      else if x.kind = 103 then [.B (subW x) p, .H n p]
      else if x.kind = 101 then [.D n p]
      else []
  | .D n p => match l[n]? with
    | none => []
    | some x => [.B (subW x) p, .H n p]
  | .H n p => match l[n]? with
    | none => []
    | some x => if x.up < 0 then [.E p] else match l[x.up.toNat]? with
      | none => []
      | some y => if y.kind = 4 then (if x.nth.toNat + 1 < y.subs.length then [.B (y.subs.getD (x.nth.toNat + 1) 0) p] else [.H x.up.toNat p])
        else if y.kind = 7 then [.H x.up.toNat p]
        else if y.kind = 101 ∨ y.kind = 102 then [.D x.up.toNat p]
        else [.H x.up.toNat p]
  | .E _ => []
inductive Rch (E : Env) (l : List PN) : Cf → Cf → Prop
  | nil (c) : Rch E l c c
  | cons (a b c) : b ∈ succs E l a → Rch E l b c → Rch E l a c
theorem Rch.trans {E : Env} {l : List PN} {a b c : Cf} (h : Rch E l a b) (g : Rch E l b c) : Rch E l a c := by
  induction h with
  | nil => exact g
  | cons a b c h1 _ ih => exact .cons _ _ _ h1 (ih g)
theorem Rch.one {E : Env} {l : List PN} {a b : Cf} (h : b ∈ succs E l a) : Rch E l a b := .cons _ _ _ h (.nil _)

/-! ### what fits can be come to -/
theorem succ_up {E : Env} {l : List PN} {n m p : Nat} {x y : PN} (h : l[n]? = some x) (hu : x.up = (m : Int)) (hm : l[m]? = some y) : succs E l (.H n p) = if y.kind = 4 then (if x.nth.toNat + 1 < y.subs.length then [.B (y.subs.getD (x.nth.toNat + 1) 0) p] else [.H m p])
        else if y.kind = 7 then [.H m p]
        else if y.kind = 101 ∨ y.kind = 102 then [.D m p]
        else [.H m p] := by
  have e : x.up.toNat = m := by omega
  simp only [succs, h]
  rw [if_neg (by omega), e]
  simp only [hm]
mutual
theorem fit_rch {E : Env} {l : List PN} : ∀ (u : UT) (n i j : Nat), Rep l u n → fitU E u i j → Rch E l (.B n i) (.H n j)
  | .eps, n, i, j, hr, hf => by
    cases hr with
    | eps _ x h1 h2 =>
      simp only [fitU] at hf
      subst hf
      exact .one (by simp [succs, h1, h2])
  | .cls rs, n, i, j, hr, hf => by
    cases hr with
    | cls _ x h1 h2 =>
      simp only [fitU] at hf
      obtain ⟨hf, rfl⟩ := hf
      exact .one (by simp [succs, h1, h2, hf])
  | .asr a, n, i, j, hr, hf => by
    cases hr with
    | asr _ x h1 h2 =>
      simp only [fitU] at hf
      obtain ⟨hf, rfl⟩ := hf
      exact .one (by simp [succs, h1, h2, hf])
  | .cat us, n, i, j, hr, hf => by
    cases hr with
    | cat _ x _ h1 h2 h0 h3 =>
      simp only [fitU] at hf
      cases us with
      | nil => exact absurd h3.none h0
      | cons u us =>
        have := fits_rch (u :: us) n i j x 0 x.subs h1 h2 rfl h3 hf (by simp)
        refine .cons _ (.B (subW x) i) _ (by simp [succs, h1, h2]) ?_
        unfold subW
        exact this
  | .alt us, n, i, j, hr, hf => by
    cases hr with
    | alt _ x _ h1 h2 h3 =>
      simp only [fitU] at hf
      obtain ⟨s, hs, hr⟩ := alts_rch us n i j x 0 x.subs h1 h2 h3 hf
      exact .cons _ (.B s i) _ (by simp [succs, h1, h2, hs]) hr
  | .grp ix u, n, i, j, hr, hf => by
    cases hr with
    | grp _ x _ h1 h2 h3 =>
      simp only [fitU] at hf
      obtain ⟨s, y, e, hr, hy, hu, hn⟩ := h3.one
      refine .cons _ (.B s i) _ (by simp [succs, h1, h2, subW, e]) ((fit_rch u s i j hr hf).trans (.one ?_))
      rw [succ_up hy hu h1, if_neg (by omega), if_pos h2]
      simp
  | .star u lz, n, i, j, hr, hf => by
    cases hr with
    | star _ x _ h1 h2 h3 =>
      simp only [fitU] at hf
      obtain ⟨s, y, e, hr, hy, hu, hn⟩ := h3.one
      refine .cons _ (.D n i) _ (by simp [succs, h1, h2]) ?_
      refine (star_rch h1 (.inl h2) e hy hu (fun i j h => fit_rch u s i j hr h) hf).trans (.one (by simp [succs, h1]))
  | .plus u lz, n, i, j, hr, hf => by
    cases hr with
    | plus _ x _ h1 h2 h3 =>
      simp only [fitU] at hf
      obtain ⟨k, hf, hs⟩ := hf
      obtain ⟨s, y, e, hr, hy, hu, hn⟩ := h3.one
      refine .cons _ (.B s i) _ (by simp [succs, h1, h2, subW, e]) ((fit_rch u s i k hr hf).trans ?_)
      refine .cons _ (.D n k) _ (by rw [succ_up hy hu h1, if_neg (by omega), if_neg (by omega), if_pos (.inr h2)]; simp) ?_
      exact (star_rch h1 (.inr h2) e hy hu (fun i j h => fit_rch u s i j hr h) hs).trans (.one (by simp [succs, h1]))
  | .quest u lz, n, i, j, hr, hf => by
    cases hr with
    | quest _ x _ h1 h2 h3 =>
      simp only [fitU] at hf
      obtain ⟨s, y, e, hr, hy, hu, hn⟩ := h3.one
      rcases hf with rfl | hf
      · exact .one (by simp [succs, h1, h2])
      · refine .cons _ (.B s i) _ (by simp [succs, h1, h2, subW, e]) ((fit_rch u s i j hr hf).trans (.one ?_))
        rw [succ_up hy hu h1, if_neg (by omega), if_neg (by omega), if_neg (by omega)]
        simp
theorem fits_rch {E : Env} {l : List PN} : ∀ (us : List UT) (n i j : Nat) (x : PN) (k : Nat) (ss : List Nat), l[n]? = some x → x.kind = 4 → x.subs.drop k = ss → RepS l us n k ss → fitC E us i j → us ≠ [] → Rch E l (.B (ss.getD 0 0) i) (.H n j)
  | [], n, i, j, x, k, ss, h1, h2, hd, hr, hf, hne => absurd rfl hne
  | u :: us, n, i, j, x, k, ss, h1, h2, hd, hr, hf, hne => by
    cases hr with
    | cons _ _ _ _ s ss y hr hy hu hn hrs =>
      simp only [fitC] at hf
      obtain ⟨m, hf, hg⟩ := hf
      refine (fit_rch u s i m hr hf).trans ?_
      have hlen : x.subs.length - k = ss.length + 1 := by rw [← List.length_drop, hd]; simp
      have en : y.nth.toNat = k := by omega
      cases us with
      | nil =>
        cases hrs
        simp only [fitC] at hg
        subst hg
        simp only [List.length_nil] at hlen
        refine .one ?_
        rw [succ_up hy hu h1, if_pos h2, if_neg (by omega)]
        simp
      | cons v us =>
        have hd2 : x.subs.drop (k + 1) = ss := by
          have := congrArg (List.drop 1) hd
          rw [List.drop_drop] at this
          simpa using this
        have := fits_rch (v :: us) n m j x (k + 1) ss h1 h2 hd2 hrs hg (by simp)
        refine .cons _ (.B (ss.getD 0 0) m) _ ?_ this
        have hne2 : 0 < ss.length := by cases hrs; simp
        rw [succ_up hy hu h1, if_pos h2, if_pos (by omega), en]
        have e2 : x.subs.getD (k + 1) 0 = ss.getD 0 0 := by
          rw [← hd2]
          simp [List.getD_eq_getElem?_getD, List.getElem?_drop]
        rw [e2]
        simp
theorem alts_rch {E : Env} {l : List PN} : ∀ (us : List UT) (n i j : Nat) (x : PN) (k : Nat) (ss : List Nat), l[n]? = some x → x.kind = 5 → RepS l us n k ss → fitA E us i j → ∃ s ∈ ss, Rch E l (.B s i) (.H n j)
  | [], n, i, j, x, k, ss, h1, h2, hr, hf => by simp only [fitA] at hf
  | u :: us, n, i, j, x, k, ss, h1, h2, hr, hf => by
    cases hr with
    | cons _ _ _ _ s ss y hr hy hu hn hrs =>
      simp only [fitA] at hf
      rcases hf with hf | hf
      · refine ⟨s, by simp, (fit_rch u s i j hr hf).trans (.one ?_)⟩
        rw [succ_up hy hu h1, if_neg (by omega), if_neg (by omega), if_neg (by omega)]
        simp
      · obtain ⟨s', hs, h⟩ := alts_rch us n i j x (k + 1) ss h1 h2 hrs hf
        exact ⟨s', by simp [hs], h⟩
theorem star_rch {E : Env} {l : List PN} {n s : Nat} {x y : PN} {R : Nat → Nat → Prop} (h1 : l[n]? = some x) (h2 : x.kind = 101 ∨ x.kind = 102) (e : x.subs = [s]) (hy : l[s]? = some y) (hu : y.up = (n : Int))
    (hR : ∀ i j, R i j → Rch E l (.B s i) (.H s j)) : ∀ {i j : Nat}, StarR R i j → Rch E l (.D n i) (.D n j) := by
  intro i j h
  induction h with
  | nil => exact .nil _
  | cons i j k h3 _ ih =>
    refine .cons _ (.B s i) _ (by simp [succs, h1, subW, e]) ((hR i j h3).trans ?_)
    refine .cons _ (.D n j) _ (by rw [succ_up hy hu h1, if_neg (by omega), if_neg (by omega), if_pos h2]; simp) ih
end

/-! ### what can be come to fits -/
/-- what a thing that was come to tells -/
def Inv (E : Env) (l : List PN) (G : Nat → Prop) : Cf → Prop
  | .B n p => ∃ u c, Rep l u n ∧ RepC l c n ∧ ∀ j e, fitU E u p j → outC E c j e → G e
  | .H n p => ∃ c, RepC l c n ∧ ∀ e, outC E c p e → G e
  | .D n p => ∃ u s c x, l[n]? = some x ∧ (x.kind = 101 ∨ x.kind = 102) ∧ x.subs = [s] ∧ Rep l u s ∧ RepC l (.loop u c) s ∧ RepC l c n ∧ ∀ j e, StarR (fitU E u) p j → outC E c j e → G e
  | .E p => G p
theorem RepS.at_ {l : List PN} : ∀ {us : List UT} {n k : Nat} {ss : List Nat}, RepS l us n k ss → ∀ (i s : Nat), ss[i]? = some s → ∃ u x, us[i]? = some u ∧ Rep l u s ∧ l[s]? = some x ∧ x.up = (n : Int) ∧ x.nth = ((k + i : Nat) : Int) ∧ RepS l (us.drop (i + 1)) n (k + i + 1) (ss.drop (i + 1))
  | [], n, k, ss, h, i, s, hi => by
    rw [h.none] at hi
    simp at hi
  | u :: us, n, k, ss, h, i, s, hi => by
    cases h with
    | cons _ _ _ _ s0 ss x h1 h2 h3 h4 h5 =>
      cases i with
      | zero =>
        simp only [List.getElem?_cons_zero, Option.some.injEq] at hi
        subst hi
        exact ⟨u, x, rfl, h1, h2, h3, h4, by simpa using h5⟩
      | succ i =>
        simp only [List.getElem?_cons_succ] at hi
        obtain ⟨u', x', e1, e2, e3, e4, e5, e6⟩ := h5.at_ i s hi
        exact ⟨u', x', by simpa using e1, e2, e3, e4, by rw [e5]; congr 1; omega, by rw [show k + (i + 1) + 1 = k + 1 + i + 1 by omega]; simpa using e6⟩
theorem inv_seq {E : Env} {l : List PN} {G : Nat → Prop} {n m k p : Nat} {y : PN} {us : List UT} {c : Ctx} (hm : l[m]? = some y) (h4 : y.kind = 4) (hc : RepC l c m) {s : Nat} (hs : y.subs[k]? = some s) (hr : RepS l us m k (y.subs.drop k))
    (hG : ∀ e, (∃ j, fitC E us p j ∧ outC E c j e) → G e) : Inv E l G (.B s p) := by
  obtain ⟨u, x, e1, e2, e3, e4, e5, e6⟩ := hr.at_ 0 s (by rw [List.getElem?_drop]; simpa using hs)
  refine ⟨u, .seq (us.drop 1) c, e2, .seq s x m y (us.drop 1) (y.subs.drop (k + 1)) c k e3 e4 (by rw [e5]; simp) hm h4 rfl ?_ hc, fun j e hf ho => ?_⟩
  · rw [List.drop_drop] at e6
    simpa using e6
  · simp only [outC] at ho
    obtain ⟨q, ho1, ho2⟩ := ho
    refine hG e ⟨q, ?_, ho2⟩
    cases us with
    | nil => simp at e1
    | cons a us =>
      simp at e1
      subst e1
      simp only [fitC]
      exact ⟨j, hf, by simpa using ho1⟩
theorem inv_step {E : Env} {l : List PN} {G : Nat → Prop} {a b : Cf} (ha : Inv E l G a) (hb : b ∈ succs E l a) : Inv E l G b := by
  cases a with
  | E p => simp [succs] at hb
  | D n p =>
    obtain ⟨u, s, c, x, hx, hk, hs, hr, hcl, hc, hG⟩ := ha
    simp only [succs, hx, List.mem_cons, List.not_mem_nil, or_false] at hb
    rcases hb with rfl | rfl
    · have e : subW x = s := by simp [subW, hs]
      rw [e]
      refine ⟨u, .loop u c, hr, hcl, fun j e hf ho => ?_⟩
      simp only [outC] at ho
      obtain ⟨q, h1, h2⟩ := ho
      exact hG q e (.cons _ _ _ hf h1) h2
    · exact ⟨c, hc, fun e ho => hG p e (.nil _) ho⟩
  | H n p =>
    obtain ⟨c, hc, hG⟩ := ha
    cases hc with
    | top _ x hx hu =>
      simp only [succs, hx] at hb
      rw [if_pos hu] at hb
      simp at hb
      subst hb
      exact hG p (by simp [outC])
    | seq _ x m y us ss c k hx hu hn hm hk hd hr hc =>
      have en : x.nth.toNat = k := by omega
      rw [succ_up hx hu hm, if_pos hk, en] at hb
      split at hb
      · rename_i hlt
        simp at hb
        subst hb
        refine inv_seq (n := n) (k := k + 1) hm hk hc (by simp [List.getElem?_eq_getElem hlt]) (by rw [hd]; exact hr) (fun e ⟨j, h1, h2⟩ => hG e ⟨j, h1, h2⟩)
      · rename_i hlt
        simp at hb
        subst hb
        have hss : ss = [] := by rw [← hd]; exact List.drop_eq_nil_of_le (by omega)
        subst hss
        cases hr
        exact ⟨c, hc, fun e ho => hG e ⟨p, by simp [fitC], ho⟩⟩
    | one _ x m y c hx hu hm hk hc =>
      rw [succ_up hx hu hm, if_neg (by omega)] at hb
      have hb2 : b = .H m p := by
        split at hb
        · simpa using hb
        · rw [if_neg (by omega)] at hb
          simpa using hb
      subst hb2
      exact ⟨c, hc, fun e ho => hG e (by simp only [outC]; exact ho)⟩
    | loop _ x m y u c hx hu hm hk hs hr hc =>
      rw [succ_up hx hu hm, if_neg (by omega), if_neg (by omega), if_pos hk] at hb
      simp at hb
      subst hb
      refine ⟨u, n, c, y, hm, hk, hs, hr, .loop n x m y u c hx hu hm hk hs hr hc, hc, fun j e h1 h2 => hG e ?_⟩
      simp only [outC]
      exact ⟨j, h1, h2⟩
  | B n p =>
    obtain ⟨u, c, hr, hc, hG⟩ := ha
    cases hr with
    | eps _ x hx hk =>
      simp [succs, hx, hk] at hb
      subst hb
      exact ⟨c, hc, fun e ho => hG p e (by simp [fitU]) ho⟩
    | cls _ x hx hk =>
      simp [succs, hx, hk] at hb
      obtain ⟨h1, rfl⟩ := hb
      exact ⟨c, hc, fun e ho => hG (p + 1) e (by simp [fitU, h1]) ho⟩
    | asr _ x hx hk =>
      simp [succs, hx, hk] at hb
      obtain ⟨h1, rfl⟩ := hb
      exact ⟨c, hc, fun e ho => hG p e (by simp [fitU, h1]) ho⟩
    | cat _ x us hx hk h0 hrs =>
      simp [succs, hx, hk] at hb
      subst hb
      obtain ⟨s, r, e⟩ := List.exists_cons_of_ne_nil h0
      have es : subW x = s := by simp [subW, e]
      rw [es]
      exact inv_seq (n := n) (k := 0) (us := us) hx hk hc (by rw [e]; rfl) (by simpa using hrs) (fun e ⟨j, h1, h2⟩ => hG j e (by simp only [fitU]; exact h1) h2)
    | alt _ x us hx hk hrs =>
      simp [succs, hx, hk] at hb
      obtain ⟨s, hs, rfl⟩ := hb
      obtain ⟨i, hi⟩ := List.mem_iff_getElem?.1 hs
      obtain ⟨u, y, e1, e2, e3, e4, e5, -⟩ := hrs.at_ i s hi
      refine ⟨u, .one c, e2, .one s y n x c e3 e4 hx (.inl hk) hc, fun j e hf ho => hG j e ?_ (by simpa [outC] using ho)⟩
      simp only [fitU]
      exact (fitA_iff E us p j).2 ⟨u, List.mem_of_getElem? e1, hf⟩
    | grp _ x u hx hk hrs =>
      simp [succs, hx, hk] at hb
      subst hb
      obtain ⟨s, y, e, h1, h2, h3, h4⟩ := hrs.one
      have es : subW x = s := by simp [subW, e]
      rw [es]
      exact ⟨u, .one c, h1, .one s y n x c h2 h3 hx (.inr (.inl hk)) hc, fun j e hf ho => hG j e (by simp only [fitU]; exact hf) (by simpa [outC] using ho)⟩
    | star _ x u hx hk hrs =>
      simp [succs, hx, hk] at hb
      subst hb
      obtain ⟨s, y, e, h1, h2, h3, h4⟩ := hrs.one
      exact ⟨u, s, c, x, hx, .inl hk, e, h1, .loop s y n x u c h2 h3 hx (.inl hk) e h1 hc, hc, fun j e hf ho => hG j e (by simp only [fitU]; exact hf) ho⟩
    | plus _ x u hx hk hrs =>
      simp [succs, hx, hk] at hb
      subst hb
      obtain ⟨s, y, e, h1, h2, h3, h4⟩ := hrs.one
      have es : subW x = s := by simp [subW, e]
      rw [es]
      refine ⟨u, .loop u c, h1, .loop s y n x u c h2 h3 hx (.inr hk) e h1 hc, fun j e hf ho => ?_⟩
      simp only [outC] at ho
      obtain ⟨q, g1, g2⟩ := ho
      exact hG q e (by simp only [fitU]; exact ⟨j, hf, g1⟩) g2
    | quest _ x u hx hk hrs =>
      simp [succs, hx, hk] at hb
      obtain ⟨s, y, e, h1, h2, h3, h4⟩ := hrs.one
      have es : subW x = s := by simp [subW, e]
      rw [es] at hb
      rcases hb with rfl | rfl
      · exact ⟨u, .one c, h1, .one s y n x c h2 h3 hx (.inr (.inr hk)) hc, fun j e hf ho => hG j e (by simp only [fitU]; exact .inr hf) (by simpa [outC] using ho)⟩
      · exact ⟨c, hc, fun e ho => hG p e (by simp [fitU]) ho⟩
theorem inv_rch {E : Env} {l : List PN} {G : Nat → Prop} {a b : Cf} (h : Rch E l a b) (ha : Inv E l G a) : Inv E l G b := by
  induction h with
  | nil => exact ha
  | cons a b c h1 _ ih => exact ih (inv_step ha h1)
/-- the whole's ends are what can be come to -/
theorem rch_iff {E : Env} {l : List PN} {u : UT} {n p e : Nat} {x : PN} (hr : Rep l u n) (hx : l[n]? = some x) (hu : x.up < 0) : Rch E l (.B n p) (.E e) ↔ fitU E u p e := by
  constructor
  · intro h
    have := inv_rch (G := fun e => fitU E u p e) h ⟨u, .top, hr, .top n x hx hu, fun j e hf ho => by simp only [outC] at ho; subst ho; exact hf⟩
    exact this
  · intro h
    refine (fit_rch u n p e hr h).trans (.one ?_)
    simp [succs, hx, hu]
end Go.Proofs.Ytlaofcgllchedaa
