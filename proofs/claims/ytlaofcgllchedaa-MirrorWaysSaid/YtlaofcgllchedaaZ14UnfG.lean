/-
  UnfT, UnfG, put together.
-/
import Derived.Test.YtlaofcgllchedaaZ13Unf
import Derived.Test.YtlaofcgllchedaaZ02TreeP

/-
  A tree unfolded into a row of nodes, plain: the row stands for the unfolded tree.
-/
namespace Go.Proofs.Ytlaofcgllchedaa
set_option linter.unusedVariables false

/-! ### unfolding, as trees -/
def rowU : List UT → UT
  | [] => .eps
  | [x] => x
  | l => .cat l
def optU (x : UT) (lz : Bool) : Nat → UT
  | 0 => .eps
  | 1 => .quest x lz
  | k + 2 => .quest (.cat [x, optU x lz (k + 1)]) lz
def repU (x : UT) (mn mx : Int) (lz : Bool) : UT :=
  if mx < 0 ∧ mn = 0 then .star x lz
  else rowU (List.replicate (if mx < 0 then mn - 1 else mn).toNat x ++ (if mx < 0 then [.plus x lz] else if mn < mx then [optU x lz (mx - mn).toNat] else []))
mutual
def unfU : Tree → UT
  | .mk k rs am subs mn mx lz ix nm =>
    if k = 6 then repU (unfUH subs) mn mx lz
    else if k = 2 then .cls rs
    else if k = 3 then .asr am
    else if k = 4 then .cat (unfUL subs)
    else if k = 5 then .alt (unfUL subs)
    else if k = 7 then .grp ix (unfUH subs)
    else .eps
def unfUL : List Tree → List UT
  | [] => []
  | t :: l => unfU t :: unfUL l
def unfUH : List Tree → UT
  | [] => .eps
  | t :: _ => unfU t
end
theorem unfUL_map : ∀ (l : List Tree), unfUL l = l.map unfU
  | [] => by rw [unfUL]; rfl
  | t :: l => by rw [unfUL, unfUL_map l]; rfl

/-! ### unfolding, as a row -/
def setUp (l : List PN) (s n k : Nat) : List PN := l.modify s (fun y => { y with up := (n : Int), nth := (k : Int) })
def setUps (l : List PN) (n : Nat) : Nat → List Nat → List PN
  | _, [] => l
  | k, s :: ss => setUps (setUp l s n k) n (k + 1) ss
abbrev Uf := List PN → List PN × Nat
def bareN (k : Int) (subs : List Nat) (lz : Bool) : PN := ⟨k, 0, 0, [], subs, lz, 0, 0⟩
def putT (x : PN) : Uf := fun l => (setUps (l ++ [{ x with up := -1 }]) l.length 0 x.subs, l.length)
def rowT (ss : List Nat) : Uf := fun l => match ss with
  | [] => putT (bareN 1 [] false) l
  | [a] => (l, a)
  | ss => putT (bareN 4 ss false) l
def optT (f : Uf) (lz : Bool) : Nat → Uf
  | 0 => fun l => (l, 0)
  | 1 => fun l => putT (bareN 103 [(f l).2] lz) (f l).1
  | k + 2 => fun l =>
    let r := optT f lz (k + 1) (f l).1
    let q := rowT [(f l).2, r.2] r.1
    putT (bareN 103 [q.2] lz) q.1
def timesT (f : Uf) : Nat → List PN → List PN × List Nat
  | 0, l => (l, [])
  | n + 1, l => ((timesT f n (f l).1).1, (f l).2 :: (timesT f n (f l).1).2)
def repT (f : Uf) (mn mx : Int) (lz : Bool) : Uf := fun l =>
  if mx < 0 ∧ mn = 0 then putT (bareN 101 [(f l).2] lz) (f l).1
  else
    let q := timesT f (if mx < 0 then mn - 1 else mn).toNat l
    if mx < 0 then
      let p := putT (bareN 102 [(f q.1).2] lz) (f q.1).1
      rowT (q.2 ++ [p.2]) p.1
    else if mn < mx then
      let r := optT f lz (mx - mn).toNat q.1
      rowT (q.2 ++ [r.2]) r.1
    else rowT q.2 q.1
mutual
def unfT : Tree → Uf
  | .mk k rs am subs mn mx lz ix nm => fun l => if k = 6 then repT (unfTH subs) mn mx lz l else putT ⟨k, am, ix, rs, (unfTL subs l).2, false, 0, 0⟩ (unfTL subs l).1
def unfTL : List Tree → List PN → List PN × List Nat
  | [], l => (l, [])
  | t :: r, l => ((unfTL r (unfT t l).1).1, (unfT t l).2 :: (unfTL r (unfT t l).1).2)
def unfTH : List Tree → Uf
  | [] => fun l => (l, 0)
  | t :: _ => unfT t
end

/-! ### it stands for the tree -/
def Pre (l l' : List PN) : Prop := ∀ (i : Nat) (x : PN), l[i]? = some x → l'[i]? = some x
theorem Pre.refl (l : List PN) : Pre l l := fun _ _ h => h
theorem Pre.trans {a b c : List PN} (h : Pre a b) (g : Pre b c) : Pre a c := fun i x hx => g i x (h i x hx)
theorem Pre.len {l l' : List PN} (h : Pre l l') : l.length ≤ l'.length := by
  cases hn : l.length with
  | zero => exact Nat.zero_le _
  | succ n =>
    have hx : l[n]? = some (l[n]'(by omega)) := List.getElem?_eq_getElem (by omega)
    have := (List.getElem?_eq_some_iff.1 (h n _ hx)).1
    omega
/-- the same, but that what was a root may have been linked -/
def Ext (l l' : List PN) : Prop := ∀ (i : Nat) (x : PN), l[i]? = some x → ∃ x' : PN, l'[i]? = some x' ∧ x'.kind = x.kind ∧ x'.asr = x.asr ∧ x'.ix = x.ix ∧ x'.rs = x.rs ∧ x'.subs = x.subs ∧ x'.lz = x.lz ∧ (0 ≤ x.up → x'.up = x.up ∧ x'.nth = x.nth)
theorem Pre.ext {l l' : List PN} (h : Pre l l') : Ext l l' := fun i x hx => ⟨x, h i x hx, rfl, rfl, rfl, rfl, rfl, rfl, fun _ => ⟨rfl, rfl⟩⟩
mutual
theorem Rep.ext {l l' : List PN} (he : Ext l l') : ∀ (u : UT) (n : Nat), Rep l u n → Rep l' u n
  | .eps, n, h => by
    cases h with
    | eps _ x h1 h2 => obtain ⟨x', e0, e1, -⟩ := he n x h1; exact .eps n x' e0 (by omega)
  | .cls rs, n, h => by
    cases h with
    | cls _ x h1 h2 => obtain ⟨x', e0, e1, e2, e3, e4, -⟩ := he n x h1; rw [← e4]; exact .cls n x' e0 (by omega)
  | .asr a, n, h => by
    cases h with
    | asr _ x h1 h2 => obtain ⟨x', e0, e1, e2, -⟩ := he n x h1; rw [← e2]; exact .asr n x' e0 (by omega)
  | .cat us, n, h => by
    cases h with
    | cat _ x _ h1 h2 h0 h3 => obtain ⟨x', e0, e1, e2, e3, e4, e5, -⟩ := he n x h1; exact .cat n x' us e0 (by omega) (by rw [e5]; exact h0) (by rw [e5]; exact RepS.ext he us n 0 x.subs h3)
  | .alt us, n, h => by
    cases h with
    | alt _ x _ h1 h2 h3 => obtain ⟨x', e0, e1, e2, e3, e4, e5, -⟩ := he n x h1; exact .alt n x' us e0 (by omega) (by rw [e5]; exact RepS.ext he us n 0 x.subs h3)
  | .grp ix u, n, h => by
    cases h with
    | grp _ x _ h1 h2 h3 => obtain ⟨x', e0, e1, e2, e3, e4, e5, -⟩ := he n x h1; rw [← e3]; exact .grp n x' u e0 (by omega) (by
      obtain ⟨s, y, e, g1, g2, g3, g4⟩ := h3.one
      obtain ⟨y', f0, -, -, -, -, -, -, f7⟩ := he s y g2
      obtain ⟨k1, k2⟩ := f7 (by omega)
      rw [e5, e]
      exact .cons n 0 u [] s [] y' (Rep.ext he u s g1) f0 (by omega) (by omega) (.nil n 1))
  | .star u lz, n, h => by
    cases h with
    | star _ x _ h1 h2 h3 => obtain ⟨x', e0, e1, e2, e3, e4, e5, e6, -⟩ := he n x h1; rw [← e6]; exact .star n x' u e0 (by omega) (by
      obtain ⟨s, y, e, g1, g2, g3, g4⟩ := h3.one
      obtain ⟨y', f0, -, -, -, -, -, -, f7⟩ := he s y g2
      obtain ⟨k1, k2⟩ := f7 (by omega)
      rw [e5, e]
      exact .cons n 0 u [] s [] y' (Rep.ext he u s g1) f0 (by omega) (by omega) (.nil n 1))
  | .plus u lz, n, h => by
    cases h with
    | plus _ x _ h1 h2 h3 => obtain ⟨x', e0, e1, e2, e3, e4, e5, e6, -⟩ := he n x h1; rw [← e6]; exact .plus n x' u e0 (by omega) (by
      obtain ⟨s, y, e, g1, g2, g3, g4⟩ := h3.one
      obtain ⟨y', f0, -, -, -, -, -, -, f7⟩ := he s y g2
      obtain ⟨k1, k2⟩ := f7 (by omega)
      rw [e5, e]
      exact .cons n 0 u [] s [] y' (Rep.ext he u s g1) f0 (by omega) (by omega) (.nil n 1))
  | .quest u lz, n, h => by
    cases h with
    | quest _ x _ h1 h2 h3 => obtain ⟨x', e0, e1, e2, e3, e4, e5, e6, -⟩ := he n x h1; rw [← e6]; exact .quest n x' u e0 (by omega) (by
      obtain ⟨s, y, e, g1, g2, g3, g4⟩ := h3.one
      obtain ⟨y', f0, -, -, -, -, -, -, f7⟩ := he s y g2
      obtain ⟨k1, k2⟩ := f7 (by omega)
      rw [e5, e]
      exact .cons n 0 u [] s [] y' (Rep.ext he u s g1) f0 (by omega) (by omega) (.nil n 1))
theorem RepS.ext {l l' : List PN} (he : Ext l l') : ∀ (us : List UT) (n k : Nat) (ss : List Nat), RepS l us n k ss → RepS l' us n k ss
  | [], n, k, ss, h => by cases h; exact .nil n k
  | u :: us, n, k, ss, h => by
    cases h with
    | cons _ _ _ _ s ss x h1 h2 h3 h4 h5 =>
      obtain ⟨x', e0, -, -, -, -, -, -, e7⟩ := he s x h2
      obtain ⟨g1, g2⟩ := e7 (by omega)
      exact .cons n k u us s ss x' (Rep.ext he u s h1) e0 (by omega) (by omega) (RepS.ext he us n (k + 1) ss h5)
end
/-- some roots, rising, from a on: each stands for its tree -/
inductive Roots (l : List PN) : List UT → Nat → List Nat → Prop
  | nil (a : Nat) : Roots l [] a []
  | cons (a : Nat) (u : UT) (us : List UT) (s : Nat) (ss : List Nat) (x : PN) : a ≤ s → Rep l u s → l[s]? = some x → x.up < 0 → Roots l us (s + 1) ss → Roots l (u :: us) a (s :: ss)
theorem Roots.pre {l l' : List PN} (h : Pre l l') {us : List UT} {a : Nat} {ss : List Nat} (hr : Roots l us a ss) : Roots l' us a ss := by
  induction hr with
  | nil a => exact .nil a
  | cons a u us s ss x h1 h2 h3 h4 _ ih => exact .cons a u us s ss x h1 (Rep.ext h.ext u s h2) (h s x h3) h4 ih
theorem Roots.low {l : List PN} {us : List UT} {a b : Nat} {ss : List Nat} (hr : Roots l us b ss) (h : a ≤ b) : Roots l us a ss := by
  cases hr with
  | nil => exact .nil a
  | cons _ u us s ss x h1 h2 h3 h4 h5 => exact .cons a u us s ss x (by omega) h2 h3 h4 h5
theorem setUp_at (l : List PN) (s n k i : Nat) : (setUp l s n k)[i]? = if i = s then (l[i]?).map (fun y => { y with up := (n : Int), nth := (k : Int) }) else l[i]? := by
  unfold setUp
  rw [List.getElem?_modify]
  by_cases h : s = i
  · subst h; simp
  · rw [if_neg (fun e => h e.symm)]
    simp [h]
/-- links do not touch what is below the first of them, nor what is no root -/
theorem setUps_spec (n : Nat) : ∀ {us : List UT} {a k : Nat} {ss : List Nat} {l : List PN}, Roots l us a ss → (∀ (i : Nat) (x : PN), i < a → l[i]? = some x → (setUps l n k ss)[i]? = some x) ∧ Ext l (setUps l n k ss) ∧ RepS (setUps l n k ss) us n k ss
    ∧ (∀ (i : Nat) (x : PN), l[i]? = some x → i ∉ ss → (setUps l n k ss)[i]? = some x) ∧ (setUps l n k ss).length = l.length
  | [], a, k, ss, l, h => by
    cases h
    exact ⟨fun _ _ _ h => h, (Pre.refl l).ext, .nil n k, fun _ _ h _ => h, rfl⟩
  | u :: us, a, k, ss, l, h => by
    cases h with
    | cons _ _ _ s ss x h1 h2 h3 h4 h5 =>
      have hS : ∀ (i : Nat) (y : PN), l[i]? = some y → i ≠ s → (setUp l s n k)[i]? = some y := fun i y hy hi => by rw [setUp_at, if_neg hi]; exact hy
      have hSs : (setUp l s n k)[s]? = some { x with up := (n : Int), nth := (k : Int) } := by rw [setUp_at, if_pos rfl, h3]; rfl
      have hE : Ext l (setUp l s n k) := fun i y hy => by
        by_cases hi : i = s
        · subst hi
          rw [h3] at hy
          injection hy with hy
          subst hy
          exact ⟨_, hSs, rfl, rfl, rfl, rfl, rfl, rfl, fun h => absurd h4 (by omega)⟩
        · exact ⟨y, hS i y hy hi, rfl, rfl, rfl, rfl, rfl, rfl, fun _ => ⟨rfl, rfl⟩⟩
      have hR : Roots (setUp l s n k) us (s + 1) ss := by
        have key : ∀ {us : List UT} {b : Nat} {ss : List Nat}, Roots l us b ss → s < b → Roots (setUp l s n k) us b ss := by
          intro us b ss hr
          induction hr with
          | nil a => exact fun _ => .nil a
          | cons a u us s' ss x h1 h2 h3 h4 _ ih => exact fun hb => .cons a u us s' ss x h1 (Rep.ext hE u s' h2) (hS s' x h3 (by omega)) h4 (ih (by omega))
        exact key h5 (by omega)
      obtain ⟨i1, i2, i3, i4, i5⟩ := setUps_spec n (k := k + 1) hR
      have hlen : (setUp l s n k).length = l.length := by simp [setUp]
      refine ⟨fun i y hi hy => i1 i y (by omega) (hS i y hy (by omega)), ?_, ?_, fun i y hy hi => i4 i y (hS i y hy (fun e => hi (by simp [e]))) (fun e => hi (by simp [e])), by rw [show setUps l n k (s :: ss) = setUps (setUp l s n k) n (k + 1) ss from rfl, i5, hlen]⟩
      · intro i y hy
        obtain ⟨y1, a0, a1, a2, a3, a4, a5, a6, a7⟩ := hE i y hy
        obtain ⟨y2, b0, b1, b2, b3, b4, b5, b6, b7⟩ := i2 i y1 a0
        refine ⟨y2, b0, by omega, by omega, by omega, by rw [b4, a4], by rw [b5, a5], by rw [b6, a6], fun h => ?_⟩
        obtain ⟨c1, c2⟩ := a7 h
        obtain ⟨d1, d2⟩ := b7 (by omega)
        exact ⟨by omega, by omega⟩
      · have hs := i1 s _ (by omega) hSs
        exact .cons n k u us s ss _ (Rep.ext i2 u s (Rep.ext hE u s h2)) hs rfl rfl i3
/-- a way to unfold makes a tree's row -/
structure Good (f : Uf) (u : UT) : Prop where
  pre : ∀ l, Pre l (f l).1
  root : ∀ l, ∃ x, (f l).1[(f l).2]? = some x ∧ x.up < 0
  low : ∀ l, l.length ≤ (f l).2
  rep : ∀ l, Rep (f l).1 u (f l).2
theorem put_good {l0 l : List PN} {us : List UT} {x : PN} (hp : Pre l0 l) (hr : Roots l us l0.length x.subs) :
    Pre l0 (putT x l).1 ∧ l0.length ≤ (putT x l).2 ∧ (∃ y, (putT x l).1[(putT x l).2]? = some y ∧ y.up < 0 ∧ y.kind = x.kind ∧ y.asr = x.asr ∧ y.ix = x.ix ∧ y.rs = x.rs ∧ y.subs = x.subs ∧ y.lz = x.lz) ∧ RepS (putT x l).1 us (putT x l).2 0 x.subs := by
  have hA : Pre l (l ++ [{ x with up := -1 }]) := fun i y hy => by
    rw [List.getElem?_append_left (List.getElem?_eq_some_iff.1 hy).1]
    exact hy
  obtain ⟨i1, i2, i3, i4, i5⟩ := setUps_spec l.length (k := 0) (hr.pre hA)
  have hno : ∀ {us : List UT} {a : Nat} {ss : List Nat}, Roots l us a ss → ∀ s ∈ ss, s < l.length := by
    intro us a ss hr
    induction hr with
    | nil => intro s hs; simp at hs
    | cons a u us s ss x _ _ h3 _ _ ih =>
      intro q hq
      rcases List.mem_cons.1 hq with rfl | hq
      · exact (List.getElem?_eq_some_iff.1 h3).1
      · exact ih q hq
  refine ⟨fun i y hy => i1 i y (List.getElem?_eq_some_iff.1 hy).1 (hA i y (hp i y hy)), hp.len, ⟨{ x with up := -1 }, ?_, by show (-1 : Int) < 0; omega, rfl, rfl, rfl, rfl, rfl, rfl⟩, i3⟩
  exact i4 l.length _ (by simp) (fun h => by have := hno hr _ h; omega)
end Go.Proofs.Ytlaofcgllchedaa

/-
  The row that a tree is unfolded into stands for the unfolded tree.
-/
namespace Go.Proofs.Ytlaofcgllchedaa
set_option linter.unusedVariables false

structure GoodAt (l0 : List PN) (r : List PN × Nat) (u : UT) : Prop where
  pre : Pre l0 r.1
  root : ∃ x, r.1[r.2]? = some x ∧ x.up < 0
  low : l0.length ≤ r.2
  rep : Rep r.1 u r.2
def GoodF (f : Uf) (u : UT) : Prop := ∀ l, GoodAt l (f l) u
def GoodL (F : List PN → List PN × List Nat) (us : List UT) : Prop := ∀ l, Pre l (F l).1 ∧ Roots (F l).1 us l.length (F l).2
theorem Roots.lt {l : List PN} {us : List UT} {a : Nat} {ss : List Nat} (hr : Roots l us a ss) : ∀ s ∈ ss, s < l.length := by
  induction hr with
  | nil => intro s hs; simp at hs
  | cons a u us s ss x _ _ h3 _ _ ih =>
    intro q hq
    rcases List.mem_cons.1 hq with rfl | hq
    · exact (List.getElem?_eq_some_iff.1 h3).1
    · exact ih q hq
theorem Roots.snoc {l : List PN} {us : List UT} {a : Nat} {ss : List Nat} (hr : Roots l us a ss) {u : UT} {s : Nat} {x : PN} (ha : a ≤ s) (hlt : ∀ q ∈ ss, q < s) (h1 : Rep l u s) (h2 : l[s]? = some x) (h3 : x.up < 0) : Roots l (us ++ [u]) a (ss ++ [s]) := by
  induction hr with
  | nil a => exact .cons a u [] s [] x ha h1 h2 h3 (.nil _)
  | cons a v us q ss y g1 g2 g3 g4 _ ih => exact .cons a v (us ++ [u]) q (ss ++ [s]) y g1 g2 g3 g4 (ih (by have := hlt q (by simp); omega) (fun p hp => hlt p (by simp [hp])))
theorem Roots.len {l : List PN} {us : List UT} {a : Nat} {ss : List Nat} (hr : Roots l us a ss) : ss.length = us.length := by
  induction hr with
  | nil => rfl
  | cons a u us s ss x _ _ _ _ _ ih => simp [ih]
theorem GoodAt.one {l0 : List PN} {r : List PN × Nat} {u : UT} (h : GoodAt l0 r u) : Roots r.1 [u] l0.length [r.2] := by
  obtain ⟨x, hx, hu⟩ := h.root
  exact .cons _ u [] _ [] x h.low h.rep hx hu (.nil _)
theorem GoodAt.lower {l0 l1 : List PN} {r : List PN × Nat} {u : UT} (h : GoodAt l1 r u) (hp : Pre l0 l1) : GoodAt l0 r u := ⟨hp.trans h.pre, h.root, Nat.le_trans hp.len h.low, h.rep⟩
/-- a loop over one -/
theorem put_loop {l0 l : List PN} {u : UT} {s : Nat} {lz : Bool} (hp : Pre l0 l) (hr : Roots l [u] l0.length [s]) (k : Int) (v : UT)
    (hv : ∀ (l : List PN) (n : Nat) (x : PN), l[n]? = some x → x.kind = k → x.lz = lz → RepS l [u] n 0 x.subs → Rep l v n) : GoodAt l0 (putT (bareN k [s] lz) l) v := by
  obtain ⟨h1, h2, ⟨y, h3, h4, h5, -, -, -, h9, h10⟩, h11⟩ := put_good (x := bareN k [s] lz) hp hr
  exact ⟨h1, ⟨y, h3, h4⟩, h2, hv _ _ y h3 h5 h10 (by rw [h9]; exact h11)⟩
theorem put_quest {l0 l : List PN} {u : UT} {s : Nat} {lz : Bool} (hp : Pre l0 l) (hr : Roots l [u] l0.length [s]) : GoodAt l0 (putT (bareN 103 [s] lz) l) (.quest u lz) :=
  put_loop hp hr 103 _ (fun l n x h1 h2 h3 h4 => by rw [← h3]; exact .quest n x u h1 h2 h4)
theorem put_star {l0 l : List PN} {u : UT} {s : Nat} {lz : Bool} (hp : Pre l0 l) (hr : Roots l [u] l0.length [s]) : GoodAt l0 (putT (bareN 101 [s] lz) l) (.star u lz) :=
  put_loop hp hr 101 _ (fun l n x h1 h2 h3 h4 => by rw [← h3]; exact .star n x u h1 h2 h4)
theorem put_plus {l0 l : List PN} {u : UT} {s : Nat} {lz : Bool} (hp : Pre l0 l) (hr : Roots l [u] l0.length [s]) : GoodAt l0 (putT (bareN 102 [s] lz) l) (.plus u lz) :=
  put_loop hp hr 102 _ (fun l n x h1 h2 h3 h4 => by rw [← h3]; exact .plus n x u h1 h2 h4)
theorem row_good {l0 l : List PN} {us : List UT} {ss : List Nat} (hp : Pre l0 l) (hr : Roots l us l0.length ss) : GoodAt l0 (rowT ss l) (rowU us) := by
  cases hr with
  | nil =>
    obtain ⟨h1, h2, ⟨y, h3, h4, h5, -⟩, h11⟩ := put_good (x := bareN 1 [] false) hp (.nil _)
    exact ⟨h1, ⟨y, h3, h4⟩, h2, .eps _ y h3 h5⟩
  | cons _ u us s ss x g1 g2 g3 g4 g5 =>
    cases g5 with
    | nil => exact ⟨hp, ⟨x, g3, g4⟩, g1, g2⟩
    | cons _ v us q ss z k1 k2 k3 k4 k5 =>
      obtain ⟨h1, h2, ⟨y, h3, h4, h5, -, -, -, h9, -⟩, h11⟩ := put_good (x := bareN 4 (s :: q :: ss) false) hp (.cons _ u (v :: us) s (q :: ss) x g1 g2 g3 g4 (.cons _ v us q ss z k1 k2 k3 k4 k5))
      exact ⟨h1, ⟨y, h3, h4⟩, h2, .cat _ y _ h3 h5 (by rw [h9]; simp [bareN]) (by rw [h9]; exact h11)⟩
theorem opt_good {f : Uf} {u : UT} (lz : Bool) (hf : GoodF f u) : ∀ k, 0 < k → GoodF (optT f lz k) (optU u lz k)
  | 0, h => by omega
  | 1, _ => fun l => put_quest (hf l).pre (hf l).one
  | k + 2, _ => fun l => by
    have h1 := hf l
    have h2 := opt_good lz hf (k + 1) (by omega) (f l).1
    have hr : Roots (optT f lz (k + 1) (f l).1).1 [u, optU u lz (k + 1)] l.length [(f l).2, (optT f lz (k + 1) (f l).1).2] := by
      obtain ⟨x, hx, hu⟩ := h1.root
      have hlt := (List.getElem?_eq_some_iff.1 hx).1
      exact .cons _ u _ _ _ x h1.low (Rep.ext h2.pre.ext u _ h1.rep) (h2.pre _ _ hx) hu (h2.one.low (by omega))
    have h3 := row_good (l0 := l) (h1.pre.trans h2.pre) hr
    exact put_quest h3.pre h3.one
theorem times_good {f : Uf} {u : UT} (hf : GoodF f u) : ∀ n, GoodL (timesT f n) (List.replicate n u)
  | 0 => fun l => ⟨.refl l, .nil _⟩
  | n + 1 => fun l => by
    have h1 := hf l
    obtain ⟨h2, h3⟩ := times_good hf n (f l).1
    obtain ⟨x, hx, hu⟩ := h1.root
    have hlt := (List.getElem?_eq_some_iff.1 hx).1
    refine ⟨h1.pre.trans h2, ?_⟩
    rw [List.replicate_succ]
    exact .cons _ u _ _ _ x h1.low (Rep.ext h2.ext u _ h1.rep) (h2 _ _ hx) hu (h3.low (by omega))
theorem snoc_good {F : List PN → List PN × List Nat} {us : List UT} {l : List PN} {r : List PN × Nat} {u : UT} (hF : GoodL F us) (hr : GoodAt (F l).1 r u) : Roots r.1 (us ++ [u]) l.length ((F l).2 ++ [r.2]) := by
  obtain ⟨h1, h2⟩ := hF l
  obtain ⟨x, hx, hu⟩ := hr.root
  exact (h2.pre hr.pre).snoc (Nat.le_trans h1.len hr.low) (fun q hq => Nat.lt_of_lt_of_le (h2.lt q hq) hr.low) hr.rep hx hu
theorem rep_good {f : Uf} {u : UT} (mn mx : Int) (lz : Bool) (hf : GoodF f u) : GoodF (repT f mn mx lz) (repU u mn mx lz) := fun l => by
  unfold repT repU
  by_cases h0 : mx < 0 ∧ mn = 0
  · rw [if_pos h0, if_pos h0]
    exact put_star (hf l).pre (hf l).one
  rw [if_neg h0, if_neg h0]
  have hF := times_good hf (if mx < 0 then mn - 1 else mn).toNat
  generalize (if mx < 0 then mn - 1 else mn).toNat = n at *
  simp only
  by_cases h1 : mx < 0
  · rw [if_pos h1, if_pos h1]
    have h2 := hf (timesT f n l).1
    have h3 := put_plus (lz := lz) h2.pre h2.one
    exact row_good ((hF l).1.trans h3.pre) (snoc_good hF h3)
  rw [if_neg h1, if_neg h1]
  by_cases h2 : mn < mx
  · rw [if_pos h2, if_pos h2]
    have h3 := opt_good lz hf (mx - mn).toNat (by omega) (timesT f n l).1
    exact row_good ((hF l).1.trans h3.pre) (snoc_good hF h3)
  · rw [if_neg h2, if_neg h2, List.append_nil]
    exact row_good (hF l).1 (hF l).2
/-- what a tree must be -/
def OkU (t : Tree) : Prop :=
  (1 ≤ t.kind ∧ t.kind ≤ 7 ∧ (t.kind = 4 → t.subs ≠ []) ∧ (t.kind = 6 ∨ t.kind = 7 → t.subs.length = 1)) ∧ ∀ i (h : i < t.subs.length), OkU t.subs[i]
termination_by SizeOf.sizeOf t
decreasing_by exact Tree.sub_lt (List.getElem_mem h)
theorem OkU.top {t : Tree} (h : OkU t) : (1 ≤ t.kind ∧ t.kind ≤ 7 ∧ (t.kind = 4 → t.subs ≠ []) ∧ (t.kind = 6 ∨ t.kind = 7 → t.subs.length = 1)) ∧ ∀ x ∈ t.subs, OkU x := by
  rw [OkU] at h
  refine ⟨h.1, fun x hx => ?_⟩
  obtain ⟨i, hi, rfl⟩ := List.mem_iff_getElem.1 hx
  exact h.2 i hi
theorem OkU.of {t : Tree} (h : 1 ≤ t.kind ∧ t.kind ≤ 7 ∧ (t.kind = 4 → t.subs ≠ []) ∧ (t.kind = 6 ∨ t.kind = 7 → t.subs.length = 1)) (hs : ∀ x ∈ t.subs, OkU x) : OkU t := by
  rw [OkU]
  exact ⟨h, fun i hi => hs _ (List.getElem_mem hi)⟩
theorem unf_put {k : Int} {am ix : Int} {rs : List (Int × Int)} {F : List PN → List PN × List Nat} {us : List UT} (hF : GoodL F us) (v : UT)
    (hv : ∀ (l : List PN) (n : Nat) (x : PN), l[n]? = some x → x.kind = k → x.asr = am → x.ix = ix → x.rs = rs → RepS l us n 0 x.subs → (us ≠ [] → x.subs ≠ []) → Rep l v n) : GoodF (fun l => putT ⟨k, am, ix, rs, (F l).2, false, 0, 0⟩ (F l).1) v := fun l => by
  obtain ⟨h1, h2⟩ := hF l
  obtain ⟨g1, g2, ⟨y, g3, g4, g5, g6, g7, g8, g9, g10⟩, g11⟩ := put_good (x := ⟨k, am, ix, rs, (F l).2, false, 0, 0⟩) h1 h2
  exact ⟨g1, ⟨y, g3, g4⟩, g2, hv _ _ y g3 g5 g6 g7 g8 (by rw [g9]; exact g11) (fun hne he => hne (by
    rw [g9] at he
    have := h2.len
    simp only at he
    rw [he] at this
    exact List.eq_nil_of_length_eq_zero this.symm))⟩
mutual
theorem unf_good : ∀ (t : Tree), OkU t → GoodF (unfT t) (unfU t)
  | .mk k rs am subs mn mx lz ix nm, hok => by
    obtain ⟨⟨hk1, hk7, hk4, hk6⟩, hs⟩ := hok.top
    simp only [Tree.kind, Tree.subs] at hk1 hk7 hk4 hk6 hs
    have hL := unfL_good subs hs
    rw [unfT, unfU]
    by_cases h6 : k = 6
    · subst h6
      simp only [if_true]
      have hl := hk6 (.inl rfl)
      cases subs with
      | nil => simp at hl
      | cons t r =>
        rw [unfTH, unfUH]
        exact rep_good mn mx lz (unf_good t (hs t (by simp)))
    simp only [if_neg h6]
    by_cases h2 : k = 2
    · rw [if_pos h2]
      exact unf_put hL _ (fun l n x a1 a2 a3 a4 a5 a6 a7 => by rw [← a5]; exact .cls n x a1 (by omega))
    rw [if_neg h2]
    by_cases h3 : k = 3
    · rw [if_pos h3]
      exact unf_put hL _ (fun l n x a1 a2 a3 a4 a5 a6 a7 => by rw [← a3]; exact .asr n x a1 (by omega))
    rw [if_neg h3]
    by_cases h4 : k = 4
    · rw [if_pos h4]
      refine unf_put hL _ (fun l n x a1 a2 a3 a4 a5 a6 a7 => .cat n x _ a1 (by omega) (a7 ?_) a6)
      intro he
      have h0 := hk4 h4
      rw [unfUL_map] at he
      exact h0 (List.map_eq_nil_iff.1 he)
    rw [if_neg h4]
    by_cases h5 : k = 5
    · rw [if_pos h5]
      exact unf_put hL _ (fun l n x a1 a2 a3 a4 a5 a6 a7 => .alt n x _ a1 (by omega) a6)
    rw [if_neg h5]
    by_cases h7 : k = 7
    · rw [if_pos h7]
      have hl := hk6 (.inr h7)
      cases subs with
      | nil => simp at hl
      | cons t r =>
        cases r with
        | cons _ _ => simp at hl
        | nil =>
          have e : unfUL [t] = [unfUH [t]] := by rw [unfUL, unfUH, unfUL]
          rw [e] at hL
          exact unf_put hL _ (fun l n x a1 a2 a3 a4 a5 a6 a7 => by rw [← a4]; exact .grp n x _ a1 (by omega) a6)
    rw [if_neg h7]
    exact unf_put hL _ (fun l n x a1 a2 a3 a4 a5 a6 a7 => .eps n x a1 (by omega))
theorem unfL_good : ∀ (ts : List Tree), (∀ x ∈ ts, OkU x) → GoodL (unfTL ts) (unfUL ts)
  | [], _ => fun l => by
    rw [unfTL, unfUL]
    exact ⟨.refl l, .nil _⟩
  | t :: r, hs => fun l => by
    rw [unfTL, unfUL]
    have h1 := unf_good t (hs t (by simp)) l
    obtain ⟨h2, h3⟩ := unfL_good r (fun x hx => hs x (by simp [hx])) (unfT t l).1
    obtain ⟨x, hx, hu⟩ := h1.root
    have hlt := (List.getElem?_eq_some_iff.1 hx).1
    exact ⟨h1.pre.trans h2, .cons _ _ _ _ _ x h1.low (Rep.ext h2.ext _ _ h1.rep) (h2 _ _ hx) hu (h3.low (by omega))⟩
end
end Go.Proofs.Ytlaofcgllchedaa
