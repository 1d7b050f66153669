/-
  Tab, Held, put together.
-/
import Derived.Test.YtlaofcgllchedaaZ14UnfG
import Derived.Test.YtlaofcgllchedaaZ19Wk
import Derived.OrdersHeld
import Derived.StillTail
import Derived.RegionTactic
import Derived.Deep.RegionHeld

/-
  heronref06's row of nodes while it grows, in memory.
-/
namespace Go.Proofs.Ytlaofcgllchedaa
open Go.RowKit
set_option linter.unusedVariables false

abbrev Q4 := (Option Addr × Nat) × (Option Addr × Nat)
def ndL (x : PN) (q : Q4) : List Value := [.int .i64 x.kind, .int .i64 x.asr, .int .i64 x.ix, .slice q.1.1 x.rs.length q.1.2, .slice q.2.1 x.subs.length q.2.2, .bool x.lz, .int .i64 x.up, .int .i64 x.nth]
def flatN : List PN → List Q4 → List Value
  | x :: l, q :: qs => ndL x q ++ flatN l qs
  | _, _ => []
theorem ndL_len (x : PN) (q : Q4) : (ndL x q).length = 8 := rfl
theorem flatN_len : ∀ (l : List PN) (qs : List Q4), qs.length = l.length → (flatN l qs).length = l.length * 8
  | [], [], _ => rfl
  | x :: l, q :: qs, h => by
    simp only [flatN, List.length_append, ndL_len, List.length_cons]
    rw [flatN_len l qs (by simpa using h)]
    omega
  | [], _ :: _, h => by simp at h
  | _ :: _, [], h => by simp at h
theorem flatN_append : ∀ (l : List PN) (qs : List Q4) (x : PN) (q : Q4), qs.length = l.length → flatN (l ++ [x]) (qs ++ [q]) = flatN l qs ++ ndL x q
  | [], [], x, q, _ => by simp [flatN]
  | y :: l, r :: qs, x, q, h => by
    simp only [List.cons_append, flatN]
    rw [flatN_append l qs x q (by simpa using h), List.append_assoc]
  | [], _ :: _, _, _, h => by simp at h
  | _ :: _, [], _, _, h => by simp at h
theorem flatN_at : ∀ (l : List PN) (qs : List Q4) (i : Nat) (x : PN) (q : Q4), l[i]? = some x → qs[i]? = some q → ∀ j, j < 8 → (flatN l qs)[i * 8 + j]? = (ndL x q)[j]?
  | x :: l, q :: qs, 0, y, r, hx, hq, j, hj => by
    simp at hx hq
    subst hx hq
    simp only [flatN, Nat.zero_mul, Nat.zero_add]
    rw [List.getElem?_append_left (by rw [ndL_len]; exact hj)]
  | x :: l, q :: qs, i + 1, y, r, hx, hq, j, hj => by
    simp only [List.getElem?_cons_succ] at hx hq
    simp only [flatN]
    rw [List.getElem?_append_right (by rw [ndL_len]; omega), ndL_len, ← flatN_at l qs i y r hx hq j hj]
    congr 1
    omega
  | [], _, _, _, _, h, _, _, _ => by simp at h
  | _ :: _, [], _, _, _, _, h, _, _ => by simp at h
theorem flatN_link : ∀ (l : List PN) (qs : List Q4) (s n k : Nat), qs.length = l.length → s < l.length → flatN (setUp l s n k) qs = ((flatN l qs).set (s * 8 + 6) (.int .i64 (n : Int))).set (s * 8 + 7) (.int .i64 (k : Int))
  | x :: l, q :: qs, 0, n, k, h, _ => rfl
  | x :: l, q :: qs, s + 1, n, k, h, hs => by
    have e : setUp (x :: l) (s + 1) n k = x :: setUp l s n k := rfl
    rw [e]
    simp only [flatN]
    rw [flatN_link l qs s n k (by simpa using h) (by simpa using hs)]
    rw [List.set_append_right _ _ (by rw [ndL_len]; omega), List.set_append_right _ _ (by rw [ndL_len]; omega), ndL_len]
    congr 2
    · congr 1
      omega
    · omega
  | [], _, _, _, _, _, h => by simp at h
  | _ :: _, [], _, _, _, h, _ => by simp at h
/-- one cell of an owned row is written -/
theorem own_set {w : World} {base e size g n c : Nat} {xs : List Value} (h : w.ownsRow base e size (.slice (some ⟨g, 0, none⟩) n c) n xs) (i : Nat) (v : Value) (hi : i < n * size) : (w.setCell ⟨g, i, none⟩ v).ownsRow base e size (.slice (some ⟨g, 0, none⟩) n c) n (xs.set i v) := by
  refine ⟨by rw [List.length_set]; exact h.1, ?_⟩
  rcases h.2 with ⟨hv, h0⟩ | ⟨g', cap, cur, hv, hb, hg, hnc, hcm, hcs, ht⟩
  · subst h0; omega
  · injection hv with a b cc
    injection a with a
    injection a with a1 a2 a3
    subst a1 cc
    have hc : Cells w g e cur := hg
    refine .inr ⟨g, c, cur.setIfInBounds i v, rfl, hb, hc.set_ i v, hnc, hcm, by simp [hcs], ?_⟩
    rw [← ht]
    apply List.ext_getElem?
    intro j
    simp only [List.getElem?_take, Array.getElem?_toList, Array.getElem?_setIfInBounds, List.getElem?_set, List.length_take, Array.length_toList]
    by_cases hj : j < n * size
    · simp only [if_pos hj]
      by_cases e : i = j
      · subst e
        have : i < cur.size := by
          have := Nat.mul_le_mul_right size hnc
          omega
        simp [this]
        omega
      · simp [e]
    · simp only [if_neg hj]
      have e : ¬ i = j := by omega
      simp [e]
def NodeO (w : World) (base : Nat) (S : Nat → Prop) (x : PN) (q : Q4) : Prop :=
  RangesR w S q.1.1 x.rs.length x.rs ∧ w.ownsRow base 3 1 (.slice q.2.1 x.subs.length q.2.2) x.subs.length (intv (x.subs.map fun (s : Nat) => (s : Int))) ∧ In64 x.asr ∧ In64 x.ix
structure TabR (w : World) (base tb : Nat) (S D : Nat → Prop) (l : List PN) (TA : Option Addr) (tc : Nat) : Prop where
  tab : Cells w tb 61 #[.slice TA l.length tc]
  lo : base ≤ tb
  s : ∀ b, S b → b < base
  row : ∃ qs : List Q4, qs.length = l.length ∧ w.ownsRow base 77 8 (.slice TA l.length tc) l.length (flatN l qs) ∧ ∀ (i : Nat) (x : PN) (q : Q4), l[i]? = some x → qs[i]? = some q → NodeO w base S x q ∧ ∀ b, (Value.slice q.2.1 x.subs.length q.2.2).ownBlock = some b → ¬ D b
  d : ∀ b, D b → b < w.heap.size
/-- what is written -/
def TabF (tb : Nat) (TA : Option Addr) (b : Nat) : Prop := b = tb ∨ TA.map (·.block) = some b
theorem slice_own {TA : Option Addr} {n c b : Nat} : (Value.slice TA n c).ownBlock = some b ↔ TA.map (·.block) = some b := by cases TA <;> simp [Value.ownBlock]
theorem NodeO.upd {F : Nat → Prop} {w w' : World} {base : Nat} {S : Nat → Prop} {x : PN} {q : Q4} (h : NodeO w base S x q) (hU : Upd F w w') (hS : ∀ b, S b → ¬ F b) (hF : ∀ b, (Value.slice q.2.1 x.subs.length q.2.2).ownBlock = some b → ¬ F b) : NodeO w' base S x q :=
  ⟨h.1.upd hU hS, own_upd h.2.1 hU hF, h.2.2⟩
theorem TabR.size {w : World} {base tb : Nat} {S D : Nat → Prop} {l : List PN} {TA : Option Addr} {tc : Nat} (h : TabR w base tb S D l TA tc) : tb < w.heap.size := h.tab.lt
/-- an owned row of ints is not what is written -/
theorem TabR.ints {w : World} {base tb : Nat} {S D : Nat → Prop} {l : List PN} {TA : Option Addr} {tc : Nat} (h : TabR w base tb S D l TA tc) {b0 n : Nat} {v : Value} {xs : List Value} (hv : w.ownsRow b0 3 1 v n xs) : ∀ b, v.ownBlock = some b → ¬ TabF tb TA b := fun b hb hf => by
  rcases hf with rfl | hf
  · exact own_ne hv h.tab (by decide) hb
  · obtain ⟨qs, -, ho, -⟩ := h.row
    obtain ⟨cur, hc, -⟩ := own_cells ho (slice_own.2 hf)
    exact own_ne hv hc (by decide) hb
theorem TabR.lo_own {w : World} {base tb : Nat} {S D : Nat → Prop} {l : List PN} {TA : Option Addr} {tc : Nat} (h : TabR w base tb S D l TA tc) : ∀ b, TA.map (·.block) = some b → base ≤ b ∧ b < w.heap.size := fun b hb => by
  obtain ⟨qs, -, ho, -⟩ := h.row
  obtain ⟨cur, hc, -⟩ := own_cells ho (slice_own.2 hb)
  exact ⟨wk_lo ho (slice_own.2 hb), hc.lt⟩
theorem TabR.notF {w : World} {base tb : Nat} {S D : Nat → Prop} {l : List PN} {TA : Option Addr} {tc : Nat} (h : TabR w base tb S D l TA tc) : ∀ b, S b → ¬ TabF tb TA b := fun b hb hf => by
  have := h.s b hb
  have := h.lo
  rcases hf with rfl | hf
  · omega
  · have := h.lo_own b hf; omega
/-- new memory alone -/
theorem TabR.upd {w w' : World} {base tb : Nat} {S D : Nat → Prop} {l : List PN} {TA : Option Addr} {tc : Nat} (h : TabR w base tb S D l TA tc) (hU : Upd Nob w w') : TabR w' base tb S D l TA tc := by
  obtain ⟨qs, h1, h2, h3⟩ := h.row
  exact ⟨h.tab.upd hU not_nob, h.lo, h.s, ⟨qs, h1, own_upd h2 hU (fun _ _ => not_nob), fun i x q hx hq => ⟨(h3 i x q hx hq).1.upd hU (fun _ _ => not_nob) (fun _ _ => not_nob), (h3 i x q hx hq).2⟩⟩, fun b hb => Nat.lt_of_lt_of_le (h.d b hb) hU.size⟩
/-- what a call leaves -/
structure TNx (base tb : Nat) (S D : Nat → Prop) (w : World) (TA : Option Addr) (l' : List PN) (w' : World) (TA' : Option Addr) (tc' : Nat) : Prop where
  tab : TabR w' base tb S D l' TA' tc'
  upd : Upd (TabF tb TA) w w'
  new : TA'.map (·.block) = TA.map (·.block) ∨ ∀ b, TA'.map (·.block) = some b → w.heap.size ≤ b
def TAns (base tb : Nat) (S D : Nat → Prop) (w : World) (TA : Option Addr) (r : List PN × Nat) (e : Ending) (w' : World) : Prop := e = .returned (.int .i64 (r.2 : Int)) ∧ ∃ TA' tc', TNx base tb S D w TA r.1 w' TA' tc'
theorem TNx.trans {base tb : Nat} {S D1 D : Nat → Prop} {w w1 w2 : World} {TA T1 T2 : Option Addr} {c1 c2 : Nat} {l1 l2 : List PN} (h : TNx base tb S D1 w TA l1 w1 T1 c1) (g : TNx base tb S D w1 T1 l2 w2 T2 c2) (htb : tb < w.heap.size) : TNx base tb S D w TA l2 w2 T2 c2 := by
  refine ⟨g.tab, h.upd.trans g.upd (fun k hk hm => ?_), ?_⟩
  · rcases hm with hm | hm
    · exact .inl hm
    · rcases h.new with h3 | h3
      · exact .inr (by rw [← h3]; exact hm)
      · have := h3 k hm; omega
  · rcases g.new with g3 | g3
    · rcases h.new with h3 | h3
      · exact .inl (g3.trans h3)
      · exact .inr (fun b hb => h3 b (by rw [← g3]; exact hb))
    · exact .inr (fun b hb => Nat.le_trans h.upd.size (g3 b hb))
theorem TNx.of_upd {base tb : Nat} {S D : Nat → Prop} {w w' : World} {l : List PN} {TA : Option Addr} {tc : Nat} (h : TabR w base tb S D l TA tc) (hU : Upd Nob w w') : TNx base tb S D w TA l w' TA tc := ⟨h.upd hU, hU.mono (fun _ _ h => absurd h not_nob), .inl rfl⟩
theorem TabR.weakD {w : World} {base tb : Nat} {S D D' : Nat → Prop} {l : List PN} {TA : Option Addr} {tc : Nat} (h : TabR w base tb S D l TA tc) (hd : ∀ b, D' b → D b) : TabR w base tb S D' l TA tc := by
  obtain ⟨qs, h1, h2, h3⟩ := h.row
  exact ⟨h.tab, h.lo, h.s, ⟨qs, h1, h2, fun i x q hx hq => ⟨(h3 i x q hx hq).1, fun b hb hd' => (h3 i x q hx hq).2 b hb (hd b hd')⟩⟩, fun b hb => h.d b (hd b hb)⟩
theorem TNx.weakD {base tb : Nat} {S D D' : Nat → Prop} {w w' : World} {TA TA' : Option Addr} {tc' : Nat} {l' : List PN} (h : TNx base tb S D w TA l' w' TA' tc') (hd : ∀ b, D' b → D b) : TNx base tb S D' w TA l' w' TA' tc' := ⟨h.tab.weakD hd, h.upd, h.new⟩
/-- a row of ints grows, that no node holds: it, or a new block in its stead, is held by none behind that -/
theorem TabR.grow {w w' : World} {base tb : Nat} {S D D' : Nat → Prop} {l : List PN} {TA : Option Addr} {tc n : Nat} {v : Value} {xs : List Value} (h : TabR w base tb S D l TA tc) (hv : w.ownsRow base 3 1 v n xs) (hD : ∀ b, v.ownBlock = some b → D b) (hU : Upd (fun b => v.ownBlock = some b) w w') (hd : ∀ b, D' b → (D b ∨ w.heap.size ≤ b) ∧ b < w'.heap.size) : TabR w' base tb S D' l TA tc := by
  obtain ⟨qs, h1, h2, h3⟩ := h.row
  refine ⟨h.tab.upd hU (fun e => own_ne hv h.tab (by decide) e), h.lo, h.s, ⟨qs, h1, own_upd h2 hU (fun b hb hv2 => ?_), fun i x q hx hq => ?_⟩, fun b hb => (hd b hb).2⟩
  · obtain ⟨cur, hc, -⟩ := own_cells h2 hb
    exact own_ne hv hc (by decide) hv2
  · obtain ⟨k1, k2⟩ := h3 i x q hx hq
    refine ⟨k1.upd hU (fun b hs hv2 => ?_) (fun b hb hv2 => k2 b hb (hD b hv2)), fun b hb hd' => ?_⟩
    · have := h.s b hs
      have := wk_lo hv hv2
      omega
    · rcases (hd b hd').1 with e | e
      · exact k2 b hb e
      · obtain ⟨cur, hc, -⟩ := own_cells k1.2.1 hb
        have := hc.lt
        omega
/-- new memory; what is new is held by none -/
theorem TabR.fresh {w w' : World} {base tb : Nat} {S D D' : Nat → Prop} {l : List PN} {TA : Option Addr} {tc : Nat} (h : TabR w base tb S D l TA tc) (hU : Upd Nob w w') (hd : ∀ b, D' b → (D b ∨ w.heap.size ≤ b) ∧ b < w'.heap.size) : TabR w' base tb S D' l TA tc :=
  h.grow (v := .slice none 0 0) (n := 0) (xs := []) (World.ownsRow_nil _ _ _ _) (fun b hb => by cases hb) (hU.mono (fun _ _ h => absurd h not_nob)) hd
/-- a row of ints grew -/
theorem TNx.grow {base tb : Nat} {S D1 D : Nat → Prop} {w w1 w2 : World} {l : List PN} {TA T1 : Option Addr} {c1 : Nat} {g1 : Nat} (h : TNx base tb S D1 w TA l w1 T1 c1) (ht : TabR w2 base tb S D l T1 c1) (hg : w.heap.size ≤ g1) (hU : Upd (fun b => b = g1) w1 w2) : TNx base tb S D w TA l w2 T1 c1 :=
  ⟨ht, h.upd.trans hU (fun b hb e => by omega), h.new⟩
/-- the next owned rows of ints stay -/
theorem TNx.own {base tb : Nat} {S D0 D : Nat → Prop} {w w' : World} {l l' : List PN} {TA TA' : Option Addr} {tc tc' b0 n : Nat} {v : Value} {xs : List Value} (ht : TabR w base tb S D0 l TA tc) (h : TNx base tb S D w TA l' w' TA' tc') (hv : w.ownsRow b0 3 1 v n xs) : w'.ownsRow b0 3 1 v n xs := own_upd hv h.upd (ht.ints hv)
end Go.Proofs.Ytlaofcgllchedaa

/-
  A region that draws its order, whose LAST operation writes what its other operations load: a condition S on the world is kept by all operations but that one; what yields under S, and is awaited by that one, may be taken first. (The library's OrdersHeld asks S behind the last one, too.)
-/
namespace Go.Proofs.Ytlaofcgllchedaa
set_option linter.unusedVariables false
section
variable {P : Program} {ops : Array Oper} {Q : Exit → Act → World → Prop} {md : Region.Mode} {S : World → Prop} {n : Nat}

/-- Whatever order is picked from here on, and S holds behind each operation but number n. -/
def AnyJ (P : Program) (md : Region.Mode) (ops : Array Oper) (Q : Exit → Act → World → Prop) (S : World → Prop) (n : Nat) : Nat → Array Bool → Act → World → Prop
  | 0, listed, a, w => Region.ready md ops listed = [] ∧ Q .normal a w
  | fuel + 1, listed, a, w => (Region.ready md ops listed = [] → Q .normal a w) ∧
    ∀ i ∈ Region.ready md ops listed, wpOp P ops Q i (fun a' w' => (i = n ∨ S w') ∧ AnyJ P md ops Q S n fuel (listed.setIfInBounds i true) a' w') a w

theorem AnyJ.any : ∀ (fuel : Nat) (listed : Array Bool) (a : Act) (w : World), AnyJ P md ops Q S n fuel listed a w → wpAny P md ops Q fuel listed a w
  | 0, _, _, _, h => h
  | fuel + 1, _, _, _, h => ⟨h.1, fun i hi => wpOp_mono (fun _ _ k => AnyJ.any fuel _ _ _ k.2) (h.2 i hi)⟩

theorem AnyJ.first {i : Nat} {oi : Oper} {v : Value} (hi : ops[i]? = some oi) (hsel : ∀ (j : Nat) (o : Oper) cs b, ops[j]? = some o → o.op ≠ .select cs b)
    (hQ : ∀ c a w, Q (.panic c) (a.put oi.dst v) w → Q (.panic c) a w) (hn : Region.waitsFor md ops n i = true) :
    ∀ (fuel : Nat) (listed : Array Bool) (a : Act) (w : World),
      (∀ j oj, ops[j]? = some oj → j ≠ i → listed.getD j true = false → (∀ e ∈ oj.after, Region.binds md e = true → e.on ≠ i) → oi.apart ops oj = true) →
      i ∈ Region.ready md ops listed → YieldsIf P ops S oi v a → S w →
      AnyJ P md ops Q S n fuel (listed.setIfInBounds i true) (a.put oi.dst v) w → AnyJ P md ops Q S n (fuel + 1) listed a w := by
  obtain ⟨on, hon, en, hen, hbn, hin⟩ := Region.waitsFor_spec hn
  intro fuel
  induction fuel with
  | zero =>
    intro listed a w _ hr hy hS H
    refine ⟨fun h => (by rw [h] at hr; cases hr), fun j hj => ?_⟩
    by_cases hji : j = i
    · subst hji
      exact hy.wpOp hi hS ⟨.inr hS, H⟩
    · have hz := ready_mono hj hji
      rw [H.1] at hz
      cases hz
  | succ fuel ih =>
    intro listed a w hfree hr hy hS H
    refine ⟨fun h => (by rw [h] at hr; cases hr), fun j hj => ?_⟩
    by_cases hji : j = i
    · subst hji
      exact hy.wpOp hi hS ⟨.inr hS, H⟩
    · obtain ⟨hjun, oj, hoj, hall⟩ := mem_ready.1 hj
      have hun := (mem_ready.1 hr).1
      have hnot : ∀ e ∈ oj.after, Region.binds md e = true → e.on ≠ i := fun e he hb heq => by
        have h1 := hall e he hb
        rw [heq] at h1
        rcases Nat.lt_or_ge i listed.size with hlt | hge
        · simp [hlt] at hun h1
          rw [hun] at h1
          cases h1
        · simp [Array.getElem?_eq_none hge] at h1
      have hjn : j ≠ n := fun e => by
        subst e
        rw [hoj] at hon
        injection hon with hon
        subst hon
        exact hnot en hen hbn hin
      refine wpOp_mono (fun a' w' h3 => ?_) (wpOp_putIf hoj (hfree j oj hoj hji hjun hnot) (fun cs b => hsel i oi cs b hi) (fun cs b => hsel j oj cs b hoj) hQ hy (H.2 j (ready_mono hj hji)))
      have hS' : S w' := h3.2.1.resolve_left hjn
      refine ⟨.inr hS', ih (listed.setIfInBounds j true) a' w' (fun k ok hk hki hku hno => ?_) (ready_mono hr (Ne.symm hji)) h3.1 hS' ?_⟩
      · refine hfree k ok hk hki ?_ hno
        by_cases hjk : j = k
        · subst hjk; exact hjun
        · rw [getD_set_ne true hjk] at hku; exact hku
      · rw [Array.setIfInBounds_comm _ _ hji]
        exact h3.2.2

/-- take number i first -/
theorem AnyJ.take {i : Nat} {oi : Oper} {v : Value} {fuel : Nat} {listed : Array Bool} {a : Act} {w : World} (hi : ops[i]? = some oi)
    (hs : Region.noSelect ops = true) (hf : Region.free md ops listed i = true) (hr : (Region.ready md ops listed).contains i = true) (hn : Region.waitsFor md ops n i = true)
    (hQ : ∀ c a w, Q (.panic c) (a.put oi.dst v) w → Q (.panic c) a w) (hy : YieldsIf P ops S oi v a) (hS : S w)
    (h : AnyJ P md ops Q S n fuel (listed.setIfInBounds i true) (a.put oi.dst v) w) : AnyJ P md ops Q S n (fuel + 1) listed a w :=
  AnyJ.first hi (Region.noSelect_spec hs) hQ hn fuel listed a w (Region.free_spec hi hf) (by simpa using hr) hy hS h

/-- whichever comes up -/
theorem AnyJ.all {rs : List Nat} {fuel : Nat} {listed : Array Bool} {a : Act} {w : World} (hr : Region.ready md ops listed = rs) (hne : rs ≠ [])
    (h : ∀ i ∈ rs, wpOp P ops Q i (fun a' w' => (i = n ∨ S w') ∧ AnyJ P md ops Q S n fuel (listed.setIfInBounds i true) a' w') a w) : AnyJ P md ops Q S n (fuel + 1) listed a w :=
  ⟨fun h0 => absurd (hr ▸ h0) hne, hr ▸ h⟩
/-- one alone may come up -/
theorem AnyJ.one {i : Nat} {o : Oper} {fuel : Nat} {listed : Array Bool} {a : Act} {w : World} (hr : Region.ready md ops listed = [i]) (ho : ops[i]? = some o)
    (h : ∀ K' : Act → World → Prop, Shut (∀ a w, (i = n ∨ S w) → AnyJ P md ops Q S n fuel (listed.setIfInBounds i true) a w → K' a w) → if Region.wanted o (yielded ops a.tmps) = true then Oper.wp P o a w K' Q else K' (a.put o.dst undef) w) : AnyJ P md ops Q S n (fuel + 1) listed a w :=
  AnyJ.all hr (by simp) (fun j hj => by
    rw [List.mem_singleton] at hj
    subst hj
    exact wpOp_step ho (fun K' hK => h K' (fun a w h1 h2 => hK a w ⟨h1, h2⟩)))
/-- one of two -/
theorem AnyJ.two {i j : Nat} {o p : Oper} {fuel : Nat} {listed : Array Bool} {a : Act} {w : World} (hr : Region.ready md ops listed = [i, j]) (ho : ops[i]? = some o) (hp : ops[j]? = some p)
    (h : ∀ K' : Act → World → Prop, Shut (∀ a w, (i = n ∨ S w) → AnyJ P md ops Q S n fuel (listed.setIfInBounds i true) a w → K' a w) → if Region.wanted o (yielded ops a.tmps) = true then Oper.wp P o a w K' Q else K' (a.put o.dst undef) w)
    (k : ∀ K' : Act → World → Prop, Shut (∀ a w, (j = n ∨ S w) → AnyJ P md ops Q S n fuel (listed.setIfInBounds j true) a w → K' a w) → if Region.wanted p (yielded ops a.tmps) = true then Oper.wp P p a w K' Q else K' (a.put p.dst undef) w) : AnyJ P md ops Q S n (fuel + 1) listed a w :=
  AnyJ.all hr (by simp) (fun q hq => by
    simp only [List.mem_cons, List.not_mem_nil, or_false] at hq
    rcases hq with rfl | rfl
    · exact wpOp_step ho (fun K' hK => h K' (fun a w h1 h2 => hK a w ⟨h1, h2⟩))
    · exact wpOp_step hp (fun K' hK => k K' (fun a w h1 h2 => hK a w ⟨h1, h2⟩)))
/-- all have come up -/
theorem AnyJ.done {listed : Array Bool} {a : Act} {w : World} (hr : Region.ready md ops listed = []) (h : Q .normal a w) : ∀ fuel, AnyJ P md ops Q S n fuel listed a w
  | 0 => ⟨hr, h⟩
  | _ + 1 => ⟨fun _ => h, by rw [hr]; simp⟩
/-- the beginning -/
theorem AnyJ.begin {id : Nat} {a : Act} {w : World} (n : Nat) (S : World → Prop) (hm : P.follows .mixedOrders = true) (hS : S w.drew)
    (h : S w.drew → AnyJ P .any ops Q S n ops.size (Array.replicate ops.size false) a w.drew) : (Code.region id ops true).wp P Q a w :=
  wp_region_any hm (AnyJ.any _ _ _ _ (h hS))
end
/-- Q, but what is asked at a panic hangs on G alone -/
def QuietQ (G : List PanicEntry → Act → World → Prop) (Q : Exit → Act → World → Prop) : Exit → Act → World → Prop
  | .panic c, a, w => G c a w
  | e, a, w => Q e a w
theorem QuietQ.imp {G : List PanicEntry → Act → World → Prop} {Q : Exit → Act → World → Prop} (h : ∀ c a w, G c a w → Q (.panic c) a w) : ∀ (e : Exit) (a : Act) (w : World), QuietQ G Q e a w → Q e a w := fun e a w k => by
  cases e <;> first | exact k | exact h _ _ _ k
end Go.Proofs.Ytlaofcgllchedaa
