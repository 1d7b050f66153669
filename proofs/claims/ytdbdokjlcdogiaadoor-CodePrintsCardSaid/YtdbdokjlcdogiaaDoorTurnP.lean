/-
  The walk of heronlaw10.turned: a program that was lent, with other things in the same lists.
-/
import Derived.Test.YtdbdokjlcdogiaaDoorSameP
namespace Go.Proofs.YtdbdokjlcdogiaaDoor
open Go.RowKit
set_option linter.unusedVariables false

/-- the first k ranges turned -/
def turnR (k : Nat) (rs : List (Int × Int)) : List (Int × Int) := (List.range k).map (fun j : Nat => ((3 * (j : Int), 3 * (j : Int) + 1) : Int × Int)) ++ rs.drop k
def turnI (x : PInst) : PInst := if x.op = 7 then ⟨6, 0, 0, 0, []⟩ else ⟨x.op, x.x, x.y, x.arg, turnR x.rs.length x.rs⟩
theorem turnR_len {k : Nat} {rs : List (Int × Int)} (h : k ≤ rs.length) : (turnR k rs).length = rs.length := by simp [turnR]; omega
theorem turnR_zero (rs : List (Int × Int)) : turnR 0 rs = rs := by simp [turnR]
theorem pairv_set' : ∀ (l : List (Int × Int)) (k : Nat) (a b : Int), k < l.length → ((pairv l).set (k * 2) (.int .i64 a)).set (k * 2 + 1) (.int .i64 b) = pairv (l.set k (a, b))
  | [], k, a, b, h => by simp at h
  | x :: l, 0, a, b, h => by simp [pairv]
  | x :: l, k + 1, a, b, h => by
    have := pairv_set' l k a b (by simpa using h)
    simp only [pairv, List.set_cons_succ]
    rw [show (k + 1) * 2 = k * 2 + 1 + 1 by omega, List.set_cons_succ, List.set_cons_succ, List.set_cons_succ, List.set_cons_succ, this]
theorem turnR_succ {k : Nat} {rs : List (Int × Int)} (h : k < rs.length) : (turnR k rs).set k (3 * (k : Int), 3 * (k : Int) + 1) = turnR (k + 1) rs := by
  unfold turnR
  rw [List.set_append_right _ _ (by simp), List.length_map, List.length_range, Nat.sub_self, List.drop_eq_getElem_cons h, List.set_cons_zero, List.range_succ, List.map_append, List.append_assoc]
  rfl
theorem lent_set {k : Nat} {rs : List (Int × Int)} (h : k < rs.length) : ((lentRanges (turnR k rs)).set (k * 2) (.int .i64 (3 * (k : Int)))).set (k * 2 + 1) (.int .i64 (3 * (k : Int) + 1)) = lentRanges (turnR (k + 1) rs) := by
  unfold lentRanges
  have hl : (turnR k rs).length = rs.length := turnR_len (by omega)
  rw [pairv_set' _ _ _ _ (by simp; omega), List.set_append_left _ _ (by omega), turnR_succ h]

/-- an instruction's five cells laid at place o of block g -/
def put5 (w : World) (g o : Nat) (v0 v1 v2 v3 v4 : Value) : World := ((((w.setCell ⟨g, o, none⟩ v0).setCell ⟨g, o + 1, none⟩ v1).setCell ⟨g, o + 2, none⟩ v2).setCell ⟨g, o + 3, none⟩ v3).setCell ⟨g, o + 4, none⟩ v4
def arr5 (cs : Array Value) (o : Nat) (v0 v1 v2 v3 v4 : Value) : Array Value := ((((cs.setIfInBounds o v0).setIfInBounds (o + 1) v1).setIfInBounds (o + 2) v2).setIfInBounds (o + 3) v3).setIfInBounds (o + 4) v4
theorem arr5_size (cs : Array Value) (o : Nat) (v0 v1 v2 v3 v4 : Value) : (arr5 cs o v0 v1 v2 v3 v4).size = cs.size := by simp [arr5]
theorem arr5_far {cs : Array Value} {o j : Nat} (v0 v1 v2 v3 v4 : Value) (h : j < o ∨ o + 5 ≤ j) : (arr5 cs o v0 v1 v2 v3 v4)[j]? = cs[j]? := by
  simp only [arr5, Array.getElem?_setIfInBounds]
  rw [if_neg (by omega), if_neg (by omega), if_neg (by omega), if_neg (by omega), if_neg (by omega)]
theorem arr5_at {cs : Array Value} {o : Nat} (v0 v1 v2 v3 v4 : Value) (h : o + 5 ≤ cs.size) : ∀ (j : Nat) (v : Value), (#[v0, v1, v2, v3, v4] : Array Value)[j]? = some v → (arr5 cs o v0 v1 v2 v3 v4)[o + j]? = some v := by
  intro j v hv
  have hj : j < 5 := (Array.getElem?_eq_some_iff.1 hv).1
  simp only [arr5, Array.getElem?_setIfInBounds, Array.size_setIfInBounds]
  match j, hj with
  | 0, _ => rw [if_neg (by omega), if_neg (by omega), if_neg (by omega), if_neg (by omega), if_pos (by omega), if_pos (by omega)]; exact hv
  | 1, _ => rw [if_neg (by omega), if_neg (by omega), if_neg (by omega), if_pos (by omega), if_pos (by omega)]; exact hv
  | 2, _ => rw [if_neg (by omega), if_neg (by omega), if_pos (by omega), if_pos (by omega)]; exact hv
  | 3, _ => rw [if_neg (by omega), if_pos (by omega), if_pos (by omega)]; exact hv
  | 4, _ => rw [if_pos (by omega), if_pos (by omega)]; exact hv
theorem cells5 {w : World} {g : Nat} {t : TypeId} {cs : Array Value} (h : Cells w g t cs) (o : Nat) (v0 v1 v2 v3 v4 : Value) : Cells (put5 w g o v0 v1 v2 v3 v4) g t (arr5 cs o v0 v1 v2 v3 v4) := ((((h.set_ _ _).set_ _ _).set_ _ _).set_ _ _).set_ _ _
theorem upd5 (w : World) (g o : Nat) (v0 v1 v2 v3 v4 : Value) : Upd (fun b => b = g) w (put5 w g o v0 v1 v2 v3 v4) :=
  ((((((Upd.refl (fun b => b = g) w).setCell ⟨g, o, none⟩ v0 (fun _ => rfl)).setCell ⟨g, o + 1, none⟩ v1 (fun _ => rfl)).setCell ⟨g, o + 2, none⟩ v2 (fun _ => rfl)).setCell ⟨g, o + 3, none⟩ v3 (fun _ => rfl)).setCell ⟨g, o + 4, none⟩ v4 (fun _ => rfl))


/-- instruction j lies with its own row of ranges -/
def LeftI (w : World) (base : Nat) (gr : Nat → Nat) (cs : Array Value) (j : Nat) (x : PInst) : Prop :=
  (∀ (q : Nat) (v : Value), (instCells x (some ⟨gr j, 0, none⟩) x.rs.length (x.rs.length + 1))[q]? = some v → cs[j * 5 + q]? = some v) ∧
  w.ownsRow base 50 2 (.slice (some ⟨gr j, 0, none⟩) (x.rs.length + 1) (x.rs.length + 1)) (x.rs.length + 1) (lentRanges x.rs)
/-- instruction j lies without ranges -/
def RightI (cs : Array Value) (j : Nat) (x : PInst) : Prop := x.rs = [] ∧ ∀ (q : Nat) (v : Value), (instCells x none 0 0)[q]? = some v → cs[j * 5 + q]? = some v
/-- a lent program, its first i0 instructions turned -/
structure TurnM (w : World) (base ga : Nat) (js : List PInst) (gr : Nat → Nat) (cs : Array Value) (i0 : Nat) : Prop where
  blk : Cells w ga 48 cs
  size : cs.size = (js.length + 1) * 5
  old : ∀ (j : Nat) (x : PInst), i0 ≤ j → js[j]? = some x → LeftI w base gr cs j x
  new : ∀ (j : Nat) (x : PInst), j < i0 → js[j]? = some x → LeftI w base gr cs j x ∨ RightI cs j x
  inj : ∀ i j, i < js.length → j < js.length → gr i = gr j → i = j
  lt : ∀ i, i < js.length → gr i < w.heap.size
  ne : ∀ i, i < js.length → gr i ≠ ga

theorem LentM.turn {w : World} {base ga : Nat} {is : List PInst} {gr : Nat → Nat} {cs : Array Value} (h : LentM w base ga is gr cs) : TurnM w base ga is gr cs 0 :=
  ⟨h.l.blk, h.l.size, fun j x _ hx => h.l.done j x (List.getElem?_eq_some_iff.1 hx).1 hx, fun j x hj => absurd hj (by omega), h.l.inj, fun i hi => h.l.lt (Nat.le_refl _) hi, fun i hi => h.l.ne (Nat.le_refl _) hi⟩
theorem own_at {w w' : World} {base e size n g m c : Nat} {xs : List Value} (h : w.ownsRow base e size (.slice (some ⟨g, 0, none⟩) m c) n xs) (hg : w'.heap[g]? = w.heap[g]?) : w'.ownsRow base e size (.slice (some ⟨g, 0, none⟩) m c) n xs := by
  refine ⟨h.1, ?_⟩
  rcases h.2 with hn | ⟨g', cap, cur, hv, hbg, hh, r⟩
  · exact .inl hn
  · refine .inr ⟨g', cap, cur, hv, hbg, ?_, r⟩
    injection hv with e1 _ _
    injection e1 with e1
    injection e1 with e1
    rw [← e1, hg, e1]
    exact hh
theorem TurnM.same {w w' : World} {base ga i0 : Nat} {js : List PInst} {gr : Nat → Nat} {cs : Array Value} (h : TurnM w base ga js gr cs i0) (hU : Upd Nob w w') : TurnM w' base ga js gr cs i0 :=
  ⟨h.blk.upd hU not_nob, h.size, fun j x hj hx => ⟨(h.old j x hj hx).1, own_upd (h.old j x hj hx).2 hU (fun _ _ => not_nob)⟩, fun j x hj hx => (h.new j x hj hx).imp (fun k => ⟨k.1, own_upd k.2 hU (fun _ _ => not_nob)⟩) id, h.inj, fun i hi => Nat.lt_of_lt_of_le (h.lt i hi) hU.size, h.ne⟩
theorem TurnM.put {w w' : World} {base ga i i0 i1 : Nat} {js : List PInst} {gr : Nat → Nat} {cs cs' : Array Value} {x x' : PInst} (h : TurnM w base ga js gr cs i0) (hx : js[i]? = some x)
    (hb : Cells w' ga 48 cs') (hs : cs'.size = cs.size) (hsz : w.heap.size ≤ w'.heap.size) (hfar : ∀ j, j < i * 5 ∨ i * 5 + 5 ≤ j → cs'[j]? = cs[j]?) (h01 : i0 ≤ i1)
    (hc : LeftI w' base gr cs' i x' ∨ (i < i1 ∧ RightI cs' i x'))
    (hr : ∀ j, j < js.length → j ≠ i → w'.heap[gr j]? = w.heap[gr j]?) : TurnM w' base ga (js.set i x') gr cs' i1 := by
  have hi : i < js.length := (List.getElem?_eq_some_iff.1 hx).1
  have hl : (js.set i x').length = js.length := List.length_set
  have hcells : ∀ (j : Nat) (y : PInst) (B : Option Addr) (m c : Nat), j ≠ i → (∀ (q : Nat) (v : Value), (instCells y B m c)[q]? = some v → cs[j * 5 + q]? = some v) → ∀ (q : Nat) (v : Value), (instCells y B m c)[q]? = some v → cs'[j * 5 + q]? = some v := fun j y B m c hj hh q v hv => by
    have hq : q < 5 := (Array.getElem?_eq_some_iff.1 hv).1
    rw [hfar _ (by omega)]
    exact hh q v hv
  have hleft : ∀ (j : Nat) (y : PInst), j ≠ i → js[j]? = some y → LeftI w base gr cs j y → LeftI w' base gr cs' j y := fun j y hj hy k =>
    ⟨hcells j y _ _ _ hj k.1, own_at k.2 (hr j (List.getElem?_eq_some_iff.1 hy).1 hj)⟩
  refine ⟨hb, by rw [hs, hl]; exact h.size, fun j y hj hy => ?_, fun j y hj hy => ?_, fun a b ha hb2 e => h.inj a b (by omega) (by omega) e, fun a ha => Nat.lt_of_lt_of_le (h.lt a (by omega)) hsz, fun a ha => h.ne a (by omega)⟩
  · by_cases hji : j = i
    · subst hji
      rw [List.getElem?_set_self hi] at hy
      injection hy with hy
      subst hy
      exact hc.resolve_right (fun k => by omega)
    · rw [List.getElem?_set_ne (fun e => hji e.symm)] at hy
      exact hleft j y hji hy (h.old j y (by omega) hy)
  · by_cases hji : j = i
    · subst hji
      rw [List.getElem?_set_self hi] at hy
      injection hy with hy
      subst hy
      exact hc.imp id (fun k => k.2)
    · rw [List.getElem?_set_ne (fun e => hji e.symm)] at hy
      by_cases hj0 : j < i0
      · exact (h.new j y hj0 hy).imp (hleft j y hji hy) (fun k => ⟨k.1, hcells j y _ _ _ hji k.2⟩)
      · exact .inl (hleft j y hji hy (h.old j y (by omega) hy))
theorem TurnM.step {w : World} {base ga i0 : Nat} {js : List PInst} {gr : Nat → Nat} {cs : Array Value} (h : TurnM w base ga js gr cs i0) : TurnM w base ga js gr cs (i0 + 1) :=
  ⟨h.blk, h.size, fun j x hj hx => h.old j x (by omega) hx, fun j x hj hx => by
    by_cases hj0 : j < i0
    · exact h.new j x hj0 hx
    · exact .inl (h.old j x (by omega) hx), h.inj, h.lt, h.ne⟩
theorem TurnM.insts {w : World} {base ga i0 : Nat} {js : List PInst} {gr : Nat → Nat} {cs : Array Value} (h : TurnM w base ga js gr cs i0) (hI : ∀ x ∈ js, In64I x ∧ In64s x.rs ∧ x.rs.length ≤ 140737488355328) :
    InstsR w (fun b => b = ga ∨ ∃ i, i < js.length ∧ b = gr i) (some ⟨ga, 0, none⟩) js.length js := by
  refine ⟨rfl, fun i x hx => ?_⟩
  have hi := (List.getElem?_eq_some_iff.1 hx).1
  obtain ⟨h1, h2, h3⟩ := hI x (List.mem_of_getElem? hx)
  have hd : LeftI w base gr cs i x ∨ RightI cs i x := by
    by_cases hj0 : i < i0
    · exact h.new i x hj0 hx
    · exact .inl (h.old i x (by omega) hx)
  rcases hd with ⟨hc, ho⟩ | ⟨hr, hc⟩
  · exact ⟨_, ga, i * 5, some ⟨gr i, 0, none⟩, x.rs.length, x.rs.length + 1, rfl, by rw [add_lit_, Nat.zero_add], .inl rfl, h.blk.lt, ⟨(lent_reads rfl ho).weaken (fun b hb => .inr ⟨i, hi, hb⟩), h2, h3⟩, h1, fun j v hv => h.blk.cellv (hc j v hv)⟩
  · exact ⟨_, ga, i * 5, none, 0, 0, rfl, by rw [add_lit_, Nat.zero_add], .inl rfl, h.blk.lt, ⟨by rw [hr]; exact .nil_, h2, by omega⟩, h1, fun j v hv => h.blk.cellv (hc j v hv)⟩

/-- the first i instructions turned -/
def JsOk (is js : List PInst) (i : Nat) : Prop := js.length = is.length ∧ ∀ j : Nat, js[j]? = if j < i then (is[j]?).map turnI else is[j]?
theorem js_zero (is : List PInst) : JsOk is is 0 := ⟨rfl, fun j => by rw [if_neg (by omega)]⟩
theorem js_more {is js : List PInst} {i : Nat} {x : PInst} (h : JsOk is js i) (hx : is[i]? = some x) : JsOk is (js.set i (turnI x)) (i + 1) := by
  have hi : i < is.length := (List.getElem?_eq_some_iff.1 hx).1
  refine ⟨by rw [List.length_set]; exact h.1, fun j => ?_⟩
  by_cases hj : j = i
  · subst hj
    rw [List.getElem?_set_self (by rw [h.1]; exact hi), if_pos (by omega), hx]
    rfl
  · rw [List.getElem?_set_ne (fun e => hj e.symm), h.2 j]
    by_cases h2 : j < i
    · rw [if_pos h2, if_pos (by omega)]
    · rw [if_neg h2, if_neg (by omega)]
theorem js_end {is js : List PInst} (h : JsOk is js is.length) : js = is.map turnI := by
  refine List.ext_getElem? fun j => ?_
  rw [h.2 j, List.getElem?_map]
  by_cases h2 : j < is.length
  · rw [if_pos h2]
  · rw [if_neg h2, List.getElem?_eq_none (by omega)]
    rfl

/-- what turned may write -/
def OfLent (ga : Nat) (gr : Nat → Nat) (n : Nat) : Nat → Prop := fun b => b = ga ∨ ∃ i, i < n ∧ b = gr i
theorem list_same {js : List PInst} {i : Nat} {x : PInst} (h : js[i]? = some x) : js.set i x = js := by
  have hi : i < js.length := (List.getElem?_eq_some_iff.1 h).1
  refine List.ext_getElem? fun j => ?_
  by_cases hj : j = i
  · subst hj
    rw [List.getElem?_set_self hi, h]
  · rw [List.getElem?_set_ne (fun e => hj e.symm)]

set_option maxRecDepth 100000 in
set_option maxHeartbeats 4000000 in
theorem turnedProg_any (w : World) (base ga : Nat) (is : List PInst) (gr : Nat → Nat) (cs : Array Value) (start caps : Int) (h : LentM w base ga is gr cs) (hnb : is.length * 56 ≤ 140737488351232)
    (hI : ∀ x ∈ is, x.rs.length * 16 ≤ 140737488351232) :
    Calls Tryd.prog 13 #[.agg #[.slice (some ⟨ga, 0, none⟩) is.length (is.length + 1), .int .i64 start, .int .i64 caps]] w fun e w' => e = .returned (.tuple #[]) ∧ (∃ cs', TurnM w' base ga (is.map turnI) gr cs' is.length) ∧ Upd (OfLent ga gr is.length) w w' := by
  have HI := hideP hI
  have C0 : Cells (w.alloc (.cells #[.slice (some ⟨ga, 0, none⟩) is.length (is.length + 1), .int .i64 start, .int .i64 caps] 24)) w.heap.size 24 #[.slice (some ⟨ga, 0, none⟩) is.length (is.length + 1), .int .i64 start, .int .i64 caps] := Cells.new _ _ _
  have hU := (Upd.refl (OfLent ga gr is.length) w).alloc (.cells #[.slice (some ⟨ga, 0, none⟩) is.length (is.length + 1), .int .i64 start, .int .i64 caps] 24)
  have hM := h.turn.same ((Upd.refl Nob w).alloc (.cells #[.slice (some ⟨ga, 0, none⟩) is.length (is.length + 1), .int .i64 start, .int .i64 caps] 24))
  have hbx : ¬ OfLent ga gr is.length w.heap.size := by
    rintro (e | ⟨i, hi, e⟩)
    · have := h.l.blk.lt; omega
    · have := h.l.lt (Nat.le_refl _) hi; omega
  clear h hI
  go_enter Tryd.func13, Tryd.ntmps13
  go_upto_region 1 with fail
  generalize w.alloc (.cells #[.slice (some ⟨ga, 0, none⟩) is.length (is.length + 1), .int .i64 start, .int .i64 caps] 24) = w2 at *
  have HC := hideP C0
  have HU := hideP hU
  have e0 : w2.cell? ⟨w.heap.size, 0, none⟩ = some (.slice (some ⟨ga, 0, none⟩) is.length (is.length + 1)) := C0.cellv rfl
  clear C0 hU
  go_wp2_with fail
  go_loopg [2] is.length (fun gk v2 wr => ∃ (i : Nat) (js : List PInst) (cs : Array Value), i + gk = is.length ∧ v2 = .int .i64 (i : Int) ∧ JsOk is js i ∧ TurnM wr base ga js gr cs i ∧ Upd (OfLent ga gr is.length) w2 wr)
  case atStart => exact ⟨0, is, cs, by omega, rfl, js_zero is, hM, Upd.refl _ _⟩
  case round =>
    obtain ⟨i, js, cs1, hk, rfl, hjs, hMr, hU⟩ := hrel
    have CB := HC.out.upd hU hbx
    have b0 : wr.cell? ⟨w.heap.size, 0, none⟩ = some (.slice (some ⟨ga, 0, none⟩) is.length (is.length + 1)) := CB.cellv rfl
    by_cases hlt : i < is.length
    · obtain ⟨x, hx⟩ : ∃ x, is[i]? = some x := ⟨_, List.getElem?_eq_getElem hlt⟩
      have hxj : js[i]? = some x := by rw [hjs.2 i, if_neg (by omega)]; exact hx
      have hmx := HI.out x (List.mem_of_getElem? hx)
      have HJ := hideP (js_more hjs hx)
      have HL0 := hideP hjs.1
      obtain ⟨op, xx, yy, arg, rs⟩ := x
      simp only at hmx
      obtain ⟨h1, h2⟩ := hMr.old i _ (Nat.le_refl _) hxj
      have il : (i : Int) < (is.length : Int) := by omega
      have hcs := hMr.size
      have c4 : cs1[i * 5 + 4]? = some (.slice (some ⟨gr i, 0, none⟩) rs.length (rs.length + 1)) := h1 4 _ rfl
      have hMz : TurnM wr base ga (js.set i ⟨op, xx, yy, arg, turnR 0 rs⟩) gr cs1 i := by
        rw [turnR_zero, list_same hxj]; exact hMr
      have HXJ := hideP hxj
      have HK := hideP hk
      clear hx hxj hjs hMr h1 h2 CB hk
      go_wp2_with fail
      go_loopg [3] rs.length (fun gk v3 wq => ∃ k : Nat, k + gk = rs.length ∧ v3 = .int .i64 (k : Int) ∧ TurnM wq base ga (js.set i ⟨op, xx, yy, arg, turnR k rs⟩) gr cs1 i ∧ Upd (OfLent ga gr is.length) w2 wq)
      case atStart => exact ⟨0, by omega, rfl, hMz, hU⟩
      case round =>
        obtain ⟨k, hk, rfl, hMq, hUq⟩ := hrel
        have hil : i < (js.set i ⟨op, xx, yy, arg, turnR k rs⟩).length := by rw [List.length_set, HL0.out]; exact hlt
        have hiset : (js.set i ⟨op, xx, yy, arg, turnR k rs⟩)[i]? = some ⟨op, xx, yy, arg, turnR k rs⟩ := List.getElem?_set_self (by rw [HL0.out]; exact hlt)
        obtain ⟨d1, d2⟩ := hMq.old i _ (Nat.le_refl _) hiset
        have hkl : (turnR k rs).length = rs.length := turnR_len (by omega)
        have b0 : wr.cell? ⟨w.heap.size, 0, none⟩ = some (.slice (some ⟨ga, 0, none⟩) is.length (is.length + 1)) := (HC.out.upd hUq hbx).cellv rfl
        have q4 : wr.cell? ⟨ga, i * 5 + 4, none⟩ = some (.slice (some ⟨gr i, 0, none⟩) rs.length (rs.length + 1)) := hMq.blk.cellv c4
        by_cases hkr : k < rs.length
        · have kr : (k : Int) < (rs.length : Int) := by omega
          have y0 : wr.frozen? ⟨gr i, k * 2, none⟩ = false := d2.frozenAt _
          have y1 : wr.frozen? ⟨gr i, k * 2 + 1, none⟩ = false := d2.frozenAt _
          have d3 : wr.ownsRow base 50 2 (.slice (some ⟨gr i, 0, none⟩) (rs.length + 1) (rs.length + 1)) (rs.length + 1) (lentRanges (turnR k rs)) := by
            have h3 := d2
            simp only [hkl] at h3
            exact h3
          have hol := d3.1
          obtain ⟨u0, z0⟩ : ∃ u, wr.cell? ⟨gr i, k * 2, none⟩ = some u := by
            have h1 := d3.cellAt (k * 2) (by omega)
            rw [List.getElem?_eq_getElem (by omega)] at h1
            exact ⟨_, h1⟩
          obtain ⟨u1, z1⟩ : ∃ u, wr.cell? ⟨gr i, k * 2 + 1, none⟩ = some u := by
            have h1 := d3.cellAt (k * 2 + 1) (by omega)
            rw [List.getElem?_eq_getElem (by omega)] at h1
            exact ⟨_, h1⟩
          have m3 : IntKind.i64.wrap (3 * (k : Int)) = 3 * (k : Int) := by rw [IntKind.wrap_i64]; omega
          have m4 : IntKind.i64.wrap (3 * (k : Int) + 1) = 3 * (k : Int) + 1 := by rw [IntKind.wrap_i64]; omega
          have hga : ¬ ga = gr i := fun e => hMq.ne i hil e.symm
          have hin : OfLent ga gr is.length (gr i) := .inr ⟨i, hlt, rfl⟩
          have o3 := ((d3.stored (k * 2) (.int .i64 (3 * (k : Int)))).1.stored (k * 2 + 1) (.int .i64 (3 * (k : Int) + 1))).1
          rw [lent_set hkr] at o3
          have hMn : TurnM ((wr.setCell ⟨gr i, k * 2, none⟩ (.int .i64 (3 * (k : Int)))).setCell ⟨gr i, k * 2 + 1, none⟩ (.int .i64 (3 * (k : Int) + 1))) base ga (js.set i ⟨op, xx, yy, arg, turnR (k + 1) rs⟩) gr cs1 i := by
            have hlen1 : (turnR (k + 1) rs).length = rs.length := turnR_len (by omega)
            have := hMq.put (x' := ⟨op, xx, yy, arg, turnR (k + 1) rs⟩) hiset ((hMq.blk.far ⟨gr i, k * 2, none⟩ (.int .i64 (3 * (k : Int))) hga).far ⟨gr i, k * 2 + 1, none⟩ (.int .i64 (3 * (k : Int) + 1)) hga) rfl (by simp [World.setCell]) (fun j _ => rfl) (Nat.le_refl i) (.inl ⟨fun j v hv => ?_, ?_⟩) (fun j hj hne => ?_)
            · rw [List.set_set] at this; exact this
            · refine d1 j v ?_
              simp only [instCells, hkl, hlen1] at hv ⊢
              exact hv
            · simp only [hlen1]
              exact o3
            · have hne2 : gr j ≠ gr i := fun e => hne (hMq.inj j i hj hil e)
              exact (Below.heap_setCell _ _ _ _ hne2).trans (Below.heap_setCell _ _ _ _ hne2)
          have HMn := hideP hMn
          have HUn := hideP ((hUq.setCell ⟨gr i, k * 2, none⟩ (.int .i64 (3 * (k : Int))) (fun _ => hin)).setCell ⟨gr i, k * 2 + 1, none⟩ (.int .i64 (3 * (k : Int) + 1)) (fun _ => hin))
          clear hMn hMq d1 d2 d3 o3 hol hin hiset hil
          go_wp2_with fail
          go_roundg (rs.length - (k + 1))
          case measure => omega
          case rel => exact ⟨k + 1, by omega, by go_num, HMn.out, HUn.out⟩
        · have hke : k = rs.length := by omega
          have kr : ¬ (k : Int) < (rs.length : Int) := by omega
          have c0 : cs1[i * 5]? = some (.int .i64 op) := by have := d1 0 _ rfl; exact this
          have c1 : cs1[i * 5 + 1]? = some (.int .i64 xx) := by have := d1 1 _ rfl; exact this
          have c2 : cs1[i * 5 + 2]? = some (.int .i64 yy) := by have := d1 2 _ rfl; exact this
          have c3 : cs1[i * 5 + 3]? = some (.int .i64 arg) := by have := d1 3 _ rfl; exact this
          have g0 : wr.cell? ⟨ga, i * 5, none⟩ = some (.int .i64 op) := hMq.blk.cellv c0
          have g1 : wr.cell? ⟨ga, i * 5 + 1, none⟩ = some (.int .i64 xx) := hMq.blk.cellv c1
          have g2 : wr.cell? ⟨ga, i * 5 + 2, none⟩ = some (.int .i64 yy) := hMq.blk.cellv c2
          have g3 : wr.cell? ⟨ga, i * 5 + 3, none⟩ = some (.int .i64 arg) := hMq.blk.cellv c3
          have f0 : wr.frozen? ⟨ga, i * 5, none⟩ = false := hMq.blk.frozen _
          have f1 : wr.frozen? ⟨ga, i * 5 + 1, none⟩ = false := hMq.blk.frozen _
          have f2 : wr.frozen? ⟨ga, i * 5 + 2, none⟩ = false := hMq.blk.frozen _
          have f3 : wr.frozen? ⟨ga, i * 5 + 3, none⟩ = false := hMq.blk.frozen _
          have f4 : wr.frozen? ⟨ga, i * 5 + 4, none⟩ = false := hMq.blk.frozen _
          by_cases ho : op = 7
          · subst ho
            have hin : OfLent ga gr is.length ga := .inl rfl
            have hU5 := upd5 wr ga (i * 5) (.int .i64 6) (.int .i64 0) (.int .i64 0) (.int .i64 0) (.slice none 0 0)
            have hMn : TurnM (put5 wr ga (i * 5) (.int .i64 6) (.int .i64 0) (.int .i64 0) (.int .i64 0) (.slice none 0 0)) base ga (js.set i (turnI ⟨7, xx, yy, arg, rs⟩)) gr (arr5 cs1 (i * 5) (.int .i64 6) (.int .i64 0) (.int .i64 0) (.int .i64 0) (.slice none 0 0)) (i + 1) := by
              have hsz := hMq.size
              rw [List.length_set] at hsz
              have hjl := HL0.out
              have := hMq.put (x' := turnI ⟨7, xx, yy, arg, rs⟩) (i1 := i + 1) hiset (cells5 hMq.blk (i * 5) (.int .i64 6) (.int .i64 0) (.int .i64 0) (.int .i64 0) (.slice none 0 0)) (arr5_size _ _ _ _ _ _ _) hU5.size (fun j hj => arr5_far _ _ _ _ _ hj) (Nat.le_succ i) (.inr ⟨Nat.lt_succ_self i, rfl, fun q v hv => arr5_at _ _ _ _ _ (by omega) q v hv⟩) (fun j hj hne => hU5.block _ (hMq.lt j hj) (hMq.ne j hj))
              rw [List.set_set] at this; exact this
            have HMn := hideP hMn
            have HUn := hideP (hUq.trans hU5 (fun b _ hb => by rw [hb]; exact hin))
            clear hMn hMq d1 d2 hin hiset c0 c1 c2 c3 hU5 hil
            go_wp2_with fail
            have hk := HK.out
            go_roundg (is.length - (i + 1))
            case measure => omega
            case rel => exact ⟨i + 1, _, _, by omega, by go_num, HJ.out, HMn.out, HUn.out⟩
          · have hob : (op == 7) = false := by simpa using ho
            have e1 : turnI ⟨op, xx, yy, arg, rs⟩ = ⟨op, xx, yy, arg, turnR k rs⟩ := by simp [turnI, ho, hke]
            have HMn := hideP (show TurnM wr base ga (js.set i (turnI ⟨op, xx, yy, arg, rs⟩)) gr cs1 (i + 1) by rw [e1]; exact hMq.step)
            have HUn := hideP hUq
            clear hMq d1 d2 hiset c0 c1 c2 c3 e1 hUq hil
            go_wp2_with fail
            have hk := HK.out
            go_roundg (is.length - (i + 1))
            case measure => omega
            case rel => exact ⟨i + 1, _, cs1, by omega, by go_num, HJ.out, HMn.out, HUn.out⟩
    · have hkn : i = is.length := by omega
      clear hk
      subst hkn
      have HE := hideP (js_end hjs)
      go_wp2_with fail
      go_end0
      exact ⟨rfl, ⟨cs1, by rw [← HE.out]; exact hMr⟩, HU.out.trans hU (fun _ _ h => h)⟩
end Go.Proofs.YtdbdokjlcdogiaaDoor
