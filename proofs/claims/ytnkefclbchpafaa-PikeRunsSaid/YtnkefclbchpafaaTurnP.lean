/-
  The walk of heronlaw11.Turned: other things in the same lists of a lent program.
-/
import Derived.Test.YtnkefclbchpafaaSameP
namespace Go.Proofs.Ytnkefclbchpafaa
open Go.RowKit
set_option linter.unusedVariables false

/-- the first k ranges turned -/
def turnR (k : Nat) (rs : List (Int × Int)) : List (Int × Int) := (List.range k).map (fun j : Nat => ((1000 + 3 * (j : Int), 1000 + 3 * (j : Int)) : Int × Int)) ++ rs.drop k
def turnI (x : PInst) : PInst := ⟨x.op, if x.op = 2 then x.y else x.x, if x.op = 2 then x.x else x.y, x.arg, turnR x.rs.length x.rs⟩
theorem turnR_len {k : Nat} {rs : List (Int × Int)} (h : k ≤ rs.length) : (turnR k rs).length = rs.length := by simp [turnR]; omega
theorem turnR_zero (rs : List (Int × Int)) : turnR 0 rs = rs := by simp [turnR]
theorem turnI_len (x : PInst) : (turnI x).rs.length = x.rs.length := turnR_len (Nat.le_refl _)
theorem pairv_set' : ∀ (l : List (Int × Int)) (k : Nat) (a b : Int), k < l.length → ((pairv l).set (k * 2) (.int .i64 a)).set (k * 2 + 1) (.int .i64 b) = pairv (l.set k (a, b))
  | [], k, a, b, h => by simp at h
  | x :: l, 0, a, b, h => by simp [pairv]
  | x :: l, k + 1, a, b, h => by
    have := pairv_set' l k a b (by simpa using h)
    simp only [pairv, List.set_cons_succ]
    rw [show (k + 1) * 2 = k * 2 + 1 + 1 by omega, List.set_cons_succ, List.set_cons_succ, List.set_cons_succ, List.set_cons_succ, this]
theorem turnR_succ {k : Nat} {rs : List (Int × Int)} (h : k < rs.length) : (turnR k rs).set k (1000 + 3 * (k : Int), 1000 + 3 * (k : Int)) = turnR (k + 1) rs := by
  unfold turnR
  rw [List.set_append_right _ _ (by simp)]
  simp only [List.length_map, List.length_range, Nat.sub_self]
  rw [List.drop_eq_getElem_cons h, List.set_cons_zero, List.range_succ, List.map_append, List.append_assoc]
  rfl
theorem lent_set {k : Nat} {rs : List (Int × Int)} (h : k < rs.length) : ((lentRanges (turnR k rs)).set (k * 2) (.int .i64 (1000 + 3 * (k : Int)))).set (k * 2 + 1) (.int .i64 (1000 + 3 * (k : Int))) = lentRanges (turnR (k + 1) rs) := by
  unfold lentRanges
  have hl : (turnR k rs).length = rs.length := turnR_len (by omega)
  rw [pairv_set' _ _ _ _ (by simp; omega), List.set_append_left _ _ (by omega), turnR_succ h]

/-- an instruction of a lent program changed -/
theorem LentM.put {w w' : World} {base ga i : Nat} {is : List PInst} {gr : Nat → Nat} {cs cs' : Array Value} {x x' : PInst} (h : LentM w base ga is gr cs) (hx : is[i]? = some x)
    (hb : Cells w' ga 64 cs') (hs : cs'.size = cs.size) (hfar : ∀ j, j < i * 5 ∨ i * 5 + 5 ≤ j → cs'[j]? = cs[j]?)
    (hc : ∀ (j : Nat) v, (instCells x' (some ⟨gr i, 0, none⟩) x'.rs.length (x'.rs.length + 2))[j]? = some v → cs'[i * 5 + j]? = some v)
    (ho : w'.ownsRow base 66 2 (.slice (some ⟨gr i, 0, none⟩) (x'.rs.length + 2) (x'.rs.length + 2)) (x'.rs.length + 2) (lentRanges x'.rs))
    (hr : ∀ j, j < is.length → j ≠ i → w'.heap[gr j]? = w.heap[gr j]?) : LentM w' base ga (is.set i x') gr cs' := by
  have hi : i < is.length := (List.getElem?_eq_some_iff.1 hx).1
  have hl : (is.set i x').length = is.length := List.length_set
  refine ⟨⟨hb, by rw [hs, hl]; exact h.l.size, h.l.low, fun j y hj hy => ?_, fun a b ha hb2 e => h.l.inj a b (by omega) (by omega) e⟩, ?_, ?_⟩
  · by_cases hji : j = i
    · subst hji
      rw [List.getElem?_set_self hi] at hy
      injection hy with hy
      subst hy
      exact ⟨hc, ho⟩
    · rw [List.getElem?_set_ne (fun e => hji e.symm)] at hy
      obtain ⟨h1, h2⟩ := h.l.done j y (by omega) hy
      refine ⟨fun q v hv => ?_, ⟨h2.1, ?_⟩⟩
      · have hq : q < 5 := (Array.getElem?_eq_some_iff.1 hv).1
        rw [hfar _ (by omega)]
        exact h1 q v hv
      · rcases h2.2 with hn | ⟨g, cap, cur, hv, hbg, hg, r⟩
        · exact .inl hn
        · refine .inr ⟨g, cap, cur, hv, hbg, ?_, r⟩
          injection hv with e1 _ _
          injection e1 with e1
          injection e1 with e1
          rw [← e1, hr j (by omega) hji, e1]
          exact hg
  · rw [hl, hfar _ (by omega)]; exact h.m1
  · rw [hl, hfar _ (by omega)]; exact h.m2
theorem arr_set2 {w : World} {g : Nat} {t : TypeId} {cs : Array Value} (h : Cells w g t cs) (o : Nat) (u v : Value) : Cells ((w.setCell ⟨g, o, none⟩ u).setCell ⟨g, o + 1, none⟩ v) g t ((cs.setIfInBounds o u).setIfInBounds (o + 1) v) := (h.set_ _ _).set_ _ _

/-- the first i instructions turned -/
def JsOk (is js : List PInst) (i : Nat) : Prop := js.length = is.length ∧ ∀ j : Nat, js[j]? = if j < i then (is[j]?).map turnI else is[j]?
theorem js_zero (is : List PInst) : JsOk is is 0 := ⟨rfl, fun j => by rw [if_neg (by omega)]⟩
theorem js_more {is js : List PInst} {i : Nat} {x : PInst} (h : JsOk is js i) (hx : is[i]? = some x) : JsOk is (js.set i (turnI x)) (i + 1) := by
  have hi : i < is.length := (List.getElem?_eq_some_iff.1 hx).1
  refine ⟨by rw [List.length_set]; exact h.1, fun j => ?_⟩
  by_cases hj : j = i
  · subst hj
    rw [List.getElem?_set_self (by rw [h.1]; exact hi), if_pos (by omega), hx]
    rfl
  · rw [List.getElem?_set_ne (fun e => hj e.symm), h.2 j]
    by_cases h2 : j < i
    · rw [if_pos h2, if_pos (by omega)]
    · rw [if_neg h2, if_neg (by omega)]
theorem js_end {is js : List PInst} (h : JsOk is js is.length) : js = is.map turnI := by
  refine List.ext_getElem? fun j => ?_
  rw [h.2 j, List.getElem?_map]
  by_cases h2 : j < is.length
  · rw [if_pos h2]
  · rw [if_neg h2, List.getElem?_eq_none (by omega)]
    rfl

/-- what Turned may write -/
def OfLent (ga : Nat) (gr : Nat → Nat) (n : Nat) : Nat → Prop := fun b => b = ga ∨ ∃ i, i < n ∧ b = gr i

set_option maxRecDepth 100000 in
set_option maxHeartbeats 4000000 in
theorem turnedProg_any (w : World) (base ga : Nat) (is : List PInst) (gr : Nat → Nat) (cs : Array Value) (start caps : Int) (h : LentM w base ga is gr cs) (hnb : is.length * 56 ≤ 140737488351232)
    (hI : ∀ x ∈ is, x.rs.length * 16 ≤ 140737488351232) :
    Calls Try.prog 17 #[.agg #[.slice (some ⟨ga, 0, none⟩) is.length (is.length + 2), .int .i64 start, .int .i64 caps]] w fun e w' => e = .returned (.tuple #[]) ∧ (∃ cs', LentM w' base ga (is.map turnI) gr cs') ∧ Upd (OfLent ga gr is.length) w w' := by
  have HI := hideP hI
  have C0 : Cells (w.alloc (.cells #[.slice (some ⟨ga, 0, none⟩) is.length (is.length + 2), .int .i64 start, .int .i64 caps] 27)) w.heap.size 27 #[.slice (some ⟨ga, 0, none⟩) is.length (is.length + 2), .int .i64 start, .int .i64 caps] := Cells.new _ _ _
  have hU := (Upd.refl (OfLent ga gr is.length) w).alloc (.cells #[.slice (some ⟨ga, 0, none⟩) is.length (is.length + 2), .int .i64 start, .int .i64 caps] 27)
  have hM := h.old ((Upd.refl Nob w).alloc (.cells #[.slice (some ⟨ga, 0, none⟩) is.length (is.length + 2), .int .i64 start, .int .i64 caps] 27)) (fun _ _ => not_nob)
  have hbx : ¬ OfLent ga gr is.length w.heap.size := by
    rintro (e | ⟨i, hi, e⟩)
    · have := h.l.blk.lt; omega
    · have := h.l.lt (Nat.le_refl _) hi; omega
  clear h hI
  go_enter Try.func17, Try.ntmps17
  go_upto_region 1 with fail
  generalize w.alloc (.cells #[.slice (some ⟨ga, 0, none⟩) is.length (is.length + 2), .int .i64 start, .int .i64 caps] 27) = w2 at *
  have HC := hideP C0
  have HU := hideP hU
  have e0 : w2.cell? ⟨w.heap.size, 0, none⟩ = some (.slice (some ⟨ga, 0, none⟩) is.length (is.length + 2)) := C0.cellv rfl
  clear C0 hU
  go_wp2_with fail
  go_loopg [2] is.length (fun gk v2 wr => ∃ (i : Nat) (js : List PInst) (cs : Array Value), i + gk = is.length ∧ v2 = .int .i64 (i : Int) ∧ JsOk is js i ∧ LentM wr base ga js gr cs ∧ Upd (OfLent ga gr is.length) w2 wr)
  case atStart => exact ⟨0, is, cs, by omega, rfl, js_zero is, hM, Upd.refl _ _⟩
  case round =>
    obtain ⟨i, js, cs1, hk, rfl, hjs, hMr, hU⟩ := hrel
    have CB := HC.out.upd hU hbx
    have b0 : wr.cell? ⟨w.heap.size, 0, none⟩ = some (.slice (some ⟨ga, 0, none⟩) is.length (is.length + 2)) := CB.cellv rfl
    by_cases hlt : i < is.length
    · obtain ⟨x, hx⟩ : ∃ x, is[i]? = some x := ⟨_, List.getElem?_eq_getElem hlt⟩
      have hxj : js[i]? = some x := by rw [hjs.2 i, if_neg (by omega)]; exact hx
      have hmx := HI.out x (List.mem_of_getElem? hx)
      have HJ := hideP (js_more hjs hx)
      have HL0 := hideP hjs.1
      obtain ⟨op, xx, yy, arg, rs⟩ := x
      simp only at hmx
      obtain ⟨h1, h2⟩ := hMr.l.done i _ (by rw [hjs.1]; exact hlt) hxj
      have il : (i : Int) < (is.length : Int) := by omega
      have hcs := hMr.l.size
      have c4 : cs1[i * 5 + 4]? = some (.slice (some ⟨gr i, 0, none⟩) rs.length (rs.length + 2)) := h1 4 _ rfl
      have hMz : LentM wr base ga (js.set i ⟨op, xx, yy, arg, turnR 0 rs⟩) gr cs1 := by
        have e : js.set i ⟨op, xx, yy, arg, turnR 0 rs⟩ = js := by
          rw [turnR_zero]
          refine List.ext_getElem? fun j => ?_
          by_cases hj : j = i
          · subst hj
            rw [List.getElem?_set_self (by rw [hjs.1]; exact hlt), hxj]
          · rw [List.getElem?_set_ne (fun e => hj e.symm)]
        rw [e]; exact hMr
      have HXJ := hideP hxj
      have HK := hideP hk
      clear hx hxj hjs hMr h1 h2 CB hk
      go_wp2_with fail
      go_loopg [3] rs.length (fun gk v3 wq => ∃ k : Nat, k + gk = rs.length ∧ v3 = .int .i64 (k : Int) ∧ LentM wq base ga (js.set i ⟨op, xx, yy, arg, turnR k rs⟩) gr cs1 ∧ Upd (OfLent ga gr is.length) w2 wq)
      case atStart => exact ⟨0, by omega, rfl, hMz, hU⟩
      case round =>
        obtain ⟨k, hk, rfl, hMq, hUq⟩ := hrel
        have hiset : (js.set i ⟨op, xx, yy, arg, turnR k rs⟩)[i]? = some ⟨op, xx, yy, arg, turnR k rs⟩ := List.getElem?_set_self (by rw [HL0.out]; exact hlt)
        obtain ⟨d1, d2⟩ := hMq.l.done i _ (by rw [List.length_set, HL0.out]; exact hlt) hiset
        have hkl : (turnR k rs).length = rs.length := turnR_len (by omega)
        have b0 : wr.cell? ⟨w.heap.size, 0, none⟩ = some (.slice (some ⟨ga, 0, none⟩) is.length (is.length + 2)) := (HC.out.upd hUq hbx).cellv rfl
        have q4 : wr.cell? ⟨ga, i * 5 + 4, none⟩ = some (.slice (some ⟨gr i, 0, none⟩) rs.length (rs.length + 2)) := hMq.l.blk.cellv c4
        by_cases hkr : k < rs.length
        · have kr : (k : Int) < (rs.length : Int) := by omega
          have y0 : wr.frozen? ⟨gr i, k * 2, none⟩ = false := d2.frozenAt _
          have y1 : wr.frozen? ⟨gr i, k * 2 + 1, none⟩ = false := d2.frozenAt _
          have d3 : wr.ownsRow base 66 2 (.slice (some ⟨gr i, 0, none⟩) (rs.length + 2) (rs.length + 2)) (rs.length + 2) (lentRanges (turnR k rs)) := by
            have h3 := d2
            simp only [hkl] at h3
            exact h3
          have hol := d3.1
          obtain ⟨u0, z0⟩ : ∃ u, wr.cell? ⟨gr i, k * 2, none⟩ = some u := by
            have h1 := d3.cellAt (k * 2) (by omega)
            rw [List.getElem?_eq_getElem (by omega)] at h1
            exact ⟨_, h1⟩
          obtain ⟨u1, z1⟩ : ∃ u, wr.cell? ⟨gr i, k * 2 + 1, none⟩ = some u := by
            have h1 := d3.cellAt (k * 2 + 1) (by omega)
            rw [List.getElem?_eq_getElem (by omega)] at h1
            exact ⟨_, h1⟩
          have m3 : IntKind.i64.wrap (3 * (k : Int)) = 3 * (k : Int) := by rw [IntKind.wrap_i64]; omega
          have hga : ¬ ga = gr i := fun e => hMq.l.ne (Nat.le_refl _) (show i < (js.set i ⟨op, xx, yy, arg, turnR k rs⟩).length by rw [List.length_set, HL0.out]; exact hlt) e.symm
          have hin : OfLent ga gr is.length (gr i) := .inr ⟨i, hlt, rfl⟩
          have o3 := ((d3.stored (k * 2) (.int .i64 (1000 + 3 * (k : Int)))).1.stored (k * 2 + 1) (.int .i64 (1000 + 3 * (k : Int)))).1
          rw [lent_set hkr] at o3
          have hMn : LentM ((wr.setCell ⟨gr i, k * 2, none⟩ (.int .i64 (1000 + 3 * (k : Int)))).setCell ⟨gr i, k * 2 + 1, none⟩ (.int .i64 (1000 + 3 * (k : Int)))) base ga (js.set i ⟨op, xx, yy, arg, turnR (k + 1) rs⟩) gr cs1 := by
            have hlen1 : (turnR (k + 1) rs).length = rs.length := turnR_len (by omega)
            have := hMq.put (x' := ⟨op, xx, yy, arg, turnR (k + 1) rs⟩) hiset ((hMq.l.blk.far ⟨gr i, k * 2, none⟩ (.int .i64 (1000 + 3 * (k : Int))) hga).far ⟨gr i, k * 2 + 1, none⟩ (.int .i64 (1000 + 3 * (k : Int))) hga) rfl (fun j _ => rfl) (fun j v hv => ?_) ?_ (fun j hj hne => ?_)
            · rw [List.set_set] at this; exact this
            · refine d1 j v ?_
              simp only [instCells, hkl, hlen1] at hv ⊢
              exact hv
            · simp only [hlen1]
              exact o3
            · have hne2 : gr j ≠ gr i := fun e => hne (hMq.l.inj j i hj (by rw [List.length_set, HL0.out]; exact hlt) e)
              exact (Below.heap_setCell _ _ _ _ hne2).trans (Below.heap_setCell _ _ _ _ hne2)
          have HMn := hideP hMn
          have HUn := hideP ((hUq.setCell ⟨gr i, k * 2, none⟩ (.int .i64 (1000 + 3 * (k : Int))) (fun _ => hin)).setCell ⟨gr i, k * 2 + 1, none⟩ (.int .i64 (1000 + 3 * (k : Int))) (fun _ => hin))
          clear hMn hMq d1 d2 d3 o3 hol hin hiset
          go_wp2_with fail
          go_roundg (rs.length - (k + 1))
          case measure => omega
          case rel => exact ⟨k + 1, by omega, by go_num, HMn.out, HUn.out⟩
        · have hke : k = rs.length := by omega
          have kr : ¬ (k : Int) < (rs.length : Int) := by omega
          have c0 : cs1[i * 5]? = some (.int .i64 op) := by have := d1 0 _ rfl; exact this
          have c1 : cs1[i * 5 + 1]? = some (.int .i64 xx) := by have := d1 1 _ rfl; exact this
          have c2 : cs1[i * 5 + 2]? = some (.int .i64 yy) := by have := d1 2 _ rfl; exact this
          have g0 : wr.cell? ⟨ga, i * 5, none⟩ = some (.int .i64 op) := hMq.l.blk.cellv c0
          have g1 : wr.cell? ⟨ga, i * 5 + 1, none⟩ = some (.int .i64 xx) := hMq.l.blk.cellv c1
          have g2 : wr.cell? ⟨ga, i * 5 + 2, none⟩ = some (.int .i64 yy) := hMq.l.blk.cellv c2
          have f1 : wr.frozen? ⟨ga, i * 5 + 1, none⟩ = false := hMq.l.blk.frozen _
          have f2 : wr.frozen? ⟨ga, i * 5 + 2, none⟩ = false := hMq.l.blk.frozen _
          by_cases ho : op = 2
          · subst ho
            have hgl := fun (j : Nat) (hj : j < (js.set i ⟨2, xx, yy, arg, turnR k rs⟩).length) => hMq.l.ne (Nat.le_refl _) hj
            have hin : OfLent ga gr is.length ga := .inl rfl
            have hbg : ¬ w.heap.size = ga := fun e => hbx (by rw [e]; exact hin)
            have hMn : LentM ((wr.setCell ⟨ga, i * 5 + 1, none⟩ (.int .i64 yy)).setCell ⟨ga, i * 5 + 2, none⟩ (.int .i64 xx)) base ga (js.set i (turnI ⟨2, xx, yy, arg, rs⟩)) gr ((cs1.setIfInBounds (i * 5 + 1) (.int .i64 yy)).setIfInBounds (i * 5 + 2) (.int .i64 xx)) := by
              have := hMq.put (x' := turnI ⟨2, xx, yy, arg, rs⟩) hiset ((hMq.l.blk.set_ (i * 5 + 1) (.int .i64 yy)).set_ (i * 5 + 2) (.int .i64 xx)) (by simp) (fun j hj => ?_) (fun j v hv => ?_) ?_ (fun j hj hne => ?_)
              · rw [List.set_set] at this; exact this
              · simp only [Array.getElem?_setIfInBounds]
                rw [if_neg (by omega), if_neg (by omega)]
              · have hj5 : j < 5 := (Array.getElem?_eq_some_iff.1 hv).1
                have hcz : cs1.size = (js.length + 2) * 5 := by have := hMq.l.size; rwa [List.length_set] at this
                have hjl : i < js.length := by rw [HL0.out]; exact hlt
                simp only [Array.getElem?_setIfInBounds, Array.size_setIfInBounds]
                have tl : (turnR rs.length rs).length = rs.length := turnR_len (Nat.le_refl _)
                simp only [turnI, if_true, instCells, tl] at hv
                match j, hj5 with
                | 0, _ => rw [if_neg (by omega), if_neg (by omega)]; rw [show i * 5 + 0 = i * 5 from rfl, c0]; exact hv
                | 1, _ => rw [if_neg (by omega), if_pos (by omega), if_pos (by omega)]; exact hv
                | 2, _ => rw [if_pos (by omega), if_pos (by omega)]; exact hv
                | 3, _ => rw [if_neg (by omega), if_neg (by omega)]; exact d1 3 _ hv
                | 4, _ => rw [if_neg (by omega), if_neg (by omega), c4]; exact hv
              · have e1 : (turnI ⟨2, xx, yy, arg, rs⟩).rs = turnR k rs := by rw [hke]; rfl
                rw [e1]
                exact own_upd d2 (((Upd.refl (fun b => b = ga) wr).setCell ⟨ga, i * 5 + 1, none⟩ (.int .i64 yy) (fun _ => rfl)).setCell ⟨ga, i * 5 + 2, none⟩ (.int .i64 xx) (fun _ => rfl)) (fun b hb e => by
                  simp [Value.ownBlock] at hb
                  exact hgl i (by rw [List.length_set, HL0.out]; exact hlt) (hb.trans e))
              · have hne2 : gr j ≠ ga := hgl j hj
                exact (Below.heap_setCell _ _ _ _ hne2).trans (Below.heap_setCell _ _ _ _ hne2)
            have HMn := hideP hMn
            have HUn := hideP ((hUq.setCell ⟨ga, i * 5 + 1, none⟩ (.int .i64 yy) (fun _ => hin)).setCell ⟨ga, i * 5 + 2, none⟩ (.int .i64 xx) (fun _ => hin))
            clear hMn hMq d1 d2 hin hiset hgl c0 c1 c2
            go_wp2_with fail
            go_region
            go_wp2_with fail
            have hk := HK.out
            go_roundg (is.length - (i + 1))
            case measure => omega
            case rel => exact ⟨i + 1, _, _, by omega, by go_num, HJ.out, HMn.out.old ((Upd.refl Nob _).drew) (fun _ _ => not_nob), HUn.out.drew⟩
          · have hob : (op == 2) = false := by simpa using ho
            have e1 : turnI ⟨op, xx, yy, arg, rs⟩ = ⟨op, xx, yy, arg, turnR k rs⟩ := by simp [turnI, ho, hke]
            have HMn := hideP (show LentM wr base ga (js.set i (turnI ⟨op, xx, yy, arg, rs⟩)) gr cs1 by rw [e1]; exact hMq)
            have HUn := hideP hUq
            clear hMq d1 d2 hiset c0 c1 c2 e1 hUq
            go_wp2_with fail
            have hk := HK.out
            go_roundg (is.length - (i + 1))
            case measure => omega
            case rel => exact ⟨i + 1, _, cs1, by omega, by go_num, HJ.out, HMn.out, HUn.out⟩
    · have hkn : i = is.length := by omega
      clear hk
      subst hkn
      have HE := hideP (js_end hjs)
      go_wp2_with fail
      go_end0
      exact ⟨rfl, ⟨cs1, by rw [← HE.out]; exact hMr⟩, HU.out.trans hU (fun _ _ h => h)⟩
end Go.Proofs.Ytnkefclbchpafaa
