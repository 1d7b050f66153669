/-
  The walk of heronlaw11.Lent: a program in memory of its own, with marks behind its lists.
-/
import Derived.Test.YtnkefclbchpafaaInsts
import Derived.Handy
namespace Go.Proofs.Ytnkefclbchpafaa
open Go.RowKit
set_option linter.unusedVariables false

theorem info_inst : (Try.prog.info? 64).map (fun i => (i.zero, i.size, i.bytes)) = some (some (.agg #[.int .i64 0, .int .i64 0, .int .i64 0, .int .i64 0, .slice none 0 0]), 5, 56) := by kernel_rfl
theorem info_range : (Try.prog.info? 66).map (fun i => (i.zero, i.size, i.bytes)) = some (some (.agg #[.int .i64 0, .int .i64 0]), 2, 16) := by kernel_rfl

theorem made_two (n : Nat) : (madeCells #[Value.int .i64 0, Value.int .i64 0] n).toList = List.replicate n (.int .i64 0) := by
  rw [List.eq_replicate_iff]
  refine ⟨by simp [madeCells], fun b hb => ?_⟩
  simp only [madeCells, Array.toList_map, List.mem_map] at hb
  obtain ⟨k, _, rfl⟩ := hb
  have h : k % (#[Value.int .i64 0, Value.int .i64 0] : Array Value).size < 2 := Nat.mod_lt _ (by decide)
  have h2 : ∀ j, j < 2 → (#[Value.int .i64 0, Value.int .i64 0] : Array Value)[j]! = .int .i64 0 := by
    intro j hj
    match j, hj with
    | 0, _ => rfl
    | 1, _ => rfl
  exact h2 _ h
theorem made_rest (m : Nat) : List.drop (m * 2) (madeCells (Value.agg #[Value.int .i64 0, Value.int .i64 0]).cells ((m + 2) * 2)).toList = [.int .i64 0, .int .i64 0, .int .i64 0, .int .i64 0] := by
  have : (Value.agg #[Value.int .i64 0, Value.int .i64 0]).cells = #[Value.int .i64 0, Value.int .i64 0] := rfl
  rw [this, made_two, List.drop_replicate, show (m + 2) * 2 - m * 2 = 4 by omega]
  rfl
theorem pairv_one : ∀ (rs : List (Int × Int)), ∀ u ∈ pairv rs, u.oneCell' = true
  | [], u, h => by cases h
  | x :: r, u, h => by
    simp only [pairv, List.mem_cons] at h
    rcases h with rfl | rfl | h
    · rfl
    · rfl
    · exact pairv_one r u h
def lentRanges (rs : List (Int × Int)) : List Value := pairv (rs ++ [(-77, 0), (-78, 0)])
theorem pairv_append (a b : List (Int × Int)) : pairv (a ++ b) = pairv a ++ pairv b := by
  induction a with
  | nil => rfl
  | cons x r ih => simp [pairv, ih]

/-- The first k instructions of a lent program lie in block ga, their ranges in blocks of their own. -/
structure LendR (w : World) (base ga : Nat) (is : List PInst) (gr : Nat → Nat) (cs : Array Value) (k : Nat) : Prop where
  blk : Cells w ga 64 cs
  size : cs.size = (is.length + 2) * 5
  low : base ≤ ga
  done : ∀ (i : Nat) (x : PInst), i < k → is[i]? = some x → (∀ j v, (instCells x (some ⟨gr i, 0, none⟩) x.rs.length (x.rs.length + 2))[j]? = some v → cs[i * 5 + j]? = some v) ∧
    w.ownsRow base 66 2 (.slice (some ⟨gr i, 0, none⟩) (x.rs.length + 2) (x.rs.length + 2)) (x.rs.length + 2) (lentRanges x.rs)
  inj : ∀ i j, i < k → j < k → gr i = gr j → i = j

namespace LendR
variable {F : Nat → Prop} {w w' : World} {base ga k : Nat} {is : List PInst} {gr : Nat → Nat} {cs : Array Value}
theorem upd (h : LendR w base ga is gr cs k) (hk : k ≤ is.length) (hU : Upd F w w') (ha : ¬ F ga) (hr : ∀ i, i < k → ¬ F (gr i)) : LendR w' base ga is gr cs k :=
  ⟨h.blk.upd hU ha, h.size, h.low, fun i x hi hx => ⟨(h.done i x hi hx).1, own_upd (h.done i x hi hx).2 hU (fun b hb => by simp [Value.ownBlock] at hb; subst hb; exact hr i hi)⟩, h.inj⟩
theorem lt (h : LendR w base ga is gr cs k) (hk : k ≤ is.length) {i : Nat} (hi : i < k) : gr i < w.heap.size := by
  have hx := List.getElem?_eq_getElem (show i < is.length by omega)
  exact ((h.done i _ hi hx).2.lt (gr i) rfl).2
theorem old (h : LendR w base ga is gr cs k) (hk : k ≤ is.length) (hU : Upd F w w') (hF : ∀ b, b < w.heap.size → ¬ F b) : LendR w' base ga is gr cs k :=
  h.upd hk hU (hF _ h.blk.lt) (fun i hi => hF _ (h.lt hk hi))
theorem ne (h : LendR w base ga is gr cs k) (hk : k ≤ is.length) {i : Nat} (hi : i < k) : gr i ≠ ga := by
  have hx := List.getElem?_eq_getElem (show i < is.length by omega)
  have := own_ne (h.done i _ hi hx).2 h.blk (by decide)
  simp [Value.ownBlock] at this
  exact this
end LendR

/-- the ranges' own row reads as the ranges -/
theorem lent_reads {w : World} {base g n : Nat} {rs : List (Int × Int)} (hl : rs.length = n) (o : w.ownsRow base 66 2 (.slice (some ⟨g, 0, none⟩) (n + 2) (n + 2)) (n + 2) (lentRanges rs)) :
    Reads w (fun k => k = g) 2 (some ⟨g, 0, none⟩) n (pairv rs) := by
  refine ⟨by rw [pairv_len, hl], fun hn => ⟨_, rfl, (o.lt g rfl).2, rfl, fun j u hj => ?_⟩⟩
  rw [add_lit_, Nat.zero_add]
  have hjl := (List.getElem?_eq_some_iff.1 hj).1
  rw [pairv_len] at hjl
  rw [o.cellAt j (by omega)]
  unfold lentRanges
  rw [pairv_append, List.getElem?_append_left (by rw [pairv_len]; exact hjl)]
  exact hj
theorem lent_marks {w : World} {base g n : Nat} {rs : List (Int × Int)} (hl : rs.length = n) (o : w.ownsRow base 66 2 (.slice (some ⟨g, 0, none⟩) (n + 2) (n + 2)) (n + 2) (lentRanges rs)) :
    w.cell? ⟨g, n * 2, none⟩ = some (.int .i64 (-77)) ∧ w.cell? ⟨g, (n + 1) * 2, none⟩ = some (.int .i64 (-78)) := by
  unfold lentRanges at o
  have hp : (pairv rs).length = n * 2 := by rw [pairv_len, hl]
  refine ⟨?_, ?_⟩
  · rw [o.cellAt (n * 2) (by omega), pairv_append, List.getElem?_append_right (by omega), hp, Nat.sub_self]
    rfl
  · rw [o.cellAt ((n + 1) * 2) (by omega), pairv_append, List.getElem?_append_right (by omega), hp, show (n + 1) * 2 - n * 2 = 2 by omega]
    rfl

/-- a lent program is a program -/
theorem LendR.insts {w : World} {base ga : Nat} {is : List PInst} {gr : Nat → Nat} {cs : Array Value} (h : LendR w base ga is gr cs is.length) (hI : ∀ x ∈ is, In64I x ∧ In64s x.rs ∧ x.rs.length ≤ 140737488355328) :
    InstsR w (fun b => b = ga ∨ ∃ i, i < is.length ∧ b = gr i) (some ⟨ga, 0, none⟩) is.length is := by
  refine ⟨rfl, fun i x hx => ?_⟩
  have hi := (List.getElem?_eq_some_iff.1 hx).1
  obtain ⟨hc, ho⟩ := h.done i x hi hx
  obtain ⟨h1, h2, h3⟩ := hI x (List.mem_of_getElem? hx)
  refine ⟨_, ga, i * 5, some ⟨gr i, 0, none⟩, x.rs.length, x.rs.length + 2, rfl, by rw [add_lit_, Nat.zero_add], .inl rfl, h.blk.lt, ⟨(lent_reads rfl ho).weaken (fun b hb => .inr ⟨i, hi, hb⟩), h2, h3⟩, h1, fun j v hv => h.blk.cellv (hc j v hv)⟩

theorem own_block {w : World} {base e size n c g : Nat} {xs : List Value} (h : w.ownsRow base e size (.slice (some ⟨g, 0, none⟩) n c) n xs) : ∃ cur, Cells w g e cur ∧ cur.size = c * size ∧ cur.toList.take (n * size) = xs := by
  rcases h.2 with ⟨h1, _⟩ | ⟨g', cap, cur, h1, _, hg, _, _, hcs, ht⟩
  · cases h1
  · injection h1 with a b d
    injection a with a
    injection a with a
    subst a; subst d
    exact ⟨cur, hg, hcs, ht⟩
/-- an instruction's five cells laid at place o of block g -/
def put5 (w : World) (g o : Nat) (v0 v1 v2 v3 v4 : Value) : World := ((((w.setCell ⟨g, o, none⟩ v0).setCell ⟨g, o + 1, none⟩ v1).setCell ⟨g, o + 2, none⟩ v2).setCell ⟨g, o + 3, none⟩ v3).setCell ⟨g, o + 4, none⟩ v4
def arr5 (cs : Array Value) (o : Nat) (v0 v1 v2 v3 v4 : Value) : Array Value := ((((cs.setIfInBounds o v0).setIfInBounds (o + 1) v1).setIfInBounds (o + 2) v2).setIfInBounds (o + 3) v3).setIfInBounds (o + 4) v4
theorem arr5_size (cs : Array Value) (o : Nat) (v0 v1 v2 v3 v4 : Value) : (arr5 cs o v0 v1 v2 v3 v4).size = cs.size := by simp [arr5]
theorem arr5_far {cs : Array Value} {o j : Nat} (v0 v1 v2 v3 v4 : Value) (h : j < o ∨ o + 5 ≤ j) : (arr5 cs o v0 v1 v2 v3 v4)[j]? = cs[j]? := by
  simp only [arr5, Array.getElem?_setIfInBounds]
  rw [if_neg (by omega), if_neg (by omega), if_neg (by omega), if_neg (by omega), if_neg (by omega)]
theorem arr5_at {cs : Array Value} {o : Nat} (v0 v1 v2 v3 v4 : Value) (h : o + 5 ≤ cs.size) : ∀ (j : Nat) (v : Value), (#[v0, v1, v2, v3, v4] : Array Value)[j]? = some v → (arr5 cs o v0 v1 v2 v3 v4)[o + j]? = some v := by
  intro j v hv
  have hj : j < 5 := (Array.getElem?_eq_some_iff.1 hv).1
  simp only [arr5, Array.getElem?_setIfInBounds, Array.size_setIfInBounds]
  match j, hj with
  | 0, _ => rw [if_neg (by omega), if_neg (by omega), if_neg (by omega), if_neg (by omega), if_pos (by omega), if_pos (by omega)]; exact hv
  | 1, _ => rw [if_neg (by omega), if_neg (by omega), if_neg (by omega), if_pos (by omega), if_pos (by omega)]; exact hv
  | 2, _ => rw [if_neg (by omega), if_neg (by omega), if_pos (by omega), if_pos (by omega)]; exact hv
  | 3, _ => rw [if_neg (by omega), if_pos (by omega), if_pos (by omega)]; exact hv
  | 4, _ => rw [if_pos (by omega), if_pos (by omega)]; exact hv
theorem cells5 {w : World} {g : Nat} {t : TypeId} {cs : Array Value} (h : Cells w g t cs) (o : Nat) (v0 v1 v2 v3 v4 : Value) : Cells (put5 w g o v0 v1 v2 v3 v4) g t (arr5 cs o v0 v1 v2 v3 v4) := ((((h.set_ _ _).set_ _ _).set_ _ _).set_ _ _).set_ _ _
theorem upd5 (w : World) (g o : Nat) (v0 v1 v2 v3 v4 : Value) : Upd (fun b => b = g) w (put5 w g o v0 v1 v2 v3 v4) :=
  ((((((Upd.refl (fun b => b = g) w).setCell ⟨g, o, none⟩ v0 (fun _ => rfl)).setCell ⟨g, o + 1, none⟩ v1 (fun _ => rfl)).setCell ⟨g, o + 2, none⟩ v2 (fun _ => rfl)).setCell ⟨g, o + 3, none⟩ v3 (fun _ => rfl)).setCell ⟨g, o + 4, none⟩ v4 (fun _ => rfl))

theorem LendR.more {w : World} {base ga k gl : Nat} {is : List PInst} {gr : Nat → Nat} {cs : Array Value} {x : PInst} (h : LendR w base ga is gr cs k) (hx : is[k]? = some x)
    (o : w.ownsRow base 66 2 (.slice (some ⟨gl, 0, none⟩) (x.rs.length + 2) (x.rs.length + 2)) (x.rs.length + 2) (lentRanges x.rs)) (hn : ∀ i, i < k → gr i ≠ gl) :
    LendR (put5 w ga (k * 5) (.int .i64 x.op) (.int .i64 x.x) (.int .i64 x.y) (.int .i64 x.arg) (.slice (some ⟨gl, 0, none⟩) x.rs.length (x.rs.length + 2))) base ga is (fun i => if i = k then gl else gr i)
      (arr5 cs (k * 5) (.int .i64 x.op) (.int .i64 x.x) (.int .i64 x.y) (.int .i64 x.arg) (.slice (some ⟨gl, 0, none⟩) x.rs.length (x.rs.length + 2))) (k + 1) := by
  have hk : k < is.length := (List.getElem?_eq_some_iff.1 hx).1
  have hgl : gl ≠ ga := by
    have := own_ne o h.blk (by decide)
    simp [Value.ownBlock] at this
    exact this
  have hU := upd5 w ga (k * 5) (.int .i64 x.op) (.int .i64 x.x) (.int .i64 x.y) (.int .i64 x.arg) (.slice (some ⟨gl, 0, none⟩) x.rs.length (x.rs.length + 2))
  have hs := h.size
  refine ⟨cells5 h.blk _ _ _ _ _ _, by rw [arr5_size]; exact h.size, h.low, fun i y hi hy => ?_, fun i j hi hj e => ?_⟩
  · by_cases hik : i = k
    · subst hik
      rw [hx] at hy
      injection hy with hy
      subst hy
      rw [if_pos rfl]
      exact ⟨arr5_at _ _ _ _ _ (by omega), own_upd o hU (fun b hb => by simp [Value.ownBlock] at hb; subst hb; exact hgl)⟩
    · rw [if_neg hik]
      obtain ⟨h1, h2⟩ := h.done i y (by omega) hy
      refine ⟨fun j v hv => ?_, own_upd h2 hU (fun b hb => by simp [Value.ownBlock] at hb; subst hb; exact h.ne (by omega) (by omega))⟩
      have hj : j < 5 := (Array.getElem?_eq_some_iff.1 hv).1
      rw [arr5_far _ _ _ _ _ (by omega)]
      exact h1 j v hv
  · have e' : (if i = k then gl else gr i) = (if j = k then gl else gr j) := e
    by_cases h1 : i = k <;> by_cases h2 : j = k
    · omega
    · rw [if_pos h1, if_neg h2] at e'
      exact absurd e'.symm (hn j (by omega))
    · rw [if_neg h1, if_pos h2] at e'
      exact absurd e' (hn i (by omega))
    · rw [if_neg h1, if_neg h2] at e'
      exact h.inj i j (by omega) (by omega) e'
theorem LendR.five {w : World} {base ga : Nat} {is : List PInst} {gr : Nat → Nat} {cs : Array Value} (h : LendR w base ga is gr cs is.length) (o : Nat) (ho : is.length * 5 ≤ o) (v0 v1 v2 v3 v4 : Value) : LendR (put5 w ga o v0 v1 v2 v3 v4) base ga is gr (arr5 cs o v0 v1 v2 v3 v4) is.length := by
  refine ⟨cells5 h.blk _ _ _ _ _ _, by rw [arr5_size]; exact h.size, h.low, fun i y hi hy => ?_, h.inj⟩
  obtain ⟨h1, h2⟩ := h.done i y (by omega) hy
  refine ⟨fun j v hv => ?_, own_upd h2 (upd5 _ _ _ _ _ _ _ _) (fun b hb => by simp [Value.ownBlock] at hb; subst hb; exact h.ne (Nat.le_refl _) (by omega))⟩
  have hj : j < 5 := (Array.getElem?_eq_some_iff.1 hv).1
  rw [arr5_far _ _ _ _ _ (by omega)]
  exact h1 j v hv
theorem set_marks (rs : List (Int × Int)) : ((((pairv rs ++ [Value.int .i64 0, Value.int .i64 0, Value.int .i64 0, Value.int .i64 0]).set (rs.length * 2) (Value.int .i64 (-77))).set (rs.length * 2 + 1) (Value.int .i64 0)).set ((rs.length + 1) * 2) (Value.int .i64 (-78))).set ((rs.length + 1) * 2 + 1) (Value.int .i64 0) = lentRanges rs := by
  have hp : (pairv rs).length = rs.length * 2 := pairv_len rs
  unfold lentRanges
  rw [pairv_append, show (rs.length + 1) * 2 = rs.length * 2 + 2 by omega]
  rw [List.set_append_right _ _ (by omega), List.set_append_right _ _ (by omega), List.set_append_right _ _ (by omega), List.set_append_right _ _ (by omega), hp]
  congr 1
  rw [show rs.length * 2 + 2 + 1 - rs.length * 2 = 3 by omega]
  simp [pairv]
def LentProg (w : World) (is : List PInst) (start caps : Int) (e : Ending) (w' : World) : Prop :=
  ∃ ga gr cs, e = .returned (.agg #[.slice (some ⟨ga, 0, none⟩) is.length (is.length + 2), .int .i64 start, .int .i64 caps]) ∧ LendR w' w.heap.size ga is gr cs is.length ∧
    cs[is.length * 5]? = some (.int .i64 (-77)) ∧ cs[(is.length + 1) * 5]? = some (.int .i64 (-78)) ∧ Upd Nob w w'

set_option maxRecDepth 100000 in
set_option maxHeartbeats 4000000 in
theorem lentProg_any (w : World) (S : Nat → Prop) (A : Option Addr) (n c : Nat) (is : List PInst) (start caps : Int) (h : InstsR w S A n is) (hnb : n * 56 ≤ 140737488351232)
    (hI : ∀ x ∈ is, x.rs.length * 16 ≤ 140737488351232) :
    Calls Try.prog 10 #[.agg #[.slice A n c, .int .i64 start, .int .i64 caps]] w (LentProg w is start caps) := by
  obtain rfl : is.length = n := h.len
  obtain ⟨i0, hi0, hz0, hz1, hz2⟩ := info_parts info_inst
  obtain ⟨j0, hj0, hy0, hy1, hy2⟩ := info_parts info_range
  have H := hideP h
  have HI := hideP hI
  clear h hI
  have C0 : Cells ((w.alloc (.cells #[.slice A is.length c, .int .i64 start, .int .i64 caps] 27)).alloc (.cells #[.slice none 0 0, .int .i64 0, .int .i64 0] 27)) w.heap.size 27 #[.slice A is.length c, .int .i64 start, .int .i64 caps] := (Cells.new _ _ _).alloc _
  have C1 := Cells.new (w.alloc (.cells #[.slice A is.length c, .int .i64 start, .int .i64 caps] 27)) 27 #[.slice none 0 0, .int .i64 0, .int .i64 0]
  rw [World.size_alloc] at C1
  have hU : Upd Nob w ((w.alloc (.cells #[.slice A is.length c, .int .i64 start, .int .i64 caps] 27)).alloc (.cells #[.slice none 0 0, .int .i64 0, .int .i64 0] 27)) := ((Upd.refl Nob w).alloc _).alloc _
  go_enter Try.func10, Try.ntmps10
  go_upto_region 1 with fail
  generalize ((w.alloc (.cells #[.slice A is.length c, .int .i64 start, .int .i64 caps] 27)).alloc (.cells #[.slice none 0 0, .int .i64 0, .int .i64 0] 27)) = w2 at *
  have bs := C1.lt
  have e0 : w2.cell? ⟨w.heap.size, 0, none⟩ = some (.slice A is.length c) := C0.cellv rfl
  go_wp2_with (first
    | (at_make; refine wpList_make_full w2 rfl (.tmp 10) (.tmp 10) 25 rfl w2.heap.size 64 i0 _ 5 Try.underlying25 hi0 hz0 hz1 .i64 .i64 ((is.length : Int) + 2) ((is.length : Int) + 2) (is.length + 2) rfl rfl (by omega) (by omega) (by rw [hz2]; omega) (by unfold maxLen; omega) (Nat.le_refl _) ?_; intro w3 o3 hg3; have C03 := C0.grown hg3 (by simp); have e0 := C03.cellv (i := 0) rfl)
    | fail)
  obtain ⟨cs0, ha0, hs0, -⟩ := own_block o3
  have C13 := C1.grown hg3 (by simp)
  have hU3 := hU.grown hg3 (by simp)
  have hga : w.heap.size ≤ w2.heap.size := hU.size
  have hga3 := ha0.lt
  generalize w2.heap.size = ga at *
  have HC0 := hideP C03
  have HC1 := hideP C13
  have HU3 := hideP hU3
  have L0 : LendR w3 w.heap.size ga is (fun _ => 0) cs0 0 := ⟨ha0, hs0, hga, fun i x hi _ => by omega, fun i j hi _ _ => by omega⟩
  clear C0 C1 C03 C13 o3 hg3 hU hU3 ha0
  go_loopg [4] is.length (fun gk v4 wr => ∃ (k : Nat) (gr : Nat → Nat) (cs : Array Value), k + gk = is.length ∧ v4 = .int .i64 (k : Int) ∧ LendR wr w.heap.size ga is gr cs k ∧ (∀ i, i < k → w3.heap.size ≤ gr i) ∧ Upd (fun b => b = ga) w3 wr)
  case atStart => exact ⟨0, _, cs0, by omega, rfl, L0, fun i hi => by omega, Upd.refl _ _⟩
  case round =>
    obtain ⟨k, gr, cs, hk, rfl, hL, hgr, hU⟩ := hrel
    have hb0 : w.heap.size ≠ ga := by omega
    have CB := HC0.out.upd hU hb0
    have b0 : wr.cell? ⟨w.heap.size, 0, none⟩ = some (.slice A is.length c) := CB.cellv rfl
    by_cases hlt : k < is.length
    · obtain ⟨ad, g, o, x, B, m, c', rfl, hx, hadd, -, hg, hR, hIx, c0, c1, c2, c3, c4⟩ := (H.out.upd (HU3.out.trans hU (fun j hj h => absurd h (by omega))) (fun _ _ => not_nob)).at1 hlt
      have hmx := HI.out x (List.mem_of_getElem? hx)
      obtain ⟨op, xx, yy, arg, rs⟩ := x
      simp only at c0 c1 c2 c3 hR hmx
      obtain rfl : rs.length = m := hR.len
      have CX : Cells (wr.alloc (.cells #[.int .i64 op, .int .i64 xx, .int .i64 yy, .int .i64 arg, .slice B rs.length c'] 64)) wr.heap.size 64 #[.int .i64 op, .int .i64 xx, .int .i64 yy, .int .i64 arg, .slice B rs.length c'] := Cells.new _ _ _
      have hUa := (Upd.refl Nob wr).alloc (.cells #[.int .i64 op, .int .i64 xx, .int .i64 yy, .int .i64 arg, .slice B rs.length c'] 64)
      have CBa := CB.upd hUa not_nob
      have hLa := hL.old (by omega) hUa (fun _ _ => not_nob)
      have hRa := hR.upd hUa (fun _ _ => not_nob)
      have hUA := hU.trans hUa (fun _ _ h => absurd h not_nob)
      have kl : (k : Int) < (is.length : Int) := by omega
      have HX := hideP hx
      have HK := hideP hk
      clear hx hL hR CB hk
      go_upto_region 6 with fail
      generalize wr.alloc (.cells #[.int .i64 op, .int .i64 xx, .int .i64 yy, .int .i64 arg, .slice B rs.length c'] 64) = wA at *
      have hxl := CX.lt
      have hsr := hU.size
      generalize wr.heap.size = xb at *
      have l4 : wA.cell? ⟨xb, 0 + 4, none⟩ = some (.slice B rs.length c') := CX.cellv rfl
      clear c0 c1 c2 c3 c4 hadd hg b0 hU hUa
      go_upto_region 8 with (first
        | (at_make; refine wpList_make_full wA rfl (.tmp 27) (.tmp 27) 44 rfl w.heap.size 66 j0 _ 2 Try.underlying44 hj0 hy0 hy1 .i64 .i64 ((rs.length : Int) + 2) ((rs.length : Int) + 2) (rs.length + 2) rfl rfl (by omega) (by omega) (by rw [hy2]; omega) (by unfold maxLen; omega) (by omega) ?_; intro w6 o6 hg6; have CX6 := CX.grown hg6 (by simp); have l4 := CX6.cellv (i := 0 + 4) rfl)
        | ((with_reducible show wpList _ _ _ _ _ _); refine wpList_copy_reads rfl (.tmp 29) (.tmp 31) 44 44 rfl w.heap.size 66 j0 2 Try.underlying44 hj0 hy1 wA.heap.size (rs.length + 2) (rs.length + 2) _ rfl o6 S B rs.length c' (pairv rs) rfl (hRa.r.upd ((Upd.refl Nob wA).grown hg6 (by simp)) (fun _ _ => not_nob)) (pairv_one rs) (by omega) ?_; intro w7 o7 hg7)
        | fail)
      rw [made_rest] at o7
      have CX7 := (CX6.grown hg7 (by simp; omega))
      have hUb := (((Upd.refl Nob wA).grown hg6 (by simp))).grown hg7 (fun j hj h => by injection hj with hj; omega)
      have hl7 : wA.heap.size < w7.heap.size := (o7.lt _ rfl).2
      generalize hgl : wA.heap.size = gl at *
      have HGL := hideP hgl
      clear hgl
      have hpl : (pairv rs).length = rs.length * 2 := pairv_len rs
      have zc : ∀ j, j < 4 → w7.cell? ⟨gl, rs.length * 2 + j, none⟩ = some (.int .i64 0) := by
        intro j hj
        rw [o7.cellAt _ (by omega), List.getElem?_append_right (by omega), hpl, Nat.add_sub_cancel_left]
        match j, hj with
        | 0, _ => rfl
        | 1, _ => rfl
        | 2, _ => rfl
        | 3, _ => rfl
      have z0 : w7.cell? ⟨gl, rs.length * 2, none⟩ = some (.int .i64 0) := zc 0 (by omega)
      have z1 : w7.cell? ⟨gl, rs.length * 2 + 1, none⟩ = some (.int .i64 0) := zc 1 (by omega)
      have z2 : w7.cell? ⟨gl, (rs.length + 1) * 2, none⟩ = some (.int .i64 0) := by have := zc 2 (by omega); rwa [show rs.length * 2 + 2 = (rs.length + 1) * 2 by omega] at this
      have z3 : w7.cell? ⟨gl, (rs.length + 1) * 2 + 1, none⟩ = some (.int .i64 0) := by have := zc 3 (by omega); rwa [show rs.length * 2 + 3 = (rs.length + 1) * 2 + 1 by omega] at this
      have y0 : w7.frozen? ⟨gl, rs.length * 2, none⟩ = false := o7.frozenAt _
      have y1 : w7.frozen? ⟨gl, rs.length * 2 + 1, none⟩ = false := o7.frozenAt _
      have y2 : w7.frozen? ⟨gl, (rs.length + 1) * 2, none⟩ = false := o7.frozenAt _
      have y3 : w7.frozen? ⟨gl, (rs.length + 1) * 2 + 1, none⟩ = false := o7.frozenAt _
      have l4 : w7.cell? ⟨xb, 0 + 4, none⟩ = some (.slice B rs.length c') := CX7.cellv rfl
      have hxg : ¬ xb = gl := by omega
      have kr : (rs.length : Int) < (rs.length : Int) + 2 := by omega
      clear zc hg6 hg7 CX6 o6 CX
      go_upto_region 10 with fail
      have o9 := (((((o7.stored (rs.length * 2) (.int .i64 (-77))).1.stored (rs.length * 2 + 1) (.int .i64 0)).1.stored ((rs.length + 1) * 2) (.int .i64 (-78))).1.stored ((rs.length + 1) * 2 + 1) (.int .i64 0)).1)
      rw [set_marks] at o9
      have hnew : gl < wA.heap.size → Nob gl := fun h => by have := HGL.out; omega
      have hUc : Upd Nob wA ((((w7.setCell ⟨gl, rs.length * 2, none⟩ (.int .i64 (-77))).setCell ⟨gl, rs.length * 2 + 1, none⟩ (.int .i64 0)).setCell ⟨gl, (rs.length + 1) * 2, none⟩ (.int .i64 (-78))).setCell ⟨gl, (rs.length + 1) * 2 + 1, none⟩ (.int .i64 0)) := (((hUb.setCell _ _ hnew).setCell _ _ hnew).setCell _ _ hnew).setCell _ _ hnew
      have C9 : Cells ((((w7.setCell ⟨gl, rs.length * 2, none⟩ (.int .i64 (-77))).setCell ⟨gl, rs.length * 2 + 1, none⟩ (.int .i64 0)).setCell ⟨gl, (rs.length + 1) * 2, none⟩ (.int .i64 (-78))).setCell ⟨gl, (rs.length + 1) * 2 + 1, none⟩ (.int .i64 0)) xb 64 #[.int .i64 op, .int .i64 xx, .int .i64 yy, .int .i64 arg, .slice B rs.length c'] := (((CX7.far _ _ hxg).far _ _ hxg).far _ _ hxg).far _ _ hxg
      have hL9 := hLa.old (by omega) hUc (fun _ _ => not_nob)
      have hU9 := hUA.trans hUc (fun _ _ h => absurd h not_nob)
      clear z0 z1 z2 z3 y0 y1 y2 y3 l4 CX7 hUb hnew hUc o7
      generalize ((((w7.setCell ⟨gl, rs.length * 2, none⟩ (.int .i64 (-77))).setCell ⟨gl, rs.length * 2 + 1, none⟩ (.int .i64 0)).setCell ⟨gl, (rs.length + 1) * 2, none⟩ (.int .i64 (-78))).setCell ⟨gl, (rs.length + 1) * 2 + 1, none⟩ (.int .i64 0)) = w9 at *
      have l4 : w9.cell? ⟨xb, 0 + 4, none⟩ = some (.slice B rs.length c') := C9.cellv rfl
      have f4 : w9.frozen? ⟨xb, 0 + 4, none⟩ = false := C9.frozen _
      have kr2 : (rs.length : Int) ≤ (rs.length : Int) + 2 := by omega
      go_upto_region 11 with fail
      have hxa : xb ≠ ga := by omega
      have hgx2 : gl ≠ xb := fun e => hxg e.symm
      have C10 : Cells (w9.setCell ⟨xb, 4, none⟩ (.slice (some ⟨gl, 0, none⟩) rs.length (rs.length + 2))) xb 64 #[.int .i64 op, .int .i64 xx, .int .i64 yy, .int .i64 arg, .slice (some ⟨gl, 0, none⟩) rs.length (rs.length + 2)] := C9.set_ 4 (.slice (some ⟨gl, 0, none⟩) rs.length (rs.length + 2))
      have hU10 : Upd (fun b => b = ga) w3 (w9.setCell ⟨xb, 4, none⟩ (.slice (some ⟨gl, 0, none⟩) rs.length (rs.length + 2))) := hU9.setCell _ _ (fun h => absurd h (by simp; omega))
      have o10 := own_far o9 ⟨xb, 4, none⟩ (.slice (some ⟨gl, 0, none⟩) rs.length (rs.length + 2)) (by simp [Value.ownBlock]; exact hgx2)
      have hL10 : LendR (w9.setCell ⟨xb, 4, none⟩ (.slice (some ⟨gl, 0, none⟩) rs.length (rs.length + 2))) w.heap.size ga is gr cs k := hL9.upd (by omega) ((Upd.refl (fun b => b = xb) w9).setCell _ _ (fun _ => rfl)) (by omega) (fun i hi => by
        have h1 := hL9.done i _ hi (List.getElem?_eq_getElem (show i < is.length by omega))
        have h2 := own_ne h1.2 C9 (by decide)
        simpa [Value.ownBlock] using h2)
      have hng : ∀ i, i < k → gr i ≠ gl := fun i hi e => by
        have := hLa.lt (by omega) hi
        have h2 := HGL.out
        omega
      clear l4 f4 C9 hU9 o9 hL9 hUA hLa hRa CBa
      generalize w9.setCell ⟨xb, 4, none⟩ (.slice (some ⟨gl, 0, none⟩) rs.length (rs.length + 2)) = w10 at *
      have l0 : w10.cell? ⟨xb, 0, none⟩ = some (.int .i64 op) := C10.cellv rfl
      have l1 : w10.cell? ⟨xb, 0 + 1, none⟩ = some (.int .i64 xx) := C10.cellv rfl
      have l2 : w10.cell? ⟨xb, 0 + 2, none⟩ = some (.int .i64 yy) := C10.cellv rfl
      have l3 : w10.cell? ⟨xb, 0 + 3, none⟩ = some (.int .i64 arg) := C10.cellv rfl
      have l4 : w10.cell? ⟨xb, 0 + 4, none⟩ = some (.slice (some ⟨gl, 0, none⟩) rs.length (rs.length + 2)) := C10.cellv rfl
      have hsz := hL10.size
      have gc : ∀ j, j < 5 → ∃ u, w10.cell? ⟨ga, k * 5 + j, none⟩ = some u := by
        intro j hj
        have hlt2 : k * 5 + j < cs.size := by omega
        exact ⟨cs[k * 5 + j], hL10.blk.cellv (Array.getElem?_eq_getElem hlt2)⟩
      obtain ⟨u0, g0⟩ := gc 0 (by omega)
      obtain ⟨u1, g1⟩ := gc 1 (by omega)
      obtain ⟨u2, g2⟩ := gc 2 (by omega)
      obtain ⟨u3, g3⟩ := gc 3 (by omega)
      obtain ⟨u4, g4⟩ := gc 4 (by omega)
      have g0' : w10.cell? ⟨ga, k * 5, none⟩ = some u0 := g0
      have f0 : w10.frozen? ⟨ga, k * 5, none⟩ = false := hL10.blk.frozen _
      have f1 : w10.frozen? ⟨ga, k * 5 + 1, none⟩ = false := hL10.blk.frozen _
      have f2 : w10.frozen? ⟨ga, k * 5 + 2, none⟩ = false := hL10.blk.frozen _
      have f3 : w10.frozen? ⟨ga, k * 5 + 3, none⟩ = false := hL10.blk.frozen _
      have f4 : w10.frozen? ⟨ga, k * 5 + 4, none⟩ = false := hL10.blk.frozen _
      have kk : (k : Int) < (is.length : Int) + 2 := by omega
      have HL10 := hideP (hL10.more HX.out o10 hng)
      have HU10 := hideP (hU10.trans (upd5 w10 ga (k * 5) (.int .i64 op) (.int .i64 xx) (.int .i64 yy) (.int .i64 arg) (.slice (some ⟨gl, 0, none⟩) rs.length (rs.length + 2))) (fun _ _ h => h))
      have hgl3 : w3.heap.size ≤ gl := by have := HGL.out; omega
      clear gc hL10 hU10 o10 C10 hng
      go_wp2_with fail
      have hk := HK.out
      go_roundg (is.length - (k + 1))
      case measure => omega
      case rel =>
        refine ⟨k + 1, _, _, by omega, by go_num, HL10.out, fun i hi => ?_, HU10.out⟩
        by_cases h : i = k
        · rw [if_pos h]; exact hgl3
        · rw [if_neg h]; exact hgr i (by omega)
    · have hkn : k = is.length := by omega
      clear hk
      subst hkn
      have CB1 := HC1.out.upd hU (show w.heap.size + 1 ≠ ga by omega)
      have hsz := hL.size
      have gc : ∀ j, j < (is.length + 2) * 5 → ∃ u, wr.cell? ⟨ga, j, none⟩ = some u := by
        intro j hj
        exact ⟨cs[j], hL.blk.cellv (Array.getElem?_eq_getElem (by omega))⟩
      have pf0 : wr.frozen? ⟨ga, is.length * 5, none⟩ = false := hL.blk.frozen _
      obtain ⟨pu0, pg0⟩ := gc (is.length * 5) (by omega)
      have pf1 : wr.frozen? ⟨ga, is.length * 5 + 1, none⟩ = false := hL.blk.frozen _
      obtain ⟨pu1, pg1⟩ := gc (is.length * 5 + 1) (by omega)
      have pf2 : wr.frozen? ⟨ga, is.length * 5 + 2, none⟩ = false := hL.blk.frozen _
      obtain ⟨pu2, pg2⟩ := gc (is.length * 5 + 2) (by omega)
      have pf3 : wr.frozen? ⟨ga, is.length * 5 + 3, none⟩ = false := hL.blk.frozen _
      obtain ⟨pu3, pg3⟩ := gc (is.length * 5 + 3) (by omega)
      have pf4 : wr.frozen? ⟨ga, is.length * 5 + 4, none⟩ = false := hL.blk.frozen _
      obtain ⟨pu4, pg4⟩ := gc (is.length * 5 + 4) (by omega)
      have qf0 : wr.frozen? ⟨ga, (is.length + 1) * 5, none⟩ = false := hL.blk.frozen _
      obtain ⟨qu0, qg0⟩ := gc ((is.length + 1) * 5) (by omega)
      have qf1 : wr.frozen? ⟨ga, (is.length + 1) * 5 + 1, none⟩ = false := hL.blk.frozen _
      obtain ⟨qu1, qg1⟩ := gc ((is.length + 1) * 5 + 1) (by omega)
      have qf2 : wr.frozen? ⟨ga, (is.length + 1) * 5 + 2, none⟩ = false := hL.blk.frozen _
      obtain ⟨qu2, qg2⟩ := gc ((is.length + 1) * 5 + 2) (by omega)
      have qf3 : wr.frozen? ⟨ga, (is.length + 1) * 5 + 3, none⟩ = false := hL.blk.frozen _
      obtain ⟨qu3, qg3⟩ := gc ((is.length + 1) * 5 + 3) (by omega)
      have qf4 : wr.frozen? ⟨ga, (is.length + 1) * 5 + 4, none⟩ = false := hL.blk.frozen _
      obtain ⟨qu4, qg4⟩ := gc ((is.length + 1) * 5 + 4) (by omega)
      have kk : (is.length : Int) < (is.length : Int) + 2 := by omega
      have kk2 : (is.length : Int) ≤ (is.length : Int) + 2 := by omega
      have hb0' : ¬ w.heap.size = ga := hb0
      have hL1 := (hL.five (is.length * 5) (by omega) (.int .i64 (-77)) (.int .i64 0) (.int .i64 0) (.int .i64 0) (.slice none 0 0)).five ((is.length + 1) * 5) (by omega) (.int .i64 (-78)) (.int .i64 0) (.int .i64 0) (.int .i64 0) (.slice none 0 0)
      have hU1 := (hU.trans (upd5 wr ga (is.length * 5) (.int .i64 (-77)) (.int .i64 0) (.int .i64 0) (.int .i64 0) (.slice none 0 0)) (fun _ _ h => h)).trans (upd5 _ ga ((is.length + 1) * 5) (.int .i64 (-78)) (.int .i64 0) (.int .i64 0) (.int .i64 0) (.slice none 0 0)) (fun _ _ h => h)
      have hM : (arr5 (arr5 cs (is.length * 5) (.int .i64 (-77)) (.int .i64 0) (.int .i64 0) (.int .i64 0) (.slice none 0 0)) ((is.length + 1) * 5) (.int .i64 (-78)) (.int .i64 0) (.int .i64 0) (.int .i64 0) (.slice none 0 0))[is.length * 5]? = some (.int .i64 (-77)) := by
        rw [arr5_far _ _ _ _ _ (by omega)]
        exact arr5_at (o := is.length * 5) _ _ _ _ _ (by omega) 0 _ rfl
      have hM2 : (arr5 (arr5 cs (is.length * 5) (.int .i64 (-77)) (.int .i64 0) (.int .i64 0) (.int .i64 0) (.slice none 0 0)) ((is.length + 1) * 5) (.int .i64 (-78)) (.int .i64 0) (.int .i64 0) (.int .i64 0) (.slice none 0 0))[(is.length + 1) * 5]? = some (.int .i64 (-78)) :=
        arr5_at (o := (is.length + 1) * 5) _ _ _ _ _ (by rw [arr5_size]; omega) 0 _ rfl
      have HL1 := hideP hL1
      have HU1 := hideP hU1
      have CB' := hideP ((HC0.out.upd hU1 hb0))
      have CB1' := hideP ((HC1.out.upd hU1 (show w.heap.size + 1 ≠ ga by omega)))
      clear hL hU hL1 hU1 gc CB CB1
      go_upto_region 14 with fail
      change Code.wp _ _ _ _ (put5 (put5 wr ga (is.length * 5) (.int .i64 (-77)) (.int .i64 0) (.int .i64 0) (.int .i64 0) (.slice none 0 0)) ga ((is.length + 1) * 5) (.int .i64 (-78)) (.int .i64 0) (.int .i64 0) (.int .i64 0) (.slice none 0 0))
      clear b0 e0
      generalize put5 (put5 wr ga (is.length * 5) (.int .i64 (-77)) (.int .i64 0) (.int .i64 0) (.int .i64 0) (.slice none 0 0)) ga ((is.length + 1) * 5) (.int .i64 (-78)) (.int .i64 0) (.int .i64 0) (.int .i64 0) (.slice none 0 0) = w12 at *
      have e0 : w12.cell? ⟨w.heap.size, 0, none⟩ = some (.slice A is.length c) := CB'.out.cellv rfl
      have e1 : w12.cell? ⟨w.heap.size, 0 + 1, none⟩ = some (.int .i64 start) := CB'.out.cellv rfl
      have e2 : w12.cell? ⟨w.heap.size, 0 + 2, none⟩ = some (.int .i64 caps) := CB'.out.cellv rfl
      have f0 : w12.frozen? ⟨w.heap.size, 0, none⟩ = false := CB'.out.frozen _
      have d0 : w12.cell? ⟨w.heap.size + 1, 0, none⟩ = some (.slice none 0 0) := CB1'.out.cellv rfl
      have d1 : w12.cell? ⟨w.heap.size + 1, 0 + 1, none⟩ = some (.int .i64 0) := CB1'.out.cellv rfl
      have d2 : w12.cell? ⟨w.heap.size + 1, 0 + 2, none⟩ = some (.int .i64 0) := CB1'.out.cellv rfl
      have h0 : w12.frozen? ⟨w.heap.size + 1, 0, none⟩ = false := CB1'.out.frozen _
      have h1 : w12.frozen? ⟨w.heap.size + 1, 0 + 1, none⟩ = false := CB1'.out.frozen _
      have h2 : w12.frozen? ⟨w.heap.size + 1, 0 + 2, none⟩ = false := CB1'.out.frozen _
      go_wp2_with fail
      have C15 : Cells ((((w12.setCell ⟨w.heap.size, 0, none⟩ (.slice (some ⟨ga, 0, none⟩) is.length (is.length + 2))).setCell ⟨w.heap.size + 1, 0, none⟩ (.slice (some ⟨ga, 0, none⟩) is.length (is.length + 2))).setCell ⟨w.heap.size + 1, 1, none⟩ (.int .i64 start)).setCell ⟨w.heap.size + 1, 2, none⟩ (.int .i64 caps)) (w.heap.size + 1) 27 #[(.slice (some ⟨ga, 0, none⟩) is.length (is.length + 2)), .int .i64 start, .int .i64 caps] := (((CB1'.out.far ⟨w.heap.size, 0, none⟩ (.slice (some ⟨ga, 0, none⟩) is.length (is.length + 2)) (by simp)).set_ 0 (.slice (some ⟨ga, 0, none⟩) is.length (is.length + 2))).set_ 1 (.int .i64 start)).set_ 2 (.int .i64 caps)
      have HL15 : LendR ((((w12.setCell ⟨w.heap.size, 0, none⟩ (.slice (some ⟨ga, 0, none⟩) is.length (is.length + 2))).setCell ⟨w.heap.size + 1, 0, none⟩ (.slice (some ⟨ga, 0, none⟩) is.length (is.length + 2))).setCell ⟨w.heap.size + 1, 1, none⟩ (.int .i64 start)).setCell ⟨w.heap.size + 1, 2, none⟩ (.int .i64 caps)) w.heap.size ga is gr _ is.length := HL1.out.upd (Nat.le_refl _) (((((Upd.refl (fun b => b = w.heap.size ∨ b = w.heap.size + 1) w12).setCell ⟨w.heap.size, 0, none⟩ (.slice (some ⟨ga, 0, none⟩) is.length (is.length + 2)) (fun _ => .inl rfl)).setCell ⟨w.heap.size + 1, 0, none⟩ (.slice (some ⟨ga, 0, none⟩) is.length (is.length + 2)) (fun _ => .inr rfl)).setCell ⟨w.heap.size + 1, 1, none⟩ (.int .i64 start) (fun _ => .inr rfl)).setCell ⟨w.heap.size + 1, 2, none⟩ (.int .i64 caps) (fun _ => .inr rfl)) (by omega) (fun i hi => by have := hgr i hi; omega)
      have HU15 : Upd Nob w ((((w12.setCell ⟨w.heap.size, 0, none⟩ (.slice (some ⟨ga, 0, none⟩) is.length (is.length + 2))).setCell ⟨w.heap.size + 1, 0, none⟩ (.slice (some ⟨ga, 0, none⟩) is.length (is.length + 2))).setCell ⟨w.heap.size + 1, 1, none⟩ (.int .i64 start)).setCell ⟨w.heap.size + 1, 2, none⟩ (.int .i64 caps)) := ((((HU3.out.trans HU1.out (fun b hb h => absurd h (by omega))).setCell _ _ (fun h => absurd h (by simp))).setCell _ _ (fun h => absurd h (by simp))).setCell _ _ (fun h => absurd h (by simp))).setCell _ _ (fun h => absurd h (by simp))
      clear e0 e1 e2 f0 d0 d1 d2 h0 h1 h2
      generalize ((((w12.setCell ⟨w.heap.size, 0, none⟩ (.slice (some ⟨ga, 0, none⟩) is.length (is.length + 2))).setCell ⟨w.heap.size + 1, 0, none⟩ (.slice (some ⟨ga, 0, none⟩) is.length (is.length + 2))).setCell ⟨w.heap.size + 1, 1, none⟩ (.int .i64 start)).setCell ⟨w.heap.size + 1, 2, none⟩ (.int .i64 caps)) = w15 at *
      have e0 : w15.cell? ⟨w.heap.size + 1, 0, none⟩ = some (.slice (some ⟨ga, 0, none⟩) is.length (is.length + 2)) := C15.cellv rfl
      have e1 : w15.cell? ⟨w.heap.size + 1, 1, none⟩ = some (.int .i64 start) := C15.cellv rfl
      have e2 : w15.cell? ⟨w.heap.size + 1, 2, none⟩ = some (.int .i64 caps) := C15.cellv rfl
      refine bodyPost_ret (by simp [results, Try.results10, go_sem, e0, e1, e2]; try rfl) rfl ?_
      exact ⟨ga, gr, _, rfl, HL15, hM, hM2, HU15⟩
end Go.Proofs.Ytnkefclbchpafaa
