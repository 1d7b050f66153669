/-
  Awake, put together.
-/
import Derived.Test.YtlaofcgllchedaaZ10SoundG
import Derived.Test.YtlaofcgllchedaaZTreeSame
import Derived.Test.YtlaofcgllchedaaZ34Back

/-
  The walk of heronlaw08's awake.
-/
namespace Go.Proofs.Ytlaofcgllchedaa
open Go.RowKit
set_option linter.unusedVariables false

def leafT (c : Int) : Tree := .mk 2 [(c, c)] 0 [] 0 0 false 0 ByteArray.empty
def awkT (l : List Tree) : Tree := .mk 4 [] 0 l 0 0 false 0 ByteArray.empty
def leafC (g : Nat) : Array Value := #[.int .i64 2, .slice (some ⟨g, 0, none⟩) 1 1, .int .i64 0, .slice none 0 0, .int .i64 0, .int .i64 0, .bool false, .int .i64 0, .string ⟨#[]⟩]
def awkC (g : Nat) : Array Value := #[.int .i64 4, .slice none 0 0, .int .i64 0, .slice (some ⟨g, 0, none⟩) 2 2, .int .i64 0, .int .i64 0, .bool false, .int .i64 0, .string ⟨#[]⟩]
theorem leaf_fine (c : Int) : FineT (leafT c) := by
  rw [FineT]
  exact ⟨by simp [leafT, Tree.rs], by simp [leafT, Tree.subs], by simp [leafT, Tree.kind], fun i h => by simp [leafT, Tree.subs] at h⟩
theorem leaf_ok {c : Int} (hr : rightB [(c, c)] = true) {d : Nat} (hd : 1 ≤ d) : OkT (leafT c) d := by
  rw [OkT]
  refine ⟨.inl rfl, ?_, hd, fun i h => by simp [leafT, Tree.subs] at h⟩
  have h1 : nodeB (leafT c) = rightB [(c, c)] := by simp [nodeB, leafT, Tree.kind, Tree.am, Tree.subs, Tree.rs, countB, groupB, Tree.mn, Tree.mx, Tree.lz, Tree.ix, Tree.nm]
  rw [h1, hr]
theorem row_fine {x y : Tree} (hx : FineT x) (hy : FineT y) : FineT (awkT [x, y]) := by
  rw [FineT]
  refine ⟨by simp [awkT, Tree.rs], by simp [awkT, Tree.subs], by simp [awkT, Tree.kind], fun i h => ?_⟩
  match i, h with
  | 0, _ => exact hx
  | 1, _ => exact hy
theorem row_ok {x y : Tree} {d : Nat} (hd : 1 ≤ d) (hx : OkT x (d - 1)) (hy : OkT y (d - 1)) : OkT (awkT [x, y]) d := by
  rw [OkT]
  refine ⟨.inr rfl, by simp [nodeB, awkT, Tree.kind, Tree.am, Tree.subs, Tree.rs, plainB, countB, groupB, Tree.mn, Tree.mx, Tree.lz, Tree.ix, Tree.nm], hd, fun i h => ?_⟩
  match i, h with
  | 0, _ => exact hx
  | 1, _ => exact hy
theorem in_small {c : Int} (h0 : 0 ≤ c) (h1 : c ≤ 1000) : In64 c := ⟨by omega, by omega⟩
theorem leafR {w : World} {g : Nat} {c : Int} (C : Cells w g 45 #[.int .i64 c, .int .i64 c]) (h0 : 0 ≤ c) (h1 : c ≤ 1000) : NodeR w (fun k => k < w.heap.size) (leafC g) (leafT c) := by
  have h64 := in_small h0 h1
  refine NodeR.of (t := leafT c) (RA := some ⟨g, 0, none⟩) (rc := 1) (SA := none) (sc := 0) ⟨⟨rfl, fun _ => ⟨_, rfl, C.lt, C.lt, fun j u hj => ?_⟩⟩, fun r hr => ?_, by simp [leafT, Tree.rs]⟩ ⟨in_small (c := 2) (by decide) (by decide), in_small (c := 0) (by decide) (by decide), in_small (c := 0) (by decide) (by decide), in_small (c := 0) (by decide) (by decide), in_small (c := 0) (by decide) (by decide), by simp [leafT, Tree.subs], by show ByteArray.empty.size ≤ _; decide⟩ (fun i x hx => by simp [leafT, Tree.subs] at hx)
  · rw [add_lit_, Nat.zero_add]
    refine C.cellv ?_
    simp only [leafT, Tree.rs, pairv] at hj
    match j, hj with
    | 0, hj => exact hj
    | 1, hj => exact hj
  · have : r = (c, c) := by simpa [leafT, Tree.rs] using hr
    subst this
    exact ⟨h64, h64⟩
theorem rowR {w : World} {g : Nat} {x y : Tree} {x0 x1 x2 x3 x4 x5 x6 x7 x8 y0 y1 y2 y3 y4 y5 y6 y7 y8 : Value} (C : Cells w g 30 #[x0, x1, x2, x3, x4, x5, x6, x7, x8, y0, y1, y2, y3, y4, y5, y6, y7, y8])
    (hx : NodeR w (fun k => k < w.heap.size) #[x0, x1, x2, x3, x4, x5, x6, x7, x8] x) (hy : NodeR w (fun k => k < w.heap.size) #[y0, y1, y2, y3, y4, y5, y6, y7, y8] y) : NodeR w (fun k => k < w.heap.size) (awkC g) (awkT [x, y]) := by
  refine NodeR.of (t := awkT [x, y]) (RA := none) (rc := 0) (SA := some ⟨g, 0, none⟩) (sc := 2) ⟨⟨rfl, fun h => by simp [awkT, Tree.rs] at h⟩, fun r hr => by simp [awkT, Tree.rs] at hr, by simp [awkT, Tree.rs]⟩ ⟨in_small (c := 4) (by decide) (by decide), in_small (c := 0) (by decide) (by decide), in_small (c := 0) (by decide) (by decide), in_small (c := 0) (by decide) (by decide), in_small (c := 0) (by decide) (by decide), by simp [awkT, Tree.subs], by show ByteArray.empty.size ≤ _; decide⟩ (fun i z hz => ?_)
  have hi : i < 2 := (List.getElem?_eq_some_iff.1 hz).1
  match i, hi with
  | 0, _ =>
    injection hz with hz
    subst hz
    refine ⟨_, g, 0, _, rfl, by rw [add_lit_], C.lt, C.lt, fun j v hv => C.cellv ?_, hx⟩
    have hj : j < 9 := (Array.getElem?_eq_some_iff.1 hv).1
    match j, hj with
    | 0, _ => exact hv
    | 1, _ => exact hv
    | 2, _ => exact hv
    | 3, _ => exact hv
    | 4, _ => exact hv
    | 5, _ => exact hv
    | 6, _ => exact hv
    | 7, _ => exact hv
    | 8, _ => exact hv
  | 1, _ =>
    injection hz with hz
    subst hz
    refine ⟨_, g, 9, _, rfl, by rw [add_lit_], C.lt, C.lt, fun j v hv => C.cellv ?_, hy⟩
    have hj : j < 9 := (Array.getElem?_eq_some_iff.1 hv).1
    match j, hj with
    | 0, _ => exact hv
    | 1, _ => exact hv
    | 2, _ => exact hv
    | 3, _ => exact hv
    | 4, _ => exact hv
    | 5, _ => exact hv
    | 6, _ => exact hv
    | 7, _ => exact hv
    | 8, _ => exact hv
theorem mir_row (a b : Int) : mirT (awkT [leafT a, leafT b]) = awkT [leafT b, leafT a] := by
  simp [awkT, leafT, mirT, mirL, bare]
theorem cnt_row (a b : Int) : cntT (awkT [leafT a, leafT b]) = 3 := by
  simp [awkT, leafT, cntT, cntL]
theorem right_leaf : rightB [(97, 97)] = true ∧ rightB [(98, 98)] = true := by decide

set_option maxRecDepth 100000 in
set_option maxHeartbeats 4000000 in
theorem awake_any (w : World) : Calls Try.prog 6 #[] w fun e w' => e = .returned (.bool true) ∧ Upd Nob w w' := by
  go_enter Try.func6, Try.ntmps6
  go_upto_region 2 with fail
  have R1 := (Cells.new w 45 #[.int .i64 97, .int .i64 97]).alloc (.cells #[.int .i64 2, .slice (some ⟨w.heap.size, 0, none⟩) 1 1, .int .i64 0, .slice none 0 0, .int .i64 0, .int .i64 0, .bool false, .int .i64 0, .string ⟨#[]⟩] 30)
  have B1 := Cells.new (w.alloc (.cells #[.int .i64 97, .int .i64 97] 45)) 30 #[.int .i64 2, .slice (some ⟨w.heap.size, 0, none⟩) 1 1, .int .i64 0, .slice none 0 0, .int .i64 0, .int .i64 0, .bool false, .int .i64 0, .string ⟨#[]⟩]
  rw [World.size_alloc] at B1
  have U1 := ((Upd.refl Nob w).alloc (.cells #[.int .i64 97, .int .i64 97] 45)).alloc (.cells #[.int .i64 2, .slice (some ⟨w.heap.size, 0, none⟩) 1 1, .int .i64 0, .slice none 0 0, .int .i64 0, .int .i64 0, .bool false, .int .i64 0, .string ⟨#[]⟩] 30)
  have HS1 := hideP (show ((w.alloc (.cells #[.int .i64 97, .int .i64 97] 45)).alloc (.cells #[.int .i64 2, .slice (some ⟨w.heap.size, 0, none⟩) 1 1, .int .i64 0, .slice none 0 0, .int .i64 0, .int .i64 0, .bool false, .int .i64 0, .string ⟨#[]⟩] 30)).heap.size = w.heap.size + 1 + 1 by simp)
  generalize (w.alloc (.cells #[.int .i64 97, .int .i64 97] 45)).alloc (.cells #[.int .i64 2, .slice (some ⟨w.heap.size, 0, none⟩) 1 1, .int .i64 0, .slice none 0 0, .int .i64 0, .int .i64 0, .bool false, .int .i64 0, .string ⟨#[]⟩] 30) = w1 at *
  go_upto_region 3 with fail
  have R2 := (Cells.new w1 45 #[.int .i64 98, .int .i64 98]).alloc (.cells #[.int .i64 2, .slice (some ⟨w1.heap.size, 0, none⟩) 1 1, .int .i64 0, .slice none 0 0, .int .i64 0, .int .i64 0, .bool false, .int .i64 0, .string ⟨#[]⟩] 30)
  have B2 := Cells.new (w1.alloc (.cells #[.int .i64 98, .int .i64 98] 45)) 30 #[.int .i64 2, .slice (some ⟨w1.heap.size, 0, none⟩) 1 1, .int .i64 0, .slice none 0 0, .int .i64 0, .int .i64 0, .bool false, .int .i64 0, .string ⟨#[]⟩]
  rw [World.size_alloc] at B2
  have U2 := ((Upd.refl Nob w1).alloc (.cells #[.int .i64 98, .int .i64 98] 45)).alloc (.cells #[.int .i64 2, .slice (some ⟨w1.heap.size, 0, none⟩) 1 1, .int .i64 0, .slice none 0 0, .int .i64 0, .int .i64 0, .bool false, .int .i64 0, .string ⟨#[]⟩] 30)
  have HS2 := hideP (show ((w1.alloc (.cells #[.int .i64 98, .int .i64 98] 45)).alloc (.cells #[.int .i64 2, .slice (some ⟨w1.heap.size, 0, none⟩) 1 1, .int .i64 0, .slice none 0 0, .int .i64 0, .int .i64 0, .bool false, .int .i64 0, .string ⟨#[]⟩] 30)).heap.size = w1.heap.size + 1 + 1 by simp)
  generalize (w1.alloc (.cells #[.int .i64 98, .int .i64 98] 45)).alloc (.cells #[.int .i64 2, .slice (some ⟨w1.heap.size, 0, none⟩) 1 1, .int .i64 0, .slice none 0 0, .int .i64 0, .int .i64 0, .bool false, .int .i64 0, .string ⟨#[]⟩] 30) = w2 at *
  have R1 := R1.upd U2 not_nob
  have B1 := B1.upd U2 not_nob
  have UW := U1.trans U2 (fun _ _ h => h)
  clear U1 U2
  obtain ⟨a0, a1, a2, a3, a4, a5, a6, a7, a8⟩ := nine B1
  obtain ⟨b0, b1, b2, b3, b4, b5, b6, b7, b8⟩ := nine B2
  have RW := Cells.new w2 30 #[.int .i64 2, .slice (some ⟨w.heap.size, 0, none⟩) 1 1, .int .i64 0, .slice none 0 0, .int .i64 0, .int .i64 0, .bool false, .int .i64 0, .string ⟨#[]⟩, .int .i64 2, .slice (some ⟨w1.heap.size, 0, none⟩) 1 1, .int .i64 0, .slice none 0 0, .int .i64 0, .int .i64 0, .bool false, .int .i64 0, .string ⟨#[]⟩]
  have U3 := (Upd.refl Nob w2).alloc (.cells #[.int .i64 2, .slice (some ⟨w.heap.size, 0, none⟩) 1 1, .int .i64 0, .slice none 0 0, .int .i64 0, .int .i64 0, .bool false, .int .i64 0, .string ⟨#[]⟩, .int .i64 2, .slice (some ⟨w1.heap.size, 0, none⟩) 1 1, .int .i64 0, .slice none 0 0, .int .i64 0, .int .i64 0, .bool false, .int .i64 0, .string ⟨#[]⟩] 30)
  have HN := hideP (rowR (x := leafT 97) (y := leafT 98) RW (leafR (R1.upd U3 not_nob) (by decide) (by decide)) (leafR (R2.upd U3 not_nob) (by decide) (by decide)))
  have R1 := hideP (R1.upd U3 not_nob)
  have B1 := hideP (B1.upd U3 not_nob)
  have R2 := hideP (R2.upd U3 not_nob)
  have B2 := hideP (B2.upd U3 not_nob)
  have UW := hideP (UW.trans U3 (fun _ _ h => h))
  clear U3 RW
  go_wp2_with fail
  generalize w2.alloc (.cells #[.int .i64 2, .slice (some ⟨w.heap.size, 0, none⟩) 1 1, .int .i64 0, .slice none 0 0, .int .i64 0, .int .i64 0, .bool false, .int .i64 0, .string ⟨#[]⟩, .int .i64 2, .slice (some ⟨w1.heap.size, 0, none⟩) 1 1, .int .i64 0, .slice none 0 0, .int .i64 0, .int .i64 0, .bool false, .int .i64 0, .string ⟨#[]⟩] 30) = w3 at *
  refine (mirror_yes (awkT [leafT 97, leafT 98]) w3 _ _ 2 (row_ok (by omega) (leaf_ok right_leaf.1 (by omega)) (leaf_ok right_leaf.2 (by omega))) (by omega) (by rw [cnt_row]; omega) (row_fine (leaf_fine _) (leaf_fine _)) HN.out).mono ?_
  rw [mir_row]
  generalize htt : awkT [leafT 98, leafT 97] = tt at *
  rintro e w4 ⟨cs', rfl, hN4, hU4⟩
  obtain ⟨PB, pd, QB, qd, rfl, -⟩ := hN4.top
  unfold nodeCells at hN4 ⊢
  have HTT := hideP htt
  have CT := Cells.new w4 30 #[.int .i64 tt.kind, .slice PB tt.rs.length pd, .int .i64 tt.am, .slice QB tt.subs.length qd, .int .i64 tt.mn, .int .i64 tt.mx, .bool tt.lz, .int .i64 tt.ix, .string tt.nm]
  have hA := (Upd.refl Nob w4).alloc (.cells #[.int .i64 tt.kind, .slice PB tt.rs.length pd, .int .i64 tt.am, .slice QB tt.subs.length qd, .int .i64 tt.mn, .int .i64 tt.mx, .bool tt.lz, .int .i64 tt.ix, .string tt.nm] 30)
  have hU5 := hU4.trans hA (fun _ _ h => h)
  have R1 := hideP (R1.out.upd hU5 not_nob)
  have B1 := hideP (B1.out.upd hU5 not_nob)
  have R2 := hideP (R2.out.upd hU5 not_nob)
  have B2 := hideP (B2.out.upd hU5 not_nob)
  have UW := hideP (UW.out.trans hU5 (fun _ _ h => h))
  have HN5 := hideP (hN4.upd_ hA (fun _ _ => not_nob))
  clear htt hA hU4 hU5 hN4 a0 a1 a2 a3 a4 a5 a6 a7 a8 b0 b1 b2 b3 b4 b5 b6 b7 b8
  simp only
  go_upto_region 4 with fail
  generalize w4.alloc (.cells #[.int .i64 tt.kind, .slice PB tt.rs.length pd, .int .i64 tt.am, .slice QB tt.subs.length qd, .int .i64 tt.mn, .int .i64 tt.mx, .bool tt.lz, .int .i64 tt.ix, .string tt.nm] 30) = w5 at *
  generalize w4.heap.size = tb at *
  have HCT := hideP CT
  clear CT
  have C78 := Cells.new w5 3 #[.int .i64 7, .int .i64 8]
  have hA := (Upd.refl Nob w5).alloc (.cells #[.int .i64 7, .int .i64 8] 3)
  have r78 : Reads (w5.alloc (.cells #[.int .i64 7, .int .i64 8] 3)) (fun _ => True) 1 (some ⟨w5.heap.size, 0, none⟩) 2 (intv [7, 8]) :=
    ⟨rfl, fun _ => ⟨_, rfl, C78.lt, trivial, fun j u hj => by
      rw [add_lit_, Nat.zero_add]
      refine C78.cellv ?_
      match j, hj with
      | 0, hj => exact hj
      | 1, hj => exact hj⟩⟩
  have HA := hideP hA
  have HR78 := hideP r78
  clear hA C78 r78
  go_wp2_with fail
  refine (back_any _ _ (some ⟨w5.heap.size, 0, none⟩) 2 2 [7, 8] HR78.out (by omega)).mono ?_
  rintro e w6 ⟨gl, rfl, oL, hU6⟩
  have hU6' := HA.out.trans hU6 (fun _ _ h => h)
  have R1 := hideP (R1.out.upd hU6' not_nob)
  have R2 := hideP (R2.out.upd hU6' not_nob)
  have UW := hideP (UW.out.trans hU6' (fun _ _ h => h))
  have HN6 := hideP (HN5.out.upd_ hU6' (fun _ _ => not_nob))
  obtain ⟨a0, a1, a2, a3, a4, a5, a6, a7, a8⟩ := nine (B1.out.upd hU6' not_nob)
  obtain ⟨b0, b1, b2, b3, b4, b5, b6, b7, b8⟩ := nine (B2.out.upd hU6' not_nob)
  obtain ⟨c0, c1, c2, c3, c4, c5, c6, c7, c8⟩ := nine (HCT.out.upd hU6' not_nob)
  have HOL := hideP oL
  clear oL hU6 hU6'
  have RW := Cells.new w6 30 #[.int .i64 2, .slice (some ⟨w1.heap.size, 0, none⟩) 1 1, .int .i64 0, .slice none 0 0, .int .i64 0, .int .i64 0, .bool false, .int .i64 0, .string ⟨#[]⟩, .int .i64 2, .slice (some ⟨w.heap.size, 0, none⟩) 1 1, .int .i64 0, .slice none 0 0, .int .i64 0, .int .i64 0, .bool false, .int .i64 0, .string ⟨#[]⟩]
  have hA := (Upd.refl Nob w6).alloc (.cells #[.int .i64 2, .slice (some ⟨w1.heap.size, 0, none⟩) 1 1, .int .i64 0, .slice none 0 0, .int .i64 0, .int .i64 0, .bool false, .int .i64 0, .string ⟨#[]⟩, .int .i64 2, .slice (some ⟨w.heap.size, 0, none⟩) 1 1, .int .i64 0, .slice none 0 0, .int .i64 0, .int .i64 0, .bool false, .int .i64 0, .string ⟨#[]⟩] 30)
  have HNR := hideP (rowR (x := leafT 98) (y := leafT 97) RW (leafR (R2.out.upd hA not_nob) (by decide) (by decide)) (leafR (R1.out.upd hA not_nob) (by decide) (by decide)))
  have HN7 := hideP (HN6.out.upd_ hA (fun _ _ => not_nob))
  have UW := hideP (UW.out.trans hA (fun _ _ h => h))
  have HOL := hideP (own_upd HOL.out hA (fun _ _ => not_nob))
  clear RW hA
  go_wp2_with fail
  generalize w6.alloc (.cells #[.int .i64 2, .slice (some ⟨w1.heap.size, 0, none⟩) 1 1, .int .i64 0, .slice none 0 0, .int .i64 0, .int .i64 0, .bool false, .int .i64 0, .string ⟨#[]⟩, .int .i64 2, .slice (some ⟨w.heap.size, 0, none⟩) 1 1, .int .i64 0, .slice none 0 0, .int .i64 0, .int .i64 0, .bool false, .int .i64 0, .string ⟨#[]⟩] 30) = w7 at *
  have hNR := HNR.out
  rw [HTT.out] at hNR
  refine (sameTree_any tt w7 _ _ _ _ HN7.out hNR).mono ?_
  rintro e w8 ⟨rfl, hU8⟩
  have oL := own_upd HOL.out hU8 (fun _ _ => not_nob)
  have l0 : w8.cell? ⟨gl, 0, none⟩ = some (.int .i64 8) := oL.cellAt 0 (by omega)
  have l1 : w8.cell? ⟨gl, 1, none⟩ = some (.int .i64 7) := oL.cellAt 1 (by omega)
  have UW := hideP (UW.out.trans hU8 (fun _ _ h => h))
  clear oL hNR hU8 a0 a1 a2 a3 a4 a5 a6 a7 a8 b0 b1 b2 b3 b4 b5 b6 b7 b8 c0 c1 c2 c3 c4 c5 c6 c7 c8
  go_wp2_with fail
  go_ret
  exact ⟨rfl, UW.out⟩
end Go.Proofs.Ytlaofcgllchedaa
