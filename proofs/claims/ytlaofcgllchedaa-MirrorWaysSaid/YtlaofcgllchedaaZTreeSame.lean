/-
  TreeSame, put together.
-/
import Derived.Test.YtlaofcgllchedaaZ02TreeP

/-
  The walk of heronref05.Same on equal trees.
-/
namespace Go.Proofs.Ytlaofcgllchedaa
open Go.RowKit
set_option linter.unusedVariables false

theorem size_pos (t : Tree) : ¬ SizeOf.sizeOf t ≤ 0 := by
  obtain ⟨k, r, a, l, m, x, z, i, n⟩ := t
  simp

set_option maxRecDepth 100000 in
set_option maxHeartbeats 4000000 in
theorem sameTree_go (n : Nat) : ∀ (t : Tree) (w : World) (S1 S2 : Nat → Prop) (cs1 cs2 : Array Value), SizeOf.sizeOf t ≤ n → NodeR w S1 cs1 t → NodeR w S2 cs2 t →
    Calls Try.prog 14 #[.agg cs1, .agg cs2] w fun e w' => e = .returned (.bool true) ∧ Upd Nob w w' := by
  induction n with
  | zero => exact fun t _ _ _ _ _ h => absurd h (size_pos t)
  | succ n ih =>
  intro t w S1 S2 cs1 cs2 hn h1 h2
  obtain ⟨RA, rc, SA, sc, rfl, hr1, ho, hs1⟩ := h1.top
  obtain ⟨RB, rd, SB, sd, rfl, hr2, -, hs2⟩ := h2.top
  have C0 : Cells ((w.alloc (.cells (nodeCells t RA rc SA sc) 30)).alloc (.cells (nodeCells t RB rd SB sd) 30)) w.heap.size 30 (nodeCells t RA rc SA sc) := (Cells.new _ _ _).alloc _
  have C1 := Cells.new (w.alloc (.cells (nodeCells t RA rc SA sc) 30)) 30 (nodeCells t RB rd SB sd)
  rw [World.size_alloc] at C1
  have hU := ((Upd.refl Nob w).alloc (.cells (nodeCells t RA rc SA sc) 30)).alloc (.cells (nodeCells t RB rd SB sd) 30)
  have IH := hideP ih
  have HN := hideP hn
  have HR1 := hideP (hr1.upd hU (fun _ _ => not_nob))
  have HR2 := hideP (hr2.upd hU (fun _ _ => not_nob))
  have H1 := hideP (h1.upd_ hU (fun _ _ => not_nob)).open_.2.2
  have H2 := hideP (h2.upd_ hU (fun _ _ => not_nob)).open_.2.2
  have hnl := ho.n
  have hrn := hr1.n
  clear ih hn h1 h2 hr1 hr2 hs1 hs2 ho
  unfold nodeCells at C0 C1 hU HR1 HR2 H1 H2
  unfold nodeCells
  go_enter Try.func14, Try.ntmps14
  go_upto_region 1 with fail
  generalize (w.alloc (.cells #[.int .i64 t.kind, .slice RA t.rs.length rc, .int .i64 t.am, .slice SA t.subs.length sc, .int .i64 t.mn, .int .i64 t.mx, .bool t.lz, .int .i64 t.ix, .string t.nm] 30)).alloc (.cells #[.int .i64 t.kind, .slice RB t.rs.length rd, .int .i64 t.am, .slice SB t.subs.length sd, .int .i64 t.mn, .int .i64 t.mx, .bool t.lz, .int .i64 t.ix, .string t.nm] 30) = w2 at *
  have HC0 := hideP C0
  have HC1 := hideP C1
  have HU := hideP hU
  have e0 : w2.cell? ⟨w.heap.size, 0, none⟩ = some (.int .i64 t.kind) := C0.cellv rfl
  have e1 : w2.cell? ⟨w.heap.size, 0 + 1, none⟩ = some (.slice RA t.rs.length rc) := C0.cellv rfl
  have e2 : w2.cell? ⟨w.heap.size, 0 + 2, none⟩ = some (.int .i64 t.am) := C0.cellv rfl
  have e3 : w2.cell? ⟨w.heap.size, 0 + 3, none⟩ = some (.slice SA t.subs.length sc) := C0.cellv rfl
  have e4 : w2.cell? ⟨w.heap.size, 0 + 4, none⟩ = some (.int .i64 t.mn) := C0.cellv rfl
  have e5 : w2.cell? ⟨w.heap.size, 0 + 5, none⟩ = some (.int .i64 t.mx) := C0.cellv rfl
  have e6 : w2.cell? ⟨w.heap.size, 0 + 6, none⟩ = some (.bool t.lz) := C0.cellv rfl
  have e7 : w2.cell? ⟨w.heap.size, 0 + 7, none⟩ = some (.int .i64 t.ix) := C0.cellv rfl
  have e8 : w2.cell? ⟨w.heap.size, 0 + 8, none⟩ = some (.string t.nm) := C0.cellv rfl
  have d0 : w2.cell? ⟨w.heap.size + 1, 0, none⟩ = some (.int .i64 t.kind) := C1.cellv rfl
  have d1 : w2.cell? ⟨w.heap.size + 1, 0 + 1, none⟩ = some (.slice RB t.rs.length rd) := C1.cellv rfl
  have d2 : w2.cell? ⟨w.heap.size + 1, 0 + 2, none⟩ = some (.int .i64 t.am) := C1.cellv rfl
  have d3 : w2.cell? ⟨w.heap.size + 1, 0 + 3, none⟩ = some (.slice SB t.subs.length sd) := C1.cellv rfl
  have d4 : w2.cell? ⟨w.heap.size + 1, 0 + 4, none⟩ = some (.int .i64 t.mn) := C1.cellv rfl
  have d5 : w2.cell? ⟨w.heap.size + 1, 0 + 5, none⟩ = some (.int .i64 t.mx) := C1.cellv rfl
  have d6 : w2.cell? ⟨w.heap.size + 1, 0 + 6, none⟩ = some (.bool t.lz) := C1.cellv rfl
  have d7 : w2.cell? ⟨w.heap.size + 1, 0 + 7, none⟩ = some (.int .i64 t.ix) := C1.cellv rfl
  have d8 : w2.cell? ⟨w.heap.size + 1, 0 + 8, none⟩ = some (.string t.nm) := C1.cellv rfl
  clear C0 C1 hU
  go_wp2_with fail
  clear e0 e2 e4 e5 e6 e7 e8 d0 d2 d4 d5 d6 d7 d8
  go_loopg [5] t.rs.length (fun gk v5 wq => ∃ j q : Nat, j + gk = t.rs.length ∧ v5 = .int .i64 (j : Int) ∧ wq = w2.drewN q)
  case atStart => exact ⟨0, 0, by omega, rfl, rfl⟩
  case round =>
    obtain ⟨j, q, hj, rfl, rfl⟩ := hrel
    by_cases hjl : j < t.rs.length
    · obtain ⟨bd, y, gg, oo, rfl, hy, -, -, hadd1, r0, r1, -⟩ := HR1.out.at1 hjl
      obtain ⟨bd', y', gg', oo', rfl, hy', -, -, hadd2, s0, s1, -⟩ := HR2.out.at1 hjl
      rw [hy] at hy'
      injection hy' with hy'
      subst hy'
      have jl : (j : Int) < (t.rs.length : Int) := by omega
      clear hy
      go_wp2_with fail
      go_quiet (fail)
      go_wp2_with fail
      go_roundg (t.rs.length - (j + 1))
      case measure => omega
      case rel => exact ⟨j + 1, _, by omega, by go_num, by first | rfl | exact World.drewN_drewN _ _ _⟩
    · have jl : ¬ (j : Int) < (t.rs.length : Int) := by omega
      go_wp2_with fail
      go_loopg [6] t.subs.length (fun gk v6 wr => ∃ k : Nat, k + gk = t.subs.length ∧ v6 = .int .i64 (k : Int) ∧ Upd Nob w2 wr)
      case atStart => exact ⟨0, by omega, rfl, (Upd.refl _ _).drewN q⟩
      case round =>
        obtain ⟨k, hk, rfl, hUr⟩ := hrel
        have b3 : wr.cell? ⟨w.heap.size, 0 + 3, none⟩ = some (.slice SA t.subs.length sc) := (HC0.out.upd hUr not_nob).cellv rfl
        have c3 : wr.cell? ⟨w.heap.size + 1, 0 + 3, none⟩ = some (.slice SB t.subs.length sd) := (HC1.out.upd hUr not_nob).cellv rfl
        by_cases hlt : k < t.subs.length
        · obtain ⟨ad, g, o, x, PA, pc, QA, qc, rfl, hadd, -, hg, hx, hX, hlx, hcs⟩ := NodeR.sub H1.out hlt
          obtain ⟨ad', g', o', x', PB, pd, QB, qd, rfl, hadd', -, hg', hx', hX', -, hcs'⟩ := NodeR.sub H2.out hlt
          rw [hx] at hx'
          injection hx' with hx'
          subst hx'
          have up : ∀ (a : Addr) v, a.block < w2.heap.size → w2.cell? a = some v → wr.cell? a = some v := fun a v hb ha => (hUr.cell hb not_nob).trans ha
          obtain ⟨p0, p1, p2, p3, p4, p5, p6, p7, p8⟩ := sub_cells (fun j v hv => up ⟨g, o + j, none⟩ v hg (hcs j v hv))
          obtain ⟨q0, q1, q2, q3, q4, q5, q6, q7, q8⟩ := sub_cells (fun j v hv => up ⟨g', o' + j, none⟩ v hg' (hcs' j v hv))
          have kl : (k : Int) < (t.subs.length : Int) := by omega
          have HX := hideP (hX.upd_ hUr (fun _ _ => not_nob))
          have HX' := hideP (hX'.upd_ hUr (fun _ _ => not_nob))
          have HUr := hideP hUr
          have hxn : SizeOf.sizeOf x ≤ n := by have := HN.out; omega
          have hS : ∀ w', Upd Nob wr w' → (w'.cell? ⟨w.heap.size, 0 + 3, none⟩ = some (.slice (some ad) t.subs.length sc) ∧ w'.cell? ⟨w.heap.size + 1, 0 + 3, none⟩ = some (.slice (some ad') t.subs.length sd) ∧ w'.cell? ⟨g, o, none⟩ = some (.int .i64 x.kind) ∧ w'.cell? ⟨g, o + 1, none⟩ = some (.slice PA x.rs.length pc) ∧ w'.cell? ⟨g, o + 2, none⟩ = some (.int .i64 x.am) ∧ w'.cell? ⟨g, o + 3, none⟩ = some (.slice QA x.subs.length qc) ∧ w'.cell? ⟨g, o + 4, none⟩ = some (.int .i64 x.mn) ∧ w'.cell? ⟨g, o + 5, none⟩ = some (.int .i64 x.mx) ∧ w'.cell? ⟨g, o + 6, none⟩ = some (.bool x.lz) ∧ w'.cell? ⟨g, o + 7, none⟩ = some (.int .i64 x.ix) ∧ w'.cell? ⟨g, o + 8, none⟩ = some (.string x.nm) ∧ w'.cell? ⟨g', o', none⟩ = some (.int .i64 x.kind) ∧ w'.cell? ⟨g', o' + 1, none⟩ = some (.slice PB x.rs.length pd) ∧ w'.cell? ⟨g', o' + 2, none⟩ = some (.int .i64 x.am) ∧ w'.cell? ⟨g', o' + 3, none⟩ = some (.slice QB x.subs.length qd) ∧ w'.cell? ⟨g', o' + 4, none⟩ = some (.int .i64 x.mn) ∧ w'.cell? ⟨g', o' + 5, none⟩ = some (.int .i64 x.mx) ∧ w'.cell? ⟨g', o' + 6, none⟩ = some (.bool x.lz) ∧ w'.cell? ⟨g', o' + 7, none⟩ = some (.int .i64 x.ix) ∧ w'.cell? ⟨g', o' + 8, none⟩ = some (.string x.nm)) := fun w' hv =>
            ⟨(hv.cell (World.block_lt_of_cell? _ _ b3) not_nob).trans b3, (hv.cell (World.block_lt_of_cell? _ _ c3) not_nob).trans c3, (hv.cell (World.block_lt_of_cell? _ _ p0) not_nob).trans p0, (hv.cell (World.block_lt_of_cell? _ _ p1) not_nob).trans p1, (hv.cell (World.block_lt_of_cell? _ _ p2) not_nob).trans p2, (hv.cell (World.block_lt_of_cell? _ _ p3) not_nob).trans p3, (hv.cell (World.block_lt_of_cell? _ _ p4) not_nob).trans p4, (hv.cell (World.block_lt_of_cell? _ _ p5) not_nob).trans p5, (hv.cell (World.block_lt_of_cell? _ _ p6) not_nob).trans p6, (hv.cell (World.block_lt_of_cell? _ _ p7) not_nob).trans p7, (hv.cell (World.block_lt_of_cell? _ _ p8) not_nob).trans p8, (hv.cell (World.block_lt_of_cell? _ _ q0) not_nob).trans q0, (hv.cell (World.block_lt_of_cell? _ _ q1) not_nob).trans q1, (hv.cell (World.block_lt_of_cell? _ _ q2) not_nob).trans q2, (hv.cell (World.block_lt_of_cell? _ _ q3) not_nob).trans q3, (hv.cell (World.block_lt_of_cell? _ _ q4) not_nob).trans q4, (hv.cell (World.block_lt_of_cell? _ _ q5) not_nob).trans q5, (hv.cell (World.block_lt_of_cell? _ _ q6) not_nob).trans q6, (hv.cell (World.block_lt_of_cell? _ _ q7) not_nob).trans q7, (hv.cell (World.block_lt_of_cell? _ _ q8) not_nob).trans q8⟩
          have HS := hideP hS
          clear hS up hcs hcs' hX hX' hUr hx hlx e1 e3 d1 d3
          go_upto_region 11 with fail
          go_region_held3 (fun w' => w'.cell? ⟨w.heap.size, 0 + 3, none⟩ = some (.slice (some ad) t.subs.length sc) ∧ w'.cell? ⟨w.heap.size + 1, 0 + 3, none⟩ = some (.slice (some ad') t.subs.length sd) ∧ w'.cell? ⟨g, o, none⟩ = some (.int .i64 x.kind) ∧ w'.cell? ⟨g, o + 1, none⟩ = some (.slice PA x.rs.length pc) ∧ w'.cell? ⟨g, o + 2, none⟩ = some (.int .i64 x.am) ∧ w'.cell? ⟨g, o + 3, none⟩ = some (.slice QA x.subs.length qc) ∧ w'.cell? ⟨g, o + 4, none⟩ = some (.int .i64 x.mn) ∧ w'.cell? ⟨g, o + 5, none⟩ = some (.int .i64 x.mx) ∧ w'.cell? ⟨g, o + 6, none⟩ = some (.bool x.lz) ∧ w'.cell? ⟨g, o + 7, none⟩ = some (.int .i64 x.ix) ∧ w'.cell? ⟨g, o + 8, none⟩ = some (.string x.nm) ∧ w'.cell? ⟨g', o', none⟩ = some (.int .i64 x.kind) ∧ w'.cell? ⟨g', o' + 1, none⟩ = some (.slice PB x.rs.length pd) ∧ w'.cell? ⟨g', o' + 2, none⟩ = some (.int .i64 x.am) ∧ w'.cell? ⟨g', o' + 3, none⟩ = some (.slice QB x.subs.length qd) ∧ w'.cell? ⟨g', o' + 4, none⟩ = some (.int .i64 x.mn) ∧ w'.cell? ⟨g', o' + 5, none⟩ = some (.int .i64 x.mx) ∧ w'.cell? ⟨g', o' + 6, none⟩ = some (.bool x.lz) ∧ w'.cell? ⟨g', o' + 7, none⟩ = some (.int .i64 x.ix) ∧ w'.cell? ⟨g', o' + 8, none⟩ = some (.string x.nm))
            (first | exact HS.out _ (Upd.refl _ _) | exact HS.out _ ((Upd.refl Nob _).drew) | exact HS.out _ HU9.out)
            (first
            | (go_at_call 14; refine (IH.out x _ _ _ _ _ hxn (HX.out.upd_ ((Upd.refl Nob wr).drew) (fun _ _ => not_nob)) (HX'.out.upd_ ((Upd.refl Nob wr).drew) (fun _ _ => not_nob))).mono ?_; rintro e w9 ⟨rfl, hU9⟩; have HU9 := hideP (((Upd.refl Nob wr).drew).trans hU9 (fun _ _ h => h)); clear hU9))
          go_wp2_with fail
          go_roundg (t.subs.length - (k + 1))
          case measure => omega
          case rel => exact ⟨k + 1, by omega, by go_num, HUr.out.trans HU9.out (fun _ _ h => h)⟩
        · have kl : ¬ (k : Int) < (t.subs.length : Int) := by omega
          go_wp2_with fail
          go_ret
          exact ⟨rfl, HU.out.trans hUr (fun _ _ h => h)⟩
theorem sameTree_any (t : Tree) (w : World) (S1 S2 : Nat → Prop) (cs1 cs2 : Array Value) (h1 : NodeR w S1 cs1 t) (h2 : NodeR w S2 cs2 t) :
    Calls Try.prog 14 #[.agg cs1, .agg cs2] w fun e w' => e = .returned (.bool true) ∧ Upd Nob w w' := sameTree_go _ t w S1 S2 cs1 cs2 (Nat.le_refl _) h1 h2
end Go.Proofs.Ytlaofcgllchedaa
