/-
  The walk of pike's put.
-/
import Derived.Test.YtnkefclbchpafaaPkR
namespace Go.Proofs.Ytnkefclbchpafaa
open Go.RowKit
set_option linter.unusedVariables false

set_option maxRecDepth 100000 in
set_option maxHeartbeats 4000000 in
theorem put_any (w : World) (n0 e0 b sb sg : Nat) (O NO : Option Nat) (A : Option Addr) (c : Nat) (is : List PInst) (st : Int) (ncaps : Nat) (T : Option Addr) (tc : Nat) (text : List Int) (j : Nat) (s : VSt)
    (h : PkR w n0 e0 b sb sg O NO A c is st ncaps T tc text j s) (px : Nat) (C : Option Addr) (cc : Nat) (caps : List Int) (hp : px < is.length) (hcl : caps.length = ncaps) (hQ : CapQ w sg O C ncaps caps) (hroom : s.next.length + s.met.count false + 1 ≤ 20000) :
    Calls Try.prog 50 #[.pointer (some ⟨b, 0, none⟩), .agg #[.int .i64 (px : Int), .slice C ncaps cc]] w fun e w' => e = .returned (.tuple #[]) ∧ ∃ NO',
      PkR w' n0 e0 b sb sg O NO' A c is st ncaps T tc text j { s with next := s.next ++ [(px, caps)] } ∧ PkUpd b sb sg O O NO NO' w w' := by
  obtain ⟨N, nc, xs, FA, fn, fc, wh, hC, hN, hNO, hT, hF⟩ := h.rest
  obtain ⟨i0, hi0, hz0, hz1, hz2⟩ := info_parts info_pthread
  have hn0 := h.n0w
  have hsl : s.next.length ≤ 20000 := by have := h.room; omega
  have hbx := heap_alloc_new w (.cells #[.int .i64 (px : Int), .slice C ncaps cc] 108)
  have CX := Cells.new w 108 #[.int .i64 (px : Int), .slice C ncaps cc]
  have hU1 := (Upd.refl Nob w).alloc (.cells #[.int .i64 (px : Int), .slice C ncaps cc] 108)
  have hwl := hC.lt
  have H := hideP h
  have HC := hideP hC
  have HN := hideP hN
  have HNO := hideP hNO
  have HT := hideP hT
  have HF := hideP hF
  have HQ := hideP hQ
  have HC1 := hideP (hC.upd hU1 not_nob)
  have HN1 := hideP (own_upd hN hU1 (fun _ _ => not_nob))
  have HCX := hideP CX
  have HU1 := hideP hU1
  have hbn : (Value.slice N s.next.length nc).ownBlock ≠ some b := own_ne hN hC (by decide)
  clear h hC hN hNO hT hF hQ CX hU1 hbx
  go_enter Try.func50, Try.ntmps50
  go_upto_region 1 with fail
  have hsz : (w.alloc (.cells #[.int .i64 (px : Int), .slice C ncaps cc] 108)).heap.size = w.heap.size + 1 := by simp
  generalize w.alloc (.cells #[.int .i64 (px : Int), .slice C ncaps cc] 108) = w1 at *
  have ln : w1.cell? ⟨b, 0 + 7, none⟩ = some (.slice N s.next.length nc) := HC1.out.cellv rfl
  have x0 : w1.cell? ⟨w.heap.size, 0, none⟩ = some (.int .i64 (px : Int)) := HCX.out.cellv rfl
  have x1 : w1.cell? ⟨w.heap.size, 0 + 1, none⟩ = some (.slice C ncaps cc) := HCX.out.cellv rfl
  have hnews : ∀ q, ∀ j u, [Value.int .i64 (px : Int), Value.slice C ncaps cc][j]? = some u → ((w1.drewN q).alloc (.cells #[.int .i64 (px : Int), .slice C ncaps cc] 108)).cell? ((⟨w1.heap.size, 0, none⟩ : Addr).add j) = some u := fun q =>
    World.news_of_block (cs := #[.int .i64 (px : Int), .slice C ncaps cc]) (t := 108) (fr := (0, 0)) (heap_alloc_new (w1.drewN q) _)
  have hown : ∀ q, ((w1.drewN q).alloc (.cells #[.int .i64 (px : Int), .slice C ncaps cc] 108)).ownsRow n0 108 2 (.slice N s.next.length nc) s.next.length xs := fun q =>
    World.ownsRow.alloc (w := w1.drewN q) HN1.out _
  have hbc : ∀ q w', ((w1.drewN q).alloc (.cells #[.int .i64 (px : Int), .slice C ncaps cc] 108)).grownBy w' (Value.slice N s.next.length nc).ownBlock → Cells w' b 73 (pikeCells A is.length c st ncaps T text.length tc j (part text j 6) sb N s.next.length nc s.found.isSome FA fn fc wh s.steps) := fun q w' hg =>
    Cells.grown (Cells.alloc (w := w1.drewN q) HC1.out _) hg hbn
  rw [hsz] at hnews
  have HNW := hideP hnews
  have HOW := hideP hown
  have HBC := hideP hbc
  have ln2 : ∀ q, ((w1.drewN q).alloc (.cells #[.int .i64 (px : Int), .slice C ncaps cc] 108)).cell? ⟨b, 0 + 7, none⟩ = some (.slice N s.next.length nc) := fun q => (Cells.alloc (w := w1.drewN q) HC1.out _).cellv rfl
  clear hnews hown hbc
  have ln3 : ((w1.drewN 1).alloc (.cells #[.int .i64 (px : Int), .slice C ncaps cc] 108)).cell? ⟨b, 0 + 7, none⟩ = some (.slice N s.next.length nc) := ln2 1
  have ln4 : (w1.drew.alloc (.cells #[.int .i64 (px : Int), .slice C ncaps cc] 108)).cell? ⟨b, 0 + 7, none⟩ = some (.slice N s.next.length nc) := ln2 1
  clear ln2
  go_region_law ((refine step_append_lies _ rfl (.tmp 8) (.tmp 10) 71 rfl n0 108 i0 _ 2 32 Try.underlying71 hi0 hz0 hz1 hz2 rfl (by decide) (.slice N s.next.length nc) s.next.length xs (by rfl) (HOW.out _) ⟨w.heap.size + 1, 0, none⟩ 1 1 [.int .i64 (px : Int), .slice C ncaps cc] (by rfl) (by rfl) (HNW.out _) (by intro u hu; simp at hu; rcases hu with rfl | rfl <;> rfl) (by decide) (by unfold maxLen; omega) (by omega) (by simp; omega) (w.heap.size + 1 + 1) (by simp [hsz]) ?_; intro gN cN w9 oN gr hat hlt; have HG := hideP gr; have HON := hideP oN; have HAT := hideP hat; have fzb : w9.drew.frozen? ⟨b, 0 + 7, none⟩ = false := (HBC.out _ _ gr).frozen 7; have fzb2 : w9.frozen? ⟨b, 0 + 7, none⟩ = false := (HBC.out _ _ gr).frozen 7; have cb2 : w9.cell? ⟨b, 0 + 7, none⟩ = some _ := (HBC.out _ _ gr).cellv rfl; clear gr oN hat))
  all_goals (obtain ⟨hVp, hUp⟩ := H.out.pushed (px := px) (caps := caps) HC.out HN.out HNO.out HT.out HF.out hp hcl HQ.out hroom ((HU1.out.drewN _).alloc _) HG.out (HAT.out.elim (fun e => .inl e.symm) (fun e => .inr (by omega))) HON.out)
  all_goals go_end0
  all_goals exact ⟨rfl, some gN, hVp, hUp⟩
end Go.Proofs.Ytnkefclbchpafaa
