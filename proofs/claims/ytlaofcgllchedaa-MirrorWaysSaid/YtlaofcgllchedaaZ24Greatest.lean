/-
  OkV, Greatest, put together.
-/
import Derived.Test.YtlaofcgllchedaaZ17MirRev
import Derived.Test.YtlaofcgllchedaaZ23UnfO
import Derived.Test.YtlaofcgllchedaaZ22RepR
import Derived.Deep.QuietTactic

/-
  A sound tree's counts are small, its leaves bare. Plain.
-/
namespace Go.Proofs.Ytlaofcgllchedaa
set_option linter.unusedVariables false

theorem okV_of : ∀ (n : Nat) (t : Tree) (d : Int), SizeOf.sizeOf t ≤ n → OkA t d → OkV t
  | 0, t, d, h, _ => by obtain ⟨k, r, a, l, m, x, z, i, nn⟩ := t; simp at h
  | n + 1, t, d, hn, h => by
    obtain ⟨h1, h2, h3⟩ := h.top
    refine OkV.of ?_ (fun x hx => ?_)
    · rcases h1 with ⟨h7, hb⟩ | ⟨h7, hl, -⟩
      · obtain ⟨k1, k2, k3, k4⟩ := nodeB_kind hb
        refine ⟨fun hk => ?_, fun hk => ?_⟩
        · obtain ⟨a, b, c, e⟩ := k4 hk
          omega
        · unfold nodeB at hb
          rcases (by omega : t.kind = 1 ∨ t.kind = 2 ∨ t.kind = 3) with hk | hk | hk <;> simp [hk] at hb <;> simp [hb]
      · exact ⟨fun hk => by omega, fun hk => by omega⟩
    · obtain ⟨i, hi⟩ := List.mem_iff_getElem?.1 hx
      exact okV_of n x (d + 1) (by have := Tree.sub_lt hx; omega) (h3 i x hi)
end Go.Proofs.Ytlaofcgllchedaa

/-
  The walk of heronref06.Greatest: the greatest Index of a tree.
-/
namespace Go.Proofs.Ytlaofcgllchedaa
open Go.RowKit
set_option linter.unusedVariables false

mutual
def grtT : Tree → Int
  | .mk k rs am subs mn mx lz ix nm => grtL ix subs
def grtL : Int → List Tree → Int
  | n, [] => n
  | n, t :: l => grtL (max n (grtT t)) l
end
theorem grtT_eq (t : Tree) : grtT t = grtL t.ix t.subs := by
  obtain ⟨k, rs, am, subs, mn, mx, lz, ix, nm⟩ := t
  rw [grtT]
  rfl
set_option maxRecDepth 100000 in
set_option maxHeartbeats 4000000 in
theorem greatest_go (n : Nat) : ∀ (t : Tree) (w : World) (S : Nat → Prop) (cs : Array Value), SizeOf.sizeOf t ≤ n → NodeR w S cs t →
    Calls Try.prog 27 #[.agg cs] w fun e w' => e = .returned (.int .i64 (grtT t)) ∧ In64 (grtT t) ∧ Upd Nob w w' := by
  induction n with
  | zero => exact fun t _ _ _ h => by obtain ⟨k, r, a, l, m, x, z, i, nn⟩ := t; simp at h
  | succ n ih =>
  intro t w S cs hn h1
  obtain ⟨RA, rc, SA, sc, rfl, hr1, ho, hs1⟩ := h1.top
  have C0 := Cells.new w 30 (nodeCells t RA rc SA sc)
  have hU := (Upd.refl Nob w).alloc (.cells (nodeCells t RA rc SA sc) 30)
  have IH := hideP ih
  have HN := hideP hn
  have H1 := hideP (h1.upd_ hU (fun _ _ => not_nob))
  have hnl := ho.n
  have HIX := hideP ho.i
  have HE := hideP (grtT_eq t)
  clear ih hn h1 hr1 hs1 ho
  unfold nodeCells at C0 hU H1
  unfold nodeCells
  go_enter Try.func27, Try.ntmps27
  go_upto_region 1 with fail
  generalize w.alloc (.cells #[.int .i64 t.kind, .slice RA t.rs.length rc, .int .i64 t.am, .slice SA t.subs.length sc, .int .i64 t.mn, .int .i64 t.mx, .bool t.lz, .int .i64 t.ix, .string t.nm] 30) = w2 at *
  have HU := hideP hU
  have HC := hideP C0
  obtain ⟨e0, e1, e2, e3, e4, e5, e6, e7, e8⟩ := nineN C0
  clear C0 hU
  go_wp2_with fail
  go_loopg [3, 4] t.subs.length (fun gk v3 v4 wr => ∃ (k : Nat) (v : Int), k + gk = t.subs.length ∧ v4 = .int .i64 (k : Int) ∧ v3 = .int .i64 v ∧ In64 v ∧ grtL v (t.subs.drop k) = grtT t ∧ Upd Nob w2 wr)
  case atStart => exact ⟨0, t.ix, by omega, rfl, rfl, HIX.out, by rw [List.drop_zero, HE.out], Upd.refl _ _⟩
  case round =>
    obtain ⟨k, v, hk, rfl, rfl, hv, hgr, hUr⟩ := hrel
    have b3 : wr.cell? ⟨w.heap.size, 0 + 3, none⟩ = some (.slice SA t.subs.length sc) := (HC.out.upd hUr not_nob).cellv rfl
    have HUr := hideP hUr
    have HV := hideP hv
    have HGR := hideP hgr
    have HK := hideP hk
    by_cases hlt : k < t.subs.length
    · have g2 : (k : Int) < (t.subs.length : Int) := by omega
      obtain ⟨ad, g, o, x, PA, pc, QA, qc, rfl, hadd, hSg, hgl, hx, hX, hlx, hcs⟩ := NodeR.sub H1.out.open_.2.2 hlt
      obtain ⟨p0, p1, p2, p3, p4, p5, p6, p7, p8⟩ := sub_cells (fun j v hv => (hUr.cell (p := ⟨g, o + j, none⟩) hgl not_nob).trans (hcs j v hv))
      have hxn : SizeOf.sizeOf x ≤ n := by have := HN.out; omega
      have HX := hideP (hX.upd_ hUr (fun _ _ => not_nob))
      have hd : t.subs.drop k = x :: t.subs.drop (k + 1) := by
        rw [List.drop_eq_getElem_cons hlt]
        congr 1
        rw [List.getElem?_eq_getElem hlt] at hx
        injection hx
      rw [hd, grtL] at hgr
      have HGR := hideP hgr
      clear hcs hX hlx hx hd hgr hUr hv hk
      go_wp2_with (go_at_call 27; refine (IH.out x wr _ _ hxn HX.out).mono ?_; rintro e w5 ⟨rfl, hi5, hU5⟩; have HI5 := hideP hi5; have HU5 := hideP (HUr.out.trans hU5 (fun _ _ h => h)); clear hi5 hU5)
      · go_roundg (t.subs.length - (k + 1))
        case measure => have := HK.out; omega
        case rel => exact ⟨k + 1, grtT x, by have := HK.out; omega, by go_num, rfl, HI5.out, by have h := HGR.out; rwa [show max v (grtT x) = grtT x by omega] at h, HU5.out⟩
      · go_roundg (t.subs.length - (k + 1))
        case measure => have := HK.out; omega
        case rel => exact ⟨k + 1, v, by have := HK.out; omega, by go_num, rfl, HV.out, by have h := HGR.out; rwa [show max v (grtT x) = v by omega] at h, HU5.out⟩
    · have g2 : ¬ (k : Int) < (t.subs.length : Int) := by omega
      rw [List.drop_eq_nil_of_le (by omega), grtL] at hgr
      have HGR := hideP hgr
      clear hUr hv hgr hk
      go_wp2_with fail
      go_ret
      rw [← HGR.out]
      exact ⟨rfl, HV.out, HU.out.trans HUr.out (fun _ _ h => h)⟩
end Go.Proofs.Ytlaofcgllchedaa
