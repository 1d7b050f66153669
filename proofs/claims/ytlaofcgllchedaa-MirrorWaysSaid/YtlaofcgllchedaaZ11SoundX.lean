/-
  MirLaw, SoundX, put together.
-/
import Derived.Test.YtlaofcgllchedaaZ10SoundG
import Derived.Test.YtlaofcgllchedaaZ06NameX

/-
  Plain laws of the mirror: it is sound, without groups, no greater; twice it is the tree.
-/
namespace Go.Proofs.Ytlaofcgllchedaa
open Go.RowKit
set_option linter.unusedVariables false

theorem OkA.mono : ∀ (n : Nat) (t : Tree) (d e : Int), SizeOf.sizeOf t ≤ n → OkA t d → e ≤ d → OkA t e
  | 0, t, _, _, h, _, _ => absurd h (size_pos t)
  | n + 1, t, d, e, hn, ho, he => by
    obtain ⟨h1, h2, h3⟩ := ho.top
    exact OkA.of h1 (by omega) (fun i x hx => OkA.mono n x (d + 1) (e + 1) (by
      have := Tree.sub_lt (List.mem_of_getElem? hx)
      omega) (h3 i x hx) (by omega))
theorem flip_as {x : Int} (h : asB x = true) : asB (flipP x 6) = true ∧ flipP (flipP x 6) 6 = x := by
  unfold asB at h
  have h := of_decide_eq_true h
  rcases h with rfl | rfl | rfl | rfl | rfl | rfl <;> exact ⟨by decide +kernel, by decide +kernel⟩
/-- what a node of a sound tree that is no group holds -/
theorem nodeB_facts {t : Tree} (h : nodeB t = true) : t.ix = 0 ∧ t.nm.toList.isEmpty = true ∧ (t.kind = 3 → asB t.am = true) := by
  by_cases k1 : t.kind = 1
  · rw [nb1 k1] at h
    simp [plainB, countB, groupB] at h
    exact ⟨h.2.2.2.1, by simpa using h.2.2.2.2, fun k => by omega⟩
  by_cases k2 : t.kind = 2
  · rw [nb2 k2] at h
    simp [countB, groupB] at h
    exact ⟨h.2.2.2.1.1, by simpa using h.2.2.2.1.2, fun k => by omega⟩
  by_cases k3 : t.kind = 3
  · rw [nb3 k3] at h
    simp [countB, groupB] at h
    exact ⟨h.2.2.2.1.1, by simpa using h.2.2.2.1.2, fun _ => h.2.2.2.2⟩
  by_cases k4 : t.kind = 4 ∨ t.kind = 5
  · rw [nb4 k4] at h
    simp [plainB, countB, groupB] at h
    exact ⟨h.2.2.2.1, by simpa using h.2.2.2.2, fun k => by omega⟩
  by_cases k6 : t.kind = 6
  · rw [nb6 k6] at h
    simp [plainB, groupB] at h
    exact ⟨h.2.2.1.1, by simpa using h.2.2.1.2, fun k => by omega⟩
  · rw [nb0 (by omega)] at h
    cases h
theorem nm_empty {b : ByteArray} (h : b.toList.isEmpty = true) : b = ByteArray.empty := by
  rw [ByteArray.toList_eq] at h
  obtain ⟨⟨l⟩⟩ := b
  cases l with
  | nil => rfl
  | cons x l => simp at h

theorem mir_fields {t : Tree} (h7 : t.kind ≠ 7) : (mirT t).kind = t.kind ∧ (mirT t).rs = t.rs ∧ (mirT t).am = (if t.kind = 3 then flipP t.am 6 else t.am) ∧ (mirT t).subs = mirS t ∧ (mirT t).mn = t.mn ∧ (mirT t).mx = t.mx ∧ (mirT t).lz = t.lz ∧ (mirT t).ix = 0 ∧ (mirT t).nm = ByteArray.empty := by
  rw [mirT_node h7]
  exact ⟨rfl, rfl, rfl, rfl, rfl, rfl, rfl, rfl, rfl⟩
theorem empty_is : (ByteArray.empty).toList.isEmpty = true := by decide +kernel
theorem mir_node {t : Tree} (h7 : t.kind ≠ 7) (h : nodeB t = true) : nodeB (mirT t) = true := by
  obtain ⟨f1, f2, f3, f4, f5, f6, f7, f8, f9⟩ := mir_fields h7
  have hl : (mirT t).subs.length = t.subs.length := by rw [f4, mirS_len]
  have hc : countB (mirT t) = countB t := by unfold countB; rw [f5, f6, f7]
  have hg : groupB (mirT t) = true := by unfold groupB; rw [f8, f9, empty_is]; rfl
  have hp : t.kind ≠ 3 → plainB (mirT t) = plainB t := fun h3 => by unfold plainB; rw [f2, f3, if_neg h3]
  by_cases k1 : t.kind = 1
  · rw [nb1 k1] at h
    rw [nb1 (by omega), hl, hc, hg, hp (by omega)]
    simp at h ⊢
    exact ⟨h.1, h.2.1, h.2.2.1⟩
  by_cases k2 : t.kind = 2
  · rw [nb2 k2] at h
    rw [nb2 (by omega), hl, hc, hg, f2, f3, if_neg (by omega)]
    simp at h ⊢
    exact ⟨h.1, h.2.1, h.2.2.1, h.2.2.2.2⟩
  by_cases k3 : t.kind = 3
  · have ha := (flip_as ((nodeB_facts h).2.2 k3)).1
    rw [nb3 k3] at h
    rw [nb3 (by omega), hl, hc, hg, f2, f3, if_pos k3, ha]
    simp at h ⊢
    exact ⟨h.1, h.2.1, h.2.2.1⟩
  by_cases k4 : t.kind = 4 ∨ t.kind = 5
  · rw [nb4 k4] at h
    rw [nb4 (by omega), hl, hc, hg, hp (by omega)]
    simp at h ⊢
    exact ⟨h.1, h.2.1, h.2.2.1⟩
  by_cases k6 : t.kind = 6
  · rw [nb6 k6] at h
    rw [nb6 (by omega), hl, hg, hp (by omega), f5, f6]
    simp at h ⊢
    exact ⟨h.1, h.2.1, h.2.2.2⟩
  · rw [nb0 (by omega)] at h
    cases h
theorem cntL_mir : ∀ (l : List Tree), (∀ x ∈ l, cntT (mirT x) ≤ cntT x) → cntL (mirL l) ≤ cntL l
  | [], _ => by simp [mirL, cntL]
  | t :: l, h => by
    have h1 := h t List.mem_cons_self
    have h2 := cntL_mir l (fun x hx => h x (List.mem_cons_of_mem _ hx))
    rw [mirL]
    simp only [cntL]
    omega
theorem cntL_rev : ∀ l : List Tree, cntL l.reverse = cntL l
  | [] => rfl
  | t :: l => by rw [List.reverse_cons, cntL_append, cntL_rev l]; simp only [cntL]; omega
theorem mir_ok : ∀ (n : Nat) (t : Tree) (d : Int), SizeOf.sizeOf t ≤ n → OkA t d → OkA (mirT t) d ∧ NoG (mirT t) ∧ cntT (mirT t) ≤ cntT t
  | 0, t, _, h, _ => absurd h (size_pos t)
  | n + 1, t, d, hn, ho => by
    obtain ⟨h1, h2, h3⟩ := ho.top
    have hsub : ∀ (i : Nat) x, t.subs[i]? = some x → OkA (mirT x) (d + 1) ∧ NoG (mirT x) ∧ cntT (mirT x) ≤ cntT x := fun i x hx => mir_ok n x (d + 1) (by
      have := Tree.sub_lt (List.mem_of_getElem? hx)
      omega) (h3 i x hx)
    have hct := cntT_eq t
    rcases h1 with ⟨h7, hb⟩ | ⟨h7, hs, hr⟩
    · obtain ⟨f1, f2, f3, f4, f5, f6, f7, f8, f9⟩ := mir_fields h7
      refine ⟨OkA.of (.inl ⟨by rw [f1]; exact h7, mir_node h7 hb⟩) h2 (fun i y hy => ?_), NoG.of (by rw [f1]; exact h7) (fun i y hy => ?_), ?_⟩
      · rw [f4] at hy
        obtain ⟨j, x, hx, _, rfl⟩ := mirS_from hy
        exact (hsub j x hx).1
      · rw [f4] at hy
        obtain ⟨j, x, hx, _, rfl⟩ := mirS_from hy
        exact (hsub j x hx).2.1
      · have h4 : cntL (mirL t.subs) ≤ cntL t.subs := cntL_mir _ (fun x hx => by
          obtain ⟨i, hi⟩ := List.mem_iff_getElem?.1 hx
          exact (hsub i x hi).2.2)
        rw [cntT_eq, f4]
        unfold mirS
        split
        · rw [cntL_rev]
          omega
        · omega
    · have hx := List.getElem?_eq_getElem (show 0 < t.subs.length by omega)
      obtain ⟨a, b, c⟩ := hsub 0 _ hx
      rw [mirT_group h7 hx]
      have := cntL_mem hx
      exact ⟨OkA.mono _ _ _ _ (Nat.le_refl _) a (by omega), b, by omega⟩
theorem mir_sound {t : Tree} (h : SoundOk t) : SoundOk (mirT t) ∧ NoG (mirT t) := by
  obtain ⟨a, b, c⟩ := mir_ok _ t 1 (Nat.le_refl _) h.1
  exact ⟨⟨a, by have := h.2; omega⟩, b⟩
theorem mir_twice : ∀ (n : Nat) (t : Tree) (d : Int), SizeOf.sizeOf t ≤ n → OkA t d → NoG t → mirT (mirT t) = t
  | 0, t, _, h, _, _ => absurd h (size_pos t)
  | n + 1, t, d, hn, ho, hg => by
    obtain ⟨h1, h2, h3⟩ := ho.top
    obtain ⟨h7, hgs⟩ := hg.top
    have hb : nodeB t = true := by
      rcases h1 with ⟨_, h⟩ | ⟨h, _⟩
      · exact h
      · exact absurd h h7
    obtain ⟨b1, b2, b3⟩ := nodeB_facts hb
    have hsub : ∀ x ∈ t.subs, mirT (mirT x) = x := fun x hx => by
      obtain ⟨i, hi⟩ := List.mem_iff_getElem?.1 hx
      exact mir_twice n x (d + 1) (by have := Tree.sub_lt hx; omega) (h3 i x hi) (hgs i x hi)
    obtain ⟨f1, f2, f3, f4, f5, f6, f7, f8, f9⟩ := mir_fields h7
    have hmap : (t.subs.map mirT).map mirT = t.subs := by
      rw [List.map_map]
      exact (List.map_congr_left (fun x hx => hsub x hx)).trans (List.map_id _)
    have hS : mirS (mirT t) = t.subs := by
      unfold mirS
      rw [f1, f4]
      unfold mirS
      by_cases k4 : t.kind = 4
      · rw [if_pos k4, if_pos k4, mirL_map, mirL_map, List.map_reverse, List.reverse_reverse]
        exact hmap
      · rw [if_neg k4, if_neg k4, mirL_map, mirL_map]
        exact hmap
    have hA : (if (mirT t).kind = 3 then flipP (mirT t).am 6 else (mirT t).am) = t.am := by
      rw [f1, f3]
      by_cases k3 : t.kind = 3
      · rw [if_pos k3, if_pos k3]
        exact (flip_as (b3 k3)).2
      · rw [if_neg k3, if_neg k3]
    rw [mirT_node (by rw [f1]; exact h7), f1, f2, f5, f6, f7, hS]
    rw [f1] at hA
    rw [hA]
    have he := nm_empty b2
    obtain ⟨k, r, a, l, m, mx, z, i, nn⟩ := t
    simp only [Tree.ix, Tree.nm] at b1 he
    subst b1 he
    rfl
end Go.Proofs.Ytlaofcgllchedaa

/-
  Trees that may be, exactly; printer.Sound and mirror.Mirror say yes to them.
-/
namespace Go.Proofs.Ytlaofcgllchedaa
open Go.RowKit
set_option linter.unusedVariables false

/-- every node may be, groups and all, from level d on -/
def OkF (t : Tree) (d : Int) : Prop :=
  nodeF t ∧ d ≤ 10000 ∧ ∀ i (h : i < t.subs.length), OkF t.subs[i] (d + 1)
termination_by SizeOf.sizeOf t
decreasing_by exact Tree.sub_lt (List.getElem_mem h)
theorem OkF.top {t : Tree} {d : Int} (h : OkF t d) : nodeF t ∧ d ≤ 10000 ∧ ∀ (i : Nat) x, t.subs[i]? = some x → OkF x (d + 1) := by
  rw [OkF] at h
  exact ⟨h.1, h.2.1, fun i x hx => by obtain ⟨hi, rfl⟩ := List.getElem?_eq_some_iff.1 hx; exact h.2.2 i hi⟩
theorem OkF.of {t : Tree} {d : Int} (h1 : nodeF t) (h2 : d ≤ 10000) (h3 : ∀ (i : Nat) x, t.subs[i]? = some x → OkF x (d + 1)) : OkF t d := by
  rw [OkF]
  exact ⟨h1, h2, fun i hi => h3 i _ (List.getElem?_eq_getElem hi)⟩
theorem nodeF_ok {t : Tree} (h : nodeF t) : nodeOk t := by
  rcases h with h | ⟨h7, hg⟩
  · exact .inl h
  · refine .inr ⟨h7, hg.2.1, ?_⟩
    have := hg.1
    unfold plainB at this
    simp at this
    simp [this.1]
theorem OkF.okA : ∀ (n : Nat) (t : Tree) (d : Int), SizeOf.sizeOf t ≤ n → OkF t d → OkA t d
  | 0, t, _, h, _ => absurd h (size_pos t)
  | n + 1, t, d, hn, ho => by
    obtain ⟨h1, h2, h3⟩ := ho.top
    exact OkA.of (nodeF_ok h1) h2 (fun i x hx => OkF.okA n x (d + 1) (by have := Tree.sub_lt (List.mem_of_getElem? hx); omega) (h3 i x hx))
/-- a tree that may be -/
def SoundF (t : Tree) : Prop := OkF t 1 ∧ cntT t ≤ 200000
theorem SoundF.ok {t : Tree} (h : SoundF t) : SoundOk t := ⟨OkF.okA _ t 1 (Nat.le_refl _) h.1, h.2⟩
theorem nodeF_yes (t : Tree) (w : World) (S : Nat → Prop) (cs : Array Value) (hf : nodeF t) (h1 : NodeR w S cs t) :
    Calls Try.prog 29 #[.agg cs] w fun e w' => e = .returned (.bool true) ∧ Upd Nob w w' := by
  rcases hf with ⟨h7, hb⟩ | ⟨h7, hg⟩
  · refine (node_any t w S cs h1).mono ?_
    rintro e w' ⟨r, rfl, hp, hU⟩
    exact ⟨by rw [hp.1 h7, hb], hU⟩
  · exact node_grp t w S cs h7 hg h1

set_option maxRecDepth 100000 in
set_option maxHeartbeats 8000000 in
theorem soundF_go (n : Nat) : ∀ (t : Tree) (w : World) (S : Nat → Prop) (cs : Array Value) (l : Nat) (d : Int) (lb : Nat), SizeOf.sizeOf t ≤ n → OkF t d → NodeR w S cs t → (∀ k, S k → k ≠ lb) → Cells w lb 3 #[.int .i64 (l : Int)] → cntT t ≤ l → l ≤ 200000 → 0 ≤ d →
    Calls Try.prog 22 #[.agg cs, .int .i64 d, .pointer (some ⟨lb, 0, none⟩)] w fun e w' => e = .returned (.bool true) ∧ Cells w' lb 3 #[.int .i64 ((l - cntT t : Nat) : Int)] ∧ Upd (fun b => b = lb) w w' := by
  induction n with
  | zero => exact fun t _ _ _ _ _ _ h => absurd h (size_pos t)
  | succ n ih =>
  intro t w S cs l d lb hn hok h1 hSl hl hc hl2 hd0
  obtain ⟨RA, rc, SA, sc, rfl, hr1, ho, hs1⟩ := h1.top
  obtain ⟨k1, hd, k4⟩ := hok.top
  have C0 := Cells.new w 30 (nodeCells t RA rc SA sc)
  have hU := (Upd.refl Nob w).alloc (.cells (nodeCells t RA rc SA sc) 30)
  have hlb := hl.lt
  have hl0 := hl.upd hU not_nob
  have hct := cntT_eq t
  have HCT := hideP hct
  have IH := hideP ih
  have HN := hideP hn
  have HK := hideP k1
  have HK4 := hideP k4
  have H1 := hideP (h1.upd_ hU (fun _ _ => not_nob))
  have HSL := hideP hSl
  have hnl := ho.n
  clear ih hn h1 hr1 hs1 ho k1 k4 hok hSl hl hct
  have e0 : (w.alloc (.cells (nodeCells t RA rc SA sc) 30)).cell? ⟨lb, 0, none⟩ = some (.int .i64 (l : Int)) := hl0.cellv rfl
  have f0 : (w.alloc (.cells (nodeCells t RA rc SA sc) 30)).frozen? ⟨lb, 0, none⟩ = false := hl0.frozen _
  unfold nodeCells at C0 hU H1 e0 f0 hl0
  unfold nodeCells
  go_enter Try.func22, Try.ntmps22
  go_upto_region 1 with fail
  generalize w.alloc (.cells #[.int .i64 t.kind, .slice RA t.rs.length rc, .int .i64 t.am, .slice SA t.subs.length sc, .int .i64 t.mn, .int .i64 t.mx, .bool t.lz, .int .i64 t.ix, .string t.nm] 30) = w2 at *
  obtain ⟨l', hl'⟩ : ∃ l' : Nat, (l : Int) - 1 = (l' : Int) ∧ l = l' + 1 := ⟨l - 1, by have := HCT.out; omega, by have := HCT.out; omega⟩
  have hlm := hl'.1
  have HLE := hideP hl'.2
  have HC0 := hideP C0
  have HU := hideP hU
  have hbl : w.heap.size ≠ lb := by omega
  have HL0 := hideP hl0
  clear C0 hU hl' hl0
  go_upto_region 2 with fail
  have HL3 := hideP (HL0.out.set_ 0 (.int .i64 (l' : Int)))
  have hU3 := (Upd.refl (fun b => b = lb) w2).setCell ⟨lb, 0, none⟩ (.int .i64 (l' : Int)) (fun _ => rfl)
  have HU3 := hideP hU3
  clear hU3 e0 f0
  generalize w2.setCell ⟨lb, 0, none⟩ (.int .i64 (l' : Int)) = w3 at *
  have HC3 := hideP (HC0.out.upd HU3.out hbl)
  have HN3 := hideP (H1.out.upd_ HU3.out HSL.out)
  have e0 : w3.cell? ⟨lb, 0, none⟩ = some (.int .i64 (l' : Int)) := HL3.out.cellv rfl
  obtain ⟨n0, n1, n2, n3, n4, n5, n6, n7, n8⟩ := nine HC3.out
  have g0 : ¬ (l' : Int) < 0 := by omega
  have g1 : ¬ (10000 : Int) < d := by omega
  go_wp2_with (go_at_call 29; refine (nodeF_yes t _ _ _ HK.out HN3.out).mono ?_; rintro e w4 ⟨rfl, hU4⟩; have m3 : w4.cell? ⟨w.heap.size, 0 + 3, none⟩ = some (.slice SA t.subs.length sc) := (HC3.out.upd hU4 not_nob).cellv rfl)
  have HN4 := hideP (HN3.out.upd_ hU4 (fun _ _ => not_nob)).open_.2.2
  have HL4 := hideP (HL3.out.upd hU4 not_nob)
  have HU4 := hideP (HU3.out.trans hU4 (fun _ _ h => absurd h not_nob))
  clear hU4 n0 n1 n2 n3 n4 n5 n6 n7 n8 e0 m3
  go_loopg [30] t.subs.length (fun gk v30 wr => ∃ k : Nat, k + gk = t.subs.length ∧ v30 = .int .i64 (k : Int) ∧ Cells wr lb 3 #[.int .i64 ((l' - cntL (t.subs.take k) : Nat) : Int)] ∧ Upd (fun b => b = lb) w4 wr)
  case atStart => exact ⟨0, by omega, rfl, HL4.out, Upd.refl _ _⟩
  case round =>
    obtain ⟨k, hk, rfl, hL, hUr⟩ := hrel
    by_cases hlt : k < t.subs.length
    · have g2 : (k : Int) < (t.subs.length : Int) := by omega
      obtain ⟨ad, g, o, x, PA, pc, QA, qc, rfl, hadd, hSg, hg, hx, hX, hlx, hcs⟩ := NodeR.sub HN4.out hlt
      have up : ∀ (a : Addr) v, a.block < w4.heap.size → a.block ≠ lb → w4.cell? a = some v → wr.cell? a = some v := fun a v hb hne ha => (hUr.cell hb hne).trans ha
      obtain ⟨p0, p1, p2, p3, p4, p5, p6, p7, p8⟩ := sub_cells (fun j v hv => up ⟨g, o + j, none⟩ v hg (HSL.out g hSg) (hcs j v hv))
      have hxn : SizeOf.sizeOf x ≤ n := by have := HN.out; omega
      have hUa := (Upd.refl Nob wr).alloc (.cells (nodeCells x PA pc QA qc) 30)
      have HX := hideP ((hX.upd_ hUr HSL.out).upd_ hUa (fun _ _ => not_nob))
      have HOX := hideP (HK4.out k x hx)
      have hst := cntL_step hx
      have htk := cntL_take t.subs (k + 1)
      have q1 : cntT x ≤ l' - cntL (t.subs.take k) := by have := HCT.out; have := HLE.out; omega
      have q2 : l' - cntL (t.subs.take k) ≤ 200000 := by have := HLE.out; omega
      have HST := hideP hst
      clear hst htk
      have HLa := hideP (hL.upd hUa not_nob)
      have CX := Cells.new wr 30 (nodeCells x PA pc QA qc)
      have HUa := hideP (hUr.trans hUa (fun _ _ h => absurd h not_nob))
      clear up hcs hX hx hlx hL hUr hUa
      unfold nodeCells at CX HX HLa HUa
      go_upto_region 7 with fail
      generalize wr.alloc (.cells #[.int .i64 x.kind, .slice PA x.rs.length pc, .int .i64 x.am, .slice QA x.subs.length qc, .int .i64 x.mn, .int .i64 x.mx, .bool x.lz, .int .i64 x.ix, .string x.nm] 30) = w5 at *
      obtain ⟨y0, y1, y2, y3, y4, y5, y6, y7, y8⟩ := nine CX
      have HK5 := hideP hk
      clear p0 p1 p2 p3 p4 p5 p6 p7 p8 hk CX
      have vw : IntKind.i64.wrap (d + 1) = d + 1 := by rw [IntKind.wrap_i64]; omega
      go_wp2_with fail
      refine (IH.out x w5 S _ (l' - cntL (t.subs.take k)) (d + 1) lb hxn HOX.out HX.out HSL.out HLa.out q1 q2 (by omega)).mono ?_
      rintro e w6 ⟨rfl, hL6, hU6⟩
      have HL6 := hideP hL6
      have HU6 := hideP (HUa.out.trans hU6 (fun _ _ h => h))
      clear hL6 hU6 y0 y1 y2 y3 y4 y5 y6 y7 y8
      go_wp2_with fail
      have hk := HK5.out
      go_roundg (t.subs.length - (k + 1))
      case measure => omega
      case rel => exact ⟨k + 1, by omega, by go_num, by rw [HST.out, ← Nat.sub_sub]; exact HL6.out, HU6.out⟩
    · have g2 : ¬ (k : Int) < (t.subs.length : Int) := by omega
      obtain rfl : k = t.subs.length := by omega
      have HLZ := hideP hL
      have HUZ := hideP hUr
      clear hL hUr
      go_wp2_with fail
      go_ret
      refine ⟨rfl, ?_, (((HU.out.mono (G := fun b => b = lb) (fun _ _ h => absurd h not_nob))).trans HU4.out (fun _ _ h => h)).trans HUZ.out (fun _ _ h => h)⟩
      rw [show l - cntT t = l' - cntL (t.subs.take t.subs.length) by rw [List.take_length]; have := HCT.out; have := HLE.out; omega]
      exact HLZ.out

set_option maxRecDepth 100000 in
set_option maxHeartbeats 4000000 in
theorem SoundF_yes (t : Tree) (w : World) (S : Nat → Prop) (cs : Array Value) (hok : OkF t 1) (hc : cntT t ≤ 200000) (h1 : NodeR w S cs t) :
    Calls Try.prog 18 #[.agg cs] w fun e w' => e = .returned (.int .i64 0) ∧ Upd Nob w w' := by
  have h1 := h1.lower
  obtain ⟨RA, rc, SA, sc, rfl, hr1, ho, hs1⟩ := h1.top
  have HO := hideP hok
  have HN := hideP h1
  clear h1 hr1 hs1 ho hok
  unfold nodeCells at HN ⊢
  go_enter Try.func18, Try.ntmps18
  go_wp2_with fail
  have hU2 := ((Upd.refl Nob w).alloc (.cells #[.int .i64 t.kind, .slice RA t.rs.length rc, .int .i64 t.am, .slice SA t.subs.length sc, .int .i64 t.mn, .int .i64 t.mx, .bool t.lz, .int .i64 t.ix, .string t.nm] 30)).alloc (.cells #[.int .i64 200000] 3)
  have CL := Cells.new (w.alloc (.cells #[.int .i64 t.kind, .slice RA t.rs.length rc, .int .i64 t.am, .slice SA t.subs.length sc, .int .i64 t.mn, .int .i64 t.mx, .bool t.lz, .int .i64 t.ix, .string t.nm] 30)) 3 #[.int .i64 200000]
  rw [World.size_alloc] at CL
  refine (soundF_go _ t _ _ _ 200000 1 (w.heap.size + 1) (Nat.le_refl _) HO.out (HN.out.upd_ hU2 (fun _ _ => not_nob)) (fun k hk => by omega) CL hc (by omega) (by omega)).mono ?_
  rintro e w3 ⟨rfl, -, hU3⟩
  have HU3 := hideP (hU2.trans hU3 (fun b hb h => by omega))
  clear hU2 CL hU3
  go_wp2_with fail
  go_ret
  exact ⟨rfl, HU3.out⟩

set_option maxRecDepth 100000 in
set_option maxHeartbeats 4000000 in
theorem mirrorF_yes (t : Tree) (w : World) (S : Nat → Prop) (cs : Array Value) (hso : SoundF t) (h1 : NodeR w S cs t) :
    Calls Try.prog 11 #[.agg cs] w fun e w' => ∃ cs', e = .returned (.tuple #[.agg cs', .int .i64 0]) ∧ NodeR w' (fun b => w.heap.size ≤ b) cs' (mirT t) ∧ Upd Nob w w' := by
  have h1 := h1.lower
  obtain ⟨RA, rc, SA, sc, rfl, hr1, ho, hs1⟩ := h1.top
  have HO := hideP hso.1
  have hc := hso.2
  have HN := hideP h1
  have HF := hideP (fine_of _ t _ (Nat.le_refl _) hso.ok.1 hso.ok.2)
  clear h1 hr1 hs1 ho hso
  unfold nodeCells at HN ⊢
  go_enter Try.func11, Try.ntmps11
  go_upto_region 1 with fail
  have C0 := (Cells.new w 30 #[.int .i64 t.kind, .slice RA t.rs.length rc, .int .i64 t.am, .slice SA t.subs.length sc, .int .i64 t.mn, .int .i64 t.mx, .bool t.lz, .int .i64 t.ix, .string t.nm]).alloc (.cells #[.int .i64 0, .slice none 0 0, .int .i64 0, .slice none 0 0, .int .i64 0, .int .i64 0, .bool false, .int .i64 0, .string ⟨#[]⟩] 30)
  have C1 := Cells.new (w.alloc (.cells #[.int .i64 t.kind, .slice RA t.rs.length rc, .int .i64 t.am, .slice SA t.subs.length sc, .int .i64 t.mn, .int .i64 t.mx, .bool t.lz, .int .i64 t.ix, .string t.nm] 30)) 30 #[.int .i64 0, .slice none 0 0, .int .i64 0, .slice none 0 0, .int .i64 0, .int .i64 0, .bool false, .int .i64 0, .string ⟨#[]⟩]
  rw [World.size_alloc] at C1
  have hU := ((Upd.refl Nob w).alloc (.cells #[.int .i64 t.kind, .slice RA t.rs.length rc, .int .i64 t.am, .slice SA t.subs.length sc, .int .i64 t.mn, .int .i64 t.mx, .bool t.lz, .int .i64 t.ix, .string t.nm] 30)).alloc (.cells #[.int .i64 0, .slice none 0 0, .int .i64 0, .slice none 0 0, .int .i64 0, .int .i64 0, .bool false, .int .i64 0, .string ⟨#[]⟩] 30)
  generalize (w.alloc (.cells #[.int .i64 t.kind, .slice RA t.rs.length rc, .int .i64 t.am, .slice SA t.subs.length sc, .int .i64 t.mn, .int .i64 t.mx, .bool t.lz, .int .i64 t.ix, .string t.nm] 30)).alloc (.cells #[.int .i64 0, .slice none 0 0, .int .i64 0, .slice none 0 0, .int .i64 0, .int .i64 0, .bool false, .int .i64 0, .string ⟨#[]⟩] 30) = w2 at *
  have hlow := C1.lt
  obtain ⟨e0, e1, e2, e3, e4, e5, e6, e7, e8⟩ := nine C0
  have HC0 := hideP C0
  have HC1 := hideP C1
  have HU := hideP hU
  clear C0 C1 hU
  go_wp2_with fail
  refine (SoundF_yes t w2 _ _ HO.out hc (HN.out.upd_ HU.out (fun _ _ => not_nob))).mono ?_
  rintro e w3 ⟨rfl, hU3⟩
  obtain ⟨d0, d1, d2, d3, d4, d5, d6, d7, d8⟩ := nine (HC0.out.upd hU3 not_nob)
  have HC3 := hideP (HC1.out.upd hU3 not_nob)
  have HU3 := hideP (HU.out.trans hU3 (fun _ _ h => h))
  have hsz3 := hU3.size
  clear e0 e1 e2 e3 e4 e5 e6 e7 e8 hU3
  go_wp2_with fail
  refine (turned_any t w3 _ _ HF.out (HN.out.upd_ HU3.out (fun _ _ => not_nob))).mono ?_
  rintro e w4 ⟨cs', rfl, hN4, hU4⟩
  obtain ⟨PB, pd, QB, qd, rfl, -⟩ := hN4.top
  unfold nodeCells at hN4 ⊢
  have C4 := HC3.out.upd hU4 not_nob
  obtain ⟨z0, z1, z2, z3, z4, z5, z6, z7, z8⟩ := nine C4
  obtain ⟨zf0, zf1, zf2, zf3, zf4, zf5, zf6, zf7, zf8⟩ := nine_ C4
  have C9 := cells9_all C4 (.int .i64 (mirT t).kind) (.slice PB (mirT t).rs.length pd) (.int .i64 (mirT t).am) (.slice QB (mirT t).subs.length qd) (.int .i64 (mirT t).mn) (.int .i64 (mirT t).mx) (.bool (mirT t).lz) (.int .i64 (mirT t).ix) (.string (mirT t).nm)
  have hU9 := upd9 w4 (w.heap.size + 1) 0 (.int .i64 (mirT t).kind) (.slice PB (mirT t).rs.length pd) (.int .i64 (mirT t).am) (.slice QB (mirT t).subs.length qd) (.int .i64 (mirT t).mn) (.int .i64 (mirT t).mx) (.bool (mirT t).lz) (.int .i64 (mirT t).ix) (.string (mirT t).nm)
  have HN4 := hideP hN4
  have HU4 := hideP (HU3.out.trans hU4 (fun _ _ h => h))
  clear hN4 hU4 d0 d1 d2 d3 d4 d5 d6 d7 d8
  go_wp2_with fail
  show bodyPost _ _ _ _ _ (put9 w4 (w.heap.size + 1) 0 (.int .i64 (mirT t).kind) (.slice PB (mirT t).rs.length pd) (.int .i64 (mirT t).am) (.slice QB (mirT t).subs.length qd) (.int .i64 (mirT t).mn) (.int .i64 (mirT t).mx) (.bool (mirT t).lz) (.int .i64 (mirT t).ix) (.string (mirT t).nm))
  clear z0 z1 z2 z3 z4 z5 z6 z7 z8 zf0 zf1 zf2 zf3 zf4 zf5 zf6 zf7 zf8 C4
  generalize put9 w4 (w.heap.size + 1) 0 (.int .i64 (mirT t).kind) (.slice PB (mirT t).rs.length pd) (.int .i64 (mirT t).am) (.slice QB (mirT t).subs.length qd) (.int .i64 (mirT t).mn) (.int .i64 (mirT t).mx) (.bool (mirT t).lz) (.int .i64 (mirT t).ix) (.string (mirT t).nm) = wz at *
  obtain ⟨q0, q1, q2, q3, q4, q5, q6, q7, q8⟩ := nine C9
  refine bodyPost_ret (by simp [results, Try.results11, go_sem, q0, q1, q2, q3, q4, q5, q6, q7, q8]; try rfl) rfl ?_
  exact ⟨_, rfl, (HN4.out.upd_ hU9 (fun b hb => by omega)).weaken (fun b hb => by omega), HU4.out.trans hU9 (fun b hb h => by omega)⟩
end Go.Proofs.Ytlaofcgllchedaa
