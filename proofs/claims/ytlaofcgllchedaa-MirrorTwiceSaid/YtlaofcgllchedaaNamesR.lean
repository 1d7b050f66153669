/-
  The walk of heronref05.Names: how many groups.
-/
import Derived.Test.YtlaofcgllchedaaRefSound
namespace Go.Proofs.Ytlaofcgllchedaa
open Go.RowKit
set_option linter.unusedVariables false

theorem ninfo_int : (Try.prog.info? 3).map (fun i => (i.zero, i.size, i.bytes)) = some (some (.int .i64 0), 1, 8) := by kernel_rfl
theorem ninfo_string : (Try.prog.info? 9).map (fun i => (i.zero, i.size, i.bytes)) = some (some (.string ByteArray.empty), 1, 16) := by kernel_rfl
theorem own_block_ne {w : World} {b1 b2 s1 s2 n1 n2 : Nat} {e1 e2 : TypeId} {v1 v2 : Value} {xs ys : List Value} (h1 : w.ownsRow b1 e1 s1 v1 n1 xs) (h2 : w.ownsRow b2 e2 s2 v2 n2 ys) (hne : e1 ≠ e2) : ∀ k, v2.ownBlock = some k → ¬ v1.ownBlock = some k := by
  intro k hk
  obtain ⟨cur, hc, _⟩ := own_cells h2 hk
  exact own_ne h1 hc hne

mutual
/-- how many groups -/
def grpT : Tree → Nat
  | .mk k rs am subs mn mx lz ix nm => (if k = 7 then 1 else 0) + grpL subs
def grpL : List Tree → Nat
  | [] => 0
  | t :: l => grpT t + grpL l
end
theorem grpT_eq (t : Tree) : grpT t = (if t.kind = 7 then 1 else 0) + grpL t.subs := by
  obtain ⟨k, r, a, l, m, mx, z, i, n⟩ := t
  rw [grpT]
  rfl
theorem grpL_append : ∀ (l m : List Tree), grpL (l ++ m) = grpL l + grpL m
  | [], m => by simp [grpL]
  | t :: l, m => by simp only [List.cons_append, grpL, grpL_append l m]; omega
theorem grpL_step {l : List Tree} {k : Nat} {x : Tree} (hx : l[k]? = some x) : grpL (l.take (k + 1)) = grpL (l.take k) + grpT x := by
  rw [List.take_add_one, hx, grpL_append]
  simp [grpL]
theorem grpL_take (l : List Tree) (k : Nat) : grpL (l.take k) ≤ grpL l := by
  have := grpL_append (l.take k) (l.drop k)
  rw [List.take_append_drop] at this
  omega
mutual
theorem grp_cnt : ∀ t : Tree, grpT t ≤ cntT t
  | .mk k rs am subs mn mx lz ix nm => by
    have := grp_cntL subs
    rw [grpT, cntT]
    split <;> omega
theorem grp_cntL : ∀ l : List Tree, grpL l ≤ cntL l
  | [] => Nat.le_refl _
  | t :: l => by
    have := grp_cnt t
    have := grp_cntL l
    simp only [grpL, cntL]
    omega
end

/-- a row of the call's own, each element one cell -/
def OneRow (w : World) (base : Nat) (e : TypeId) (A : Option Addr) (n c : Nat) : Prop := ∃ xs, w.ownsRow base e 1 (.slice A n c) n xs ∧ ∀ u ∈ xs, u.oneCell' = true
theorem OneRow.upd {F : Nat → Prop} {w w' : World} {base : Nat} {e : TypeId} {A : Option Addr} {n c : Nat} (h : OneRow w base e A n c) (hU : Upd F w w') (hF : ∀ b, (Value.slice A n c).ownBlock = some b → ¬ F b) : OneRow w' base e A n c := by
  obtain ⟨xs, h1, h2⟩ := h
  exact ⟨xs, own_upd h1 hU hF, h2⟩
theorem OneRow.rebase {w : World} {base base' : Nat} {e : TypeId} {A : Option Addr} {n c : Nat} (h : OneRow w base e A n c) (hb : base' ≤ base) : OneRow w base' e A n c := by
  obtain ⟨xs, h1, h2⟩ := h
  exact ⟨xs, own_base h1 (fun g hg => Nat.le_trans hb (h1.lt g hg).1), h2⟩
def NamesAns (g : Nat) (w : World) (e : Ending) (w' : World) : Prop :=
  ∃ A c B d, e = .returned (.tuple #[.slice A g c, .slice B g d]) ∧ OneRow w' w.heap.size 3 A g c ∧ OneRow w' w.heap.size 9 B g d ∧ Upd Nob w w'

set_option maxRecDepth 100000 in
set_option maxHeartbeats 8000000 in
theorem names_go (n : Nat) : ∀ (t : Tree) (w : World) (S : Nat → Prop) (cs : Array Value), SizeOf.sizeOf t ≤ n → NodeR w S cs t → cntT t ≤ 200000 →
    Calls Try.prog 13 #[.agg cs] w (NamesAns (grpT t) w) := by
  induction n with
  | zero => exact fun t _ _ _ h => absurd h (size_pos t)
  | succ n ih =>
  intro t w S cs hn h1 hcn
  obtain ⟨RA, rc, SA, sc, rfl, hr1, ho, hs1⟩ := h1.top
  have C0 := Cells.new w 30 (nodeCells t RA rc SA sc)
  have hU := (Upd.refl Nob w).alloc (.cells (nodeCells t RA rc SA sc) 30)
  have IH := hideP ih
  have HN := hideP hn
  have H1 := hideP (h1.upd_ hU (fun _ _ => not_nob))
  have hnl := ho.n
  have HCT := hideP (cntT_eq t)
  have HGT := hideP (grpT_eq t)
  have HCN := hideP hcn
  clear ih hn h1 hr1 hs1 ho hcn
  unfold nodeCells at C0 hU H1
  unfold nodeCells
  obtain ⟨i0, hi0, hz0, hz1, hz2⟩ := info_parts ninfo_int
  obtain ⟨s0, hs0, hy0, hy1, hy2⟩ := info_parts ninfo_string
  generalize hP : NamesAns (grpT t) w = P
  have HP := hideP (show ∀ A c B d w', OneRow w' w.heap.size 3 A (grpT t) c → OneRow w' w.heap.size 9 B (grpT t) d → Upd Nob w w' → P (.returned (.tuple #[.slice A (grpT t) c, .slice B (grpT t) d])) w' from fun A c B d w' a b e => by rw [← hP]; exact ⟨A, c, B, d, rfl, a, b, e⟩)
  clear hP
  go_enter Try.func13, Try.ntmps13
  go_upto_region 1 with fail
  generalize w.alloc (.cells #[.int .i64 t.kind, .slice RA t.rs.length rc, .int .i64 t.am, .slice SA t.subs.length sc, .int .i64 t.mn, .int .i64 t.mx, .bool t.lz, .int .i64 t.ix, .string t.nm] 30) = w3 at *
  have HU3 := hideP hU
  have HC3 := hideP C0
  have HN3 := hideP H1.out.open_.2.2
  have hs3 := hU.size
  obtain ⟨e0, e1, e2, e3, e4, e5, e6, e7, e8⟩ := nine C0
  clear C0 hU
  generalize hgs : (if t.kind = 7 then 1 else 0 : Nat) = g0 at *
  have HGS := hideP hgs
  have hg0 : g0 ≤ 1 := by rw [← hgs]; split <;> omega
  clear hgs
  go_upto_if 11 with fail
  go_cut [4, 5] (fun v4 v5 wc => ∃ A c B d, v4 = .slice A g0 c ∧ v5 = .slice B g0 d ∧ OneRow wc w3.heap.size 3 A g0 c ∧ OneRow wc w3.heap.size 9 B g0 d ∧ Upd Nob w3 wc)
  case first =>
    by_cases h7 : t.kind = 7
    · have k7 : (t.kind == 7) = true := by simpa using h7
      have hg1 : g0 = 1 := by rw [← HGS.out, if_pos h7]
      have HG1 := hideP hg1
      clear h7 hg1
      go_upto_region 5 with (at_builtin; refine wpList_append_own_at _ rfl _ _ 22 rfl w3.heap.size 3 i0 (.int .i64 0) 1 8 Try.underlying22 hi0 hz0 hz1 hz2 rfl (by decide) (.slice none 0 0) 0 [] rfl (World.ownsRow_nil _ _ _ _) ⟨w3.heap.size, 0, none⟩ 1 1 [(.int .i64 t.ix)] rfl rfl ?d1 ?d2 ?d3 ?d4 ?d5 ?_)
      case d1 => exact World.news_of_block (cs := #[(.int .i64 t.ix)]) (t := 3) (fr := (0, 0)) (heap_alloc_new _ _)
      case d2 => first | rfl | exact ⟨rfl⟩ | trivial | (intro u hu; simp at hu; subst hu; rfl) | simp
      case d3 => unfold maxLen; omega
      case d4 => omega
      case d5 => first | (simp; done) | (simp; omega)
      intro v8 w8 o8 g8 _ _
      obtain ⟨A8, c8, rfl⟩ := own_shape o8
      have hU8 : Upd Nob w3 w8 := (((Upd.refl Nob w3).alloc (.cells #[(.int .i64 t.ix)] 3)).grown g8 (fun b hb _ => by cases hb))
      have HO8 := hideP o8
      obtain ⟨q0, q1, q2, q3, q4, q5, q6, q7, q8⟩ := nine (HC3.out.upd hU8 not_nob)
      have HU8 := hideP hU8
      have hs8 := HU8.out.size
      clear g8 hU8 o8 e0 e1 e2 e3 e4 e5 e6 e7 e8
      go_wp2_with (at_builtin; refine wpList_append_own_at _ rfl _ _ 36 rfl w3.heap.size 9 s0 (.string ByteArray.empty) 1 16 Try.underlying36 hs0 hy0 hy1 hy2 rfl (by decide) (.slice none 0 0) 0 [] rfl (World.ownsRow_nil _ _ _ _) ⟨w8.heap.size, 0, none⟩ 1 1 [(.string t.nm)] rfl rfl ?f1 ?f2 ?f3 ?f4 ?f5 ?_)
      case f1 => exact World.news_of_block (cs := #[(.string t.nm)]) (t := 9) (fr := (0, 0)) (heap_alloc_new _ _)
      case f2 => first | rfl | exact ⟨rfl⟩ | trivial | (intro u hu; simp at hu; subst hu; rfl) | simp
      case f3 => unfold maxLen; omega
      case f4 => omega
      case f5 => first | (simp; done) | (simp; omega)
      intro v9 w9 o9 g9 _ _
      obtain ⟨A9, c9, rfl⟩ := own_shape o9
      have hU9 : Upd Nob w8 w9 := (((Upd.refl Nob w8).alloc (.cells #[(.string t.nm)] 9)).grown g9 (fun b hb _ => by cases hb))
      have HO9 := hideP o9
      have HO8 := hideP (own_upd HO8.out hU9 (fun _ _ => not_nob))
      have HU9 := hideP (HU8.out.trans hU9 (fun _ _ h => h))
      clear g9 hU9 o9 q0 q1 q2 q3 q4 q5 q6 q7 q8
      go_wp2_with fail
      go_meet
      have hg1 := HG1.out
      refine ⟨A8, c8, A9, c9, by rw [hg1], by rw [hg1], ⟨_, by rw [hg1]; exact HO8.out, fun u hu => ?_⟩, ⟨_, by rw [hg1]; exact HO9.out, fun u hu => ?_⟩, HU9.out⟩
      · simp at hu; subst hu; rfl
      · simp at hu; subst hu; rfl
    · have k7 : (t.kind == 7) = false := by simpa using h7
      have hg1 : g0 = 0 := by rw [← HGS.out, if_neg h7]
      have HG1 := hideP hg1
      clear h7 hg1
      go_wp2_with fail
      go_meet
      have hg1 := HG1.out
      exact ⟨none, 0, none, 0, by rw [hg1], by rw [hg1], ⟨[], by rw [hg1]; exact World.ownsRow_nil _ _ _ _, by simp⟩, ⟨[], by rw [hg1]; exact World.ownsRow_nil _ _ _ _, by simp⟩, Upd.refl _ _⟩
  case rest =>
  obtain ⟨A0, c0, B0, d0, rfl, rfl, hA, hB, hUc⟩ := hcut
  have HA0 := hideP hA
  have HB0 := hideP hB
  have HUc := hideP hUc
  clear hA hB hUc e0 e1 e2 e3 e4 e5 e6 e7 e8
  have hgc := grp_cnt t
  have hcn := HCN.out
  have HGC := hideP hgc
  clear hgc hcn
  go_wp2_with fail
  go_loopg [4, 5, 6] t.subs.length (fun gk v4 v5 v6 wr => ∃ (k : Nat) (G : Nat) (A : Option Addr) (c : Nat) (B : Option Addr) (d : Nat), k + gk = t.subs.length ∧ G = g0 + grpL (t.subs.take k) ∧ v6 = .int .i64 (k : Int) ∧ v4 = .slice A G c ∧ v5 = .slice B G d ∧ OneRow wr w3.heap.size 3 A G c ∧ OneRow wr w3.heap.size 9 B G d ∧ Upd Nob w3 wr)
  case atStart => exact ⟨0, g0, A0, c0, B0, d0, by omega, by simp [grpL], rfl, rfl, rfl, HA0.out, HB0.out, HUc.out⟩
  case round =>
    obtain ⟨k, G, A, c, B, d, hk, hG, rfl, rfl, rfl, hA, hB, hUr⟩ := hrel
    have b3 : wr.cell? ⟨w.heap.size, 0 + 3, none⟩ = some (.slice SA t.subs.length sc) := (HC3.out.upd hUr not_nob).cellv rfl
    by_cases hlt : k < t.subs.length
    · have g2 : (k : Int) < (t.subs.length : Int) := by omega
      obtain ⟨ad, g, o, x, PA, pc, QA, qc, rfl, hadd, hSg, hgl, hx, hX, hlx, hcs⟩ := NodeR.sub HN3.out hlt
      have up : ∀ (a : Addr) v, a.block < w3.heap.size → w3.cell? a = some v → wr.cell? a = some v := fun a v hb ha => (hUr.cell hb not_nob).trans ha
      obtain ⟨p0, p1, p2, p3, p4, p5, p6, p7, p8⟩ := sub_cells (fun j v hv => up ⟨g, o + j, none⟩ v hgl (hcs j v hv))
      have hxn : SizeOf.sizeOf x ≤ n := by have := HN.out; omega
      have HX := hideP (hX.upd_ hUr (fun _ _ => not_nob))
      have HQ := hideP (show cntT x ≤ 200000 by have := HCN.out; have := HCT.out; have := cntL_mem hx; omega)
      have hst := grpL_step hx
      have hbd : G + grpT x ≤ 200000 := by
        have h1 := grpL_take t.subs (k + 1)
        have h2 := HGT.out
        have h3 := HGC.out
        have h4 := HCN.out
        omega
      have HST := hideP (show G + grpT x = g0 + grpL (t.subs.take (k + 1)) by omega)
      have hsr := hUr.size
      have HUr := hideP hUr
      have HA := hideP hA
      have HB := hideP hB
      have HK := hideP hk
      clear up hcs hX hx hlx hUr hk hG hst hA hB
      go_wp2_with fail
      refine (IH.out x wr _ _ hxn HX.out HQ.out).mono ?_
      rintro e w5 ⟨A5, c5, B5, d5, rfl, ⟨xs5, hA5, hA1⟩, ⟨ys5, hB5, hB1⟩, hU5⟩
      obtain ⟨xsA, oA, oA1⟩ := HA.out.upd hU5 (fun _ _ => not_nob)
      obtain ⟨xsB, oB, oB1⟩ := HB.out.upd hU5 (fun _ _ => not_nob)
      have HU5 := hideP (HUr.out.trans hU5 (fun _ _ h => h))
      have hs5 := HU5.out.size
      have hnAB : ∀ b, (Value.slice A G c).ownBlock = some b → ¬ (Value.slice B G d).ownBlock = some b := own_block_ne oB oA (by decide)
      have hnAB5 : ∀ b, (Value.slice B5 (grpT x) d5).ownBlock = some b → ¬ (Value.slice A G c).ownBlock = some b := own_block_ne oA hB5 (by decide)
      have HOA := hideP oA
      have HOB := hideP oB
      have HA5 := hideP hA5
      have HB5 := hideP hB5
      have HN1 := hideP hnAB
      have HN2 := hideP hnAB5
      clear hU5 b3 p0 p1 p2 p3 p4 p5 p6 p7 p8 oA oB hA5 hB5 hnAB hnAB5
      go_upto_region 11 with (at_builtin; refine wpList_append_reads rfl _ _ 22 rfl w3.heap.size 3 i0 (.int .i64 0) 1 8 Try.underlying22 hi0 hz0 hz1 hz2 rfl (by decide) (.slice A G c) G xsA rfl HOA.out _ A5 (grpT x) c5 xs5 rfl (Reads.of_own HA5.out) hA1 (by unfold maxLen; omega) (by omega) (by omega) ?_)
      intro v6 w6 o6 g6 a6
      obtain ⟨A6, c6, rfl⟩ := own_shape o6
      have hU6 := (Upd.refl (fun b => (Value.slice A G c).ownBlock = some b) w5).grown g6 (fun b hb _ => hb)
      have HOB6 := hideP (own_upd HOB.out hU6 (fun b hb h => HN1.out b h hb))
      have HB6 := hideP (own_upd HB5.out hU6 (fun b hb h => HN2.out b hb h))
      have HU6 := hideP (HU5.out.trans hU6 (fun b hb h => absurd (HOA.out.lt b h).1 (by omega)))
      have HO6 := hideP o6
      have hs6 := HU6.out.size
      have HN3' := hideP (own_block_ne HOB6.out o6 (by decide))
      clear g6 a6 hU6 o6
      go_wp2_with (at_builtin; refine wpList_append_reads rfl _ _ 36 rfl w3.heap.size 9 s0 (.string ByteArray.empty) 1 16 Try.underlying36 hs0 hy0 hy1 hy2 rfl (by decide) (.slice B G d) G xsB rfl HOB6.out _ B5 (grpT x) d5 ys5 rfl (Reads.of_own HB6.out) hB1 (by unfold maxLen; omega) (by omega) (by omega) ?_)
      intro v7 w7 o7 g7 a7
      obtain ⟨A7, c7, rfl⟩ := own_shape o7
      have hU7 := (Upd.refl (fun b => (Value.slice B G d).ownBlock = some b) w6).grown g7 (fun b hb _ => hb)
      have HO7 := hideP (own_upd HO6.out hU7 (fun b hb h => HN3'.out b hb h))
      have HU7 := hideP (HU6.out.trans hU7 (fun b hb h => absurd (HOB6.out.lt b h).1 (by omega)))
      have HO8 := hideP o7
      clear g7 a7 hU7 o7
      go_wp2_with fail
      have hk := HK.out
      go_roundg (t.subs.length - (k + 1))
      case measure => omega
      case rel => exact ⟨k + 1, G + grpT x, A6, c6, A7, c7, by omega, HST.out, by go_num, rfl, rfl, ⟨_, HO7.out, fun u hu => by rcases List.mem_append.1 hu with h | h; exact oA1 u h; exact hA1 u h⟩, ⟨_, HO8.out, fun u hu => by rcases List.mem_append.1 hu with h | h; exact oB1 u h; exact hB1 u h⟩, HU7.out⟩
    · have g2 : ¬ (k : Int) < (t.subs.length : Int) := by omega
      obtain rfl : k = t.subs.length := by omega
      rw [List.take_length] at hG
      obtain rfl : G = grpT t := by have := HGT.out; omega
      have HA := hideP hA
      have HB := hideP hB
      have HUr := hideP hUr
      clear hUr hG hA hB
      go_wp2_with fail
      try refine bodyPost_ret (results_tmp2 rfl _ _ _) rfl ?_
      exact HP.out _ _ _ _ _ (HA.out.rebase hs3) (HB.out.rebase hs3) (HU3.out.trans HUr.out (fun _ _ h => h))
theorem names_any (t : Tree) (w : World) (S : Nat → Prop) (cs : Array Value) (h1 : NodeR w S cs t) (hc : cntT t ≤ 200000) :
    Calls Try.prog 13 #[.agg cs] w (NamesAns (grpT t) w) := names_go _ t w S cs (Nat.le_refl _) h1 hc
end Go.Proofs.Ytlaofcgllchedaa
