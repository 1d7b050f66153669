/-
  Turned, Node, put together.
-/
import Derived.Test.YtlaofcgllchedaaZ03MirP
import Derived.Test.YtlaofcgllchedaaZTreeSame
import Derived.Laws.CopyOwn
import Derived.Deep.RegionLaw

/-
  The walk of mirror.turned.
-/
namespace Go.Proofs.Ytlaofcgllchedaa
open Go.RowKit
set_option linter.unusedVariables false

theorem tinfo_node : (Try.prog.info? 30).map (fun i => (i.zero, i.size, i.bytes)) = some (some (.agg #[.int .i64 0, .slice none 0 0, .int .i64 0, .slice none 0 0, .int .i64 0, .int .i64 0, .bool false, .int .i64 0, .string ByteArray.empty]), 9, 112) := by kernel_rfl
theorem tinfo_range : (Try.prog.info? 45).map (fun i => (i.zero, i.size, i.bytes)) = some (some (.agg #[.int .i64 0, .int .i64 0]), 2, 16) := by kernel_rfl

/-- the Subs of a mirror, all of them -/
def MirSubs (w : World) (S : Nat → Prop) (t : Tree) (SB : Option Addr) : Prop :=
  ∀ (i : Nat) x, (mirS t)[i]? = some x → ∃ ad g o cs', SB = some ad ∧ ad.add (i * 9) = ⟨g, o, none⟩ ∧ S g ∧ g < w.heap.size ∧ (∀ j v, cs'[j]? = some v → w.cell? ⟨g, o + j, none⟩ = some v) ∧ NodeR w S cs' x
/-- what turned answers: the mirror, in memory of its own -/
def TurnPost (w : World) (t : Tree) (e : Ending) (w' : World) : Prop :=
  ∃ cs', e = .returned (.agg cs') ∧ NodeR w' (fun b => w.heap.size ≤ b) cs' t ∧ Upd Nob w w'

theorem bits_in64 (o : BinOp) (a b : Int) : In64 (bits o .i64 a b) := by
  unfold bits In64
  split <;> (simp only [IntKind.wrap_i64]; omega)
theorem flip_in64 {x : Int} (h : In64 x) : ∀ k, In64 (flipP x k)
  | 0 => h
  | k + 1 => by
    rw [flipP]
    split
    · exact bits_in64 _ _ _
    · exact bits_in64 _ _ _
theorem own_block {w : World} {base e size n c g : Nat} {xs : List Value} (h : w.ownsRow base e size (.slice (some ⟨g, 0, none⟩) n c) n xs) : ∃ cur, Cells w g e cur ∧ cur.size = c * size ∧ cur.toList.take (n * size) = xs := by
  rcases h.2 with ⟨h1, _⟩ | ⟨g', cap, cur, h1, _, hg, _, _, hcs, ht⟩
  · cases h1
  · injection h1 with a b d
    injection a with a
    injection a with a
    subst a; subst d
    exact ⟨cur, hg, hcs, ht⟩
theorem pairv_one_ : ∀ (rs : List (Int × Int)), ∀ u ∈ pairv rs, u.oneCell' = true
  | [], u, h => by cases h
  | x :: l, u, h => by
    simp only [pairv, List.mem_cons] at h
    rcases h with rfl | rfl | h
    · rfl
    · rfl
    · exact pairv_one_ l u h

set_option maxRecDepth 100000 in
set_option maxHeartbeats 8000000 in
theorem turned_go (n : Nat) : ∀ (t : Tree) (w : World) (S : Nat → Prop) (cs : Array Value), SizeOf.sizeOf t ≤ n → FineT t → NodeR w S cs t →
    Calls Try.prog 19 #[.agg cs] w (TurnPost w (mirT t)) := by
  induction n with
  | zero => exact fun t _ _ _ h => absurd h (size_pos t)
  | succ n ih =>
  intro t w S cs hn hf h1
  replace h1 := h1.lower
  obtain ⟨RA, rc, SA, sc, rfl, hr1, ho, hs1⟩ := h1.top
  obtain ⟨f1, f2, f3, f4⟩ := hf.top
  have C0 := (Cells.new w 30 (nodeCells t RA rc SA sc)).alloc (.cells #[.int .i64 0, .slice none 0 0, .int .i64 0, .slice none 0 0, .int .i64 0, .int .i64 0, .bool false, .int .i64 0, .string ⟨#[]⟩] 30)
  have C1 := Cells.new (w.alloc (.cells (nodeCells t RA rc SA sc) 30)) 30 #[.int .i64 0, .slice none 0 0, .int .i64 0, .slice none 0 0, .int .i64 0, .int .i64 0, .bool false, .int .i64 0, .string ⟨#[]⟩]
  rw [World.size_alloc] at C1
  have hU := ((Upd.refl Nob w).alloc (.cells (nodeCells t RA rc SA sc) 30)).alloc (.cells #[.int .i64 0, .slice none 0 0, .int .i64 0, .slice none 0 0, .int .i64 0, .int .i64 0, .bool false, .int .i64 0, .string ⟨#[]⟩] 30)
  have IH := hideP ih
  have HN := hideP hn
  have HF := hideP f4
  have HR1 := hideP (hr1.upd hU (fun _ _ => not_nob))
  have H1 := hideP (h1.upd_ hU (fun _ _ => not_nob)).open_.2.2
  have HO := hideP ho
  clear ih hn h1 hr1 hs1 hf f4 ho
  unfold nodeCells at C0 C1 hU HR1 H1
  unfold nodeCells
  obtain ⟨i0, hi0, hz0, hz1, hz2⟩ := info_parts tinfo_node
  obtain ⟨j0, hj0, hy0, hy1, hy2⟩ := info_parts tinfo_range
  generalize hP : TurnPost w (mirT t) = P
  have HP := hideP hP
  clear hP
  go_enter Try.func19, Try.ntmps19
  go_upto_region 1 with fail
  generalize (w.alloc (.cells #[.int .i64 t.kind, .slice RA t.rs.length rc, .int .i64 t.am, .slice SA t.subs.length sc, .int .i64 t.mn, .int .i64 t.mx, .bool t.lz, .int .i64 t.ix, .string t.nm] 30)).alloc (.cells #[.int .i64 0, .slice none 0 0, .int .i64 0, .slice none 0 0, .int .i64 0, .int .i64 0, .bool false, .int .i64 0, .string ⟨#[]⟩] 30) = w2 at *
  have HC0 := hideP C0
  have HC1 := hideP C1
  have HU := hideP hU
  have e0 : w2.cell? ⟨w.heap.size, 0, none⟩ = some (.int .i64 t.kind) := C0.cellv rfl
  have e1 : w2.cell? ⟨w.heap.size, 0 + 1, none⟩ = some (.slice RA t.rs.length rc) := C0.cellv rfl
  have e2 : w2.cell? ⟨w.heap.size, 0 + 2, none⟩ = some (.int .i64 t.am) := C0.cellv rfl
  have e3 : w2.cell? ⟨w.heap.size, 0 + 3, none⟩ = some (.slice SA t.subs.length sc) := C0.cellv rfl
  have e4 : w2.cell? ⟨w.heap.size, 0 + 4, none⟩ = some (.int .i64 t.mn) := C0.cellv rfl
  have e5 : w2.cell? ⟨w.heap.size, 0 + 5, none⟩ = some (.int .i64 t.mx) := C0.cellv rfl
  have e6 : w2.cell? ⟨w.heap.size, 0 + 6, none⟩ = some (.bool t.lz) := C0.cellv rfl
  clear C0 C1 hU
  by_cases hk7 : t.kind = 7
  · obtain ⟨ad, g, o, x, PA, pc, QA, qc, rfl, hadd, -, hg, hx, hX, hlx, hcs⟩ := NodeR.sub H1.out (f3 hk7)
    obtain ⟨p0, p1, p2, p3, p4, p5, p6, p7, p8⟩ := sub_cells hcs
    have HM := hideP (mirT_group hk7 hx)
    have HX := hideP hX
    have HFX := hideP (HF.out 0 x hx)
    have hxn : SizeOf.sizeOf x ≤ n := by have := HN.out; omega
    have hkb : (t.kind == 7) = true := by simpa using hk7
    have f3' := f3 hk7
    clear hX hx hcs hlx f3 hk7
    go_wp2_with fail
    refine (IH.out x w2 _ _ hxn HFX.out HX.out).mono ?_
    rintro e w3 ⟨cs', rfl, hN3, hU3⟩
    obtain ⟨PB, pd, QB, qd, rfl, -⟩ := hN3.top
    unfold nodeCells at hN3 ⊢
    have C13 := HC1.out.upd hU3 not_nob
    have HU3 := hideP (HU.out.trans hU3 (fun _ _ h => h))
    have HN3 := hideP hN3
    have z0 : w3.cell? ⟨w.heap.size + 1, 0, none⟩ = some (.int .i64 0) := C13.cellv rfl
    have zf0 : w3.frozen? ⟨w.heap.size + 1, 0, none⟩ = false := C13.frozen _
    have z1 : w3.cell? ⟨w.heap.size + 1, 0 + 1, none⟩ = some (.slice none 0 0) := C13.cellv rfl
    have zf1 : w3.frozen? ⟨w.heap.size + 1, 0 + 1, none⟩ = false := C13.frozen _
    have z2 : w3.cell? ⟨w.heap.size + 1, 0 + 2, none⟩ = some (.int .i64 0) := C13.cellv rfl
    have zf2 : w3.frozen? ⟨w.heap.size + 1, 0 + 2, none⟩ = false := C13.frozen _
    have z3 : w3.cell? ⟨w.heap.size + 1, 0 + 3, none⟩ = some (.slice none 0 0) := C13.cellv rfl
    have zf3 : w3.frozen? ⟨w.heap.size + 1, 0 + 3, none⟩ = false := C13.frozen _
    have z4 : w3.cell? ⟨w.heap.size + 1, 0 + 4, none⟩ = some (.int .i64 0) := C13.cellv rfl
    have zf4 : w3.frozen? ⟨w.heap.size + 1, 0 + 4, none⟩ = false := C13.frozen _
    have z5 : w3.cell? ⟨w.heap.size + 1, 0 + 5, none⟩ = some (.int .i64 0) := C13.cellv rfl
    have zf5 : w3.frozen? ⟨w.heap.size + 1, 0 + 5, none⟩ = false := C13.frozen _
    have z6 : w3.cell? ⟨w.heap.size + 1, 0 + 6, none⟩ = some (.bool false) := C13.cellv rfl
    have zf6 : w3.frozen? ⟨w.heap.size + 1, 0 + 6, none⟩ = false := C13.frozen _
    have z7 : w3.cell? ⟨w.heap.size + 1, 0 + 7, none⟩ = some (.int .i64 0) := C13.cellv rfl
    have zf7 : w3.frozen? ⟨w.heap.size + 1, 0 + 7, none⟩ = false := C13.frozen _
    have z8 : w3.cell? ⟨w.heap.size + 1, 0 + 8, none⟩ = some (.string ⟨#[]⟩) := C13.cellv rfl
    have zf8 : w3.frozen? ⟨w.heap.size + 1, 0 + 8, none⟩ = false := C13.frozen _
    clear hU3 hN3 e0 e1 e2 e3 e4 e5 e6 p0 p1 p2 p3 p4 p5 p6 p7 p8
    go_wp2_with fail
    have C9 : Cells (put9 w3 (w.heap.size + 1) 0 (.int .i64 (mirT x).kind) (.slice PB (mirT x).rs.length pd) (.int .i64 (mirT x).am) (.slice QB (mirT x).subs.length qd) (.int .i64 (mirT x).mn) (.int .i64 (mirT x).mx) (.bool (mirT x).lz) (.int .i64 (mirT x).ix) (.string (mirT x).nm)) (w.heap.size + 1) 30 #[.int .i64 (mirT x).kind, .slice PB (mirT x).rs.length pd, .int .i64 (mirT x).am, .slice QB (mirT x).subs.length qd, .int .i64 (mirT x).mn, .int .i64 (mirT x).mx, .bool (mirT x).lz, .int .i64 (mirT x).ix, .string (mirT x).nm] := cells9_all C13 (.int .i64 (mirT x).kind) (.slice PB (mirT x).rs.length pd) (.int .i64 (mirT x).am) (.slice QB (mirT x).subs.length qd) (.int .i64 (mirT x).mn) (.int .i64 (mirT x).mx) (.bool (mirT x).lz) (.int .i64 (mirT x).ix) (.string (mirT x).nm)
    have hU9 := upd9 w3 (w.heap.size + 1) 0 (.int .i64 (mirT x).kind) (.slice PB (mirT x).rs.length pd) (.int .i64 (mirT x).am) (.slice QB (mirT x).subs.length qd) (.int .i64 (mirT x).mn) (.int .i64 (mirT x).mx) (.bool (mirT x).lz) (.int .i64 (mirT x).ix) (.string (mirT x).nm)
    show bodyPost _ _ _ _ _ (put9 w3 (w.heap.size + 1) 0 (.int .i64 (mirT x).kind) (.slice PB (mirT x).rs.length pd) (.int .i64 (mirT x).am) (.slice QB (mirT x).subs.length qd) (.int .i64 (mirT x).mn) (.int .i64 (mirT x).mx) (.bool (mirT x).lz) (.int .i64 (mirT x).ix) (.string (mirT x).nm))
    generalize put9 w3 (w.heap.size + 1) 0 (.int .i64 (mirT x).kind) (.slice PB (mirT x).rs.length pd) (.int .i64 (mirT x).am) (.slice QB (mirT x).subs.length qd) (.int .i64 (mirT x).mn) (.int .i64 (mirT x).mx) (.bool (mirT x).lz) (.int .i64 (mirT x).ix) (.string (mirT x).nm) = wz at *
    have q0 : wz.cell? ⟨w.heap.size + 1, 0, none⟩ = some (.int .i64 (mirT x).kind) := C9.cellv rfl
    have q1 : wz.cell? ⟨w.heap.size + 1, 1, none⟩ = some (.slice PB (mirT x).rs.length pd) := C9.cellv rfl
    have q2 : wz.cell? ⟨w.heap.size + 1, 2, none⟩ = some (.int .i64 (mirT x).am) := C9.cellv rfl
    have q3 : wz.cell? ⟨w.heap.size + 1, 3, none⟩ = some (.slice QB (mirT x).subs.length qd) := C9.cellv rfl
    have q4 : wz.cell? ⟨w.heap.size + 1, 4, none⟩ = some (.int .i64 (mirT x).mn) := C9.cellv rfl
    have q5 : wz.cell? ⟨w.heap.size + 1, 5, none⟩ = some (.int .i64 (mirT x).mx) := C9.cellv rfl
    have q6 : wz.cell? ⟨w.heap.size + 1, 6, none⟩ = some (.bool (mirT x).lz) := C9.cellv rfl
    have q7 : wz.cell? ⟨w.heap.size + 1, 7, none⟩ = some (.int .i64 (mirT x).ix) := C9.cellv rfl
    have q8 : wz.cell? ⟨w.heap.size + 1, 8, none⟩ = some (.string (mirT x).nm) := C9.cellv rfl
    clear z0 zf0 z1 zf1 z2 zf2 z3 zf3 z4 zf4 z5 zf5 z6 zf6 z7 zf7 z8 zf8
    refine bodyPost_ret (by simp [results, Try.results19, go_sem, q0, q1, q2, q3, q4, q5, q6, q7, q8]; try rfl) rfl ?_
    rw [← HP.out, HM.out]
    refine ⟨_, rfl, (HN3.out.upd_ hU9 (fun b hb => ?_)).weaken (fun b hb => ?_), HU3.out.trans hU9 (fun b hb h => by omega)⟩
    · have := HC1.out.lt
      omega
    · have := HU.out.size
      omega
  have hkb : (t.kind == 7) = false := by simpa using hk7
  have HK7 := hideP hk7
  go_upto_region 4 with fail
  have CO := Cells.new w2 30 #[.int .i64 t.kind, (.slice none 0 0), (.int .i64 t.am), (.slice none 0 0), .int .i64 t.mn, .int .i64 t.mx, .bool t.lz, .int .i64 0, .string ⟨#[]⟩]
  have hUo := (Upd.refl Nob w2).alloc (.cells #[.int .i64 t.kind, (.slice none 0 0), (.int .i64 t.am), (.slice none 0 0), .int .i64 t.mn, .int .i64 t.mx, .bool t.lz, .int .i64 0, .string ⟨#[]⟩] 30)
  have hlow : w.heap.size + 1 < w2.heap.size := HC1.out.lt
  have HC3 := hideP (HC0.out.upd hUo not_nob)
  have HZ3 := hideP (HC1.out.upd hUo not_nob)
  have HR3 := hideP (HR1.out.upd hUo (fun _ _ => not_nob))
  have HU3 := hideP (HU.out.trans hUo (fun _ _ h => h))
  have HUO := hideP hUo
  clear hUo e0 e1 e2 e3 e4 e5 e6 hk7 hkb
  generalize w2.alloc (.cells #[.int .i64 t.kind, (.slice none 0 0), (.int .i64 t.am), (.slice none 0 0), .int .i64 t.mn, .int .i64 t.mx, .bool t.lz, .int .i64 0, .string ⟨#[]⟩] 30) = w3 at *
  generalize hobe : w2.heap.size = ob at *
  have e0 : w3.cell? ⟨w.heap.size, 0, none⟩ = some (.int .i64 t.kind) := HC3.out.cellv rfl
  have e2 : w3.cell? ⟨w.heap.size, 0 + 2, none⟩ = some (.int .i64 t.am) := HC3.out.cellv rfl
  have HCO := hideP CO
  clear CO
  go_upto_if 29 with fail
  go_cut [] (fun wc => Cells wc ob 30 #[.int .i64 t.kind, (.slice none 0 0), (.int .i64 (if t.kind = 3 then flipP t.am 6 else t.am)), (.slice none 0 0), .int .i64 t.mn, .int .i64 t.mx, .bool t.lz, .int .i64 0, .string ⟨#[]⟩] ∧ Upd (fun b => b = ob) w3 wc)
  case first =>
    by_cases h3 : t.kind = 3
    · have hb : (t.kind == 3) = true := by simpa using h3
      have HQ := hideP (show (if t.kind = 3 then flipP t.am 6 else t.am) = flipP t.am 6 from if_pos h3)
      clear h3
      go_wp2_with fail
      refine (flip_any w3 t.am).mono ?_
      rintro e w4 ⟨rfl, hU4⟩
      have C4 := HCO.out.upd hU4 not_nob
      have o2 : w4.cell? ⟨ob, 0 + 2, none⟩ = some (.int .i64 t.am) := C4.cellv rfl
      have f2 : w4.frozen? ⟨ob, 0 + 2, none⟩ = false := C4.frozen _
      have HC4 := hideP C4
      have HU4 := hideP hU4
      clear C4 hU4
      go_wp2_with fail
      go_meet
      exact ⟨by rw [HQ.out]; exact HC4.out.set_ 2 _, (HU4.out.mono (fun _ _ h => absurd h not_nob)).setCell _ _ (fun _ => rfl)⟩
    · have hb : (t.kind == 3) = false := by simpa using h3
      have HQ := hideP (show (if t.kind = 3 then flipP t.am 6 else t.am) = t.am from if_neg h3)
      clear h3
      go_wp2_with fail
      go_meet
      exact ⟨by rw [HQ.out]; exact HCO.out, Upd.refl _ _⟩
  case rest =>
  obtain ⟨CO4, U4⟩ := hcut
  generalize ham : (if t.kind = 3 then flipP t.am 6 else t.am) = am' at *
  have HAM := hideP ham
  have HC4 := hideP (HC3.out.upd U4 (by omega))
  have HZ4 := hideP (HZ3.out.upd U4 (by omega))
  have HR4 := hideP (HR3.out.upd U4 (fun k hk => by omega))
  have HU4 := hideP (HU3.out.trans U4 (fun b hb h => by omega))
  have HUO4 := hideP (HUO.out.trans (U4.mono (G := fun b => b = ob) (fun _ _ h => h)) (fun b hb h => by omega))
  have hoc := CO4.lt
  have HCO4 := hideP CO4
  clear ham CO4 U4 e0 e2 HCO
  have e1 : wc.cell? ⟨w.heap.size, 0 + 1, none⟩ = some (.slice RA t.rs.length rc) := HC4.out.cellv rfl
  go_upto_if 38 with fail
  go_cut [] (fun wd => ∃ RB rd, Cells wd ob 30 #[.int .i64 t.kind, (.slice RB t.rs.length rd), (.int .i64 am'), (.slice none 0 0), .int .i64 t.mn, .int .i64 t.mx, .bool t.lz, .int .i64 0, .string ⟨#[]⟩] ∧ RangesR wd (fun b => ob < b ∧ b < wd.heap.size) RB t.rs.length t.rs ∧ Upd (fun b => b = ob) wc wd)
  case first =>
    by_cases h0 : t.rs.length = 0
    · have g1 : ¬ (0 : Int) < (t.rs.length : Int) := by omega
      have H0 := hideP h0
      clear h0
      go_wp2_with fail
      go_meet
      exact ⟨none, 0, by rw [H0.out]; exact HCO4.out, ⟨⟨pairv_len _, fun h => by have := H0.out; omega⟩, HR4.out.i, HR4.out.n⟩, Upd.refl _ _⟩
    · have g1 : (0 : Int) < (t.rs.length : Int) := by omega
      clear h0
      go_upto_region 9 with (at_make; refine wpList_make_full wc rfl _ _ 27 rfl wc.heap.size 45 j0 _ 2 Try.underlying27 hj0 hy0 hy1 .i64 .i64 (t.rs.length : Int) (t.rs.length : Int) t.rs.length rfl rfl (by omega) (by omega) (by rw [hy2]; omega) (by unfold maxLen; omega) (Nat.le_refl _) ?_; intro w6 o6 hg6; have hU6 := (Upd.refl Nob wc).grown hg6 (by simp); have C6 := HCO4.out.upd hU6 not_nob; have l1 : w6.cell? ⟨ob, 0 + 1, none⟩ = some (.slice none 0 0) := C6.cellv rfl; have f1 : w6.frozen? ⟨ob, 0 + 1, none⟩ = false := C6.frozen _)
      have C7 := C6.set_ 1 (.slice (some ⟨wc.heap.size, 0, none⟩) t.rs.length t.rs.length)
      have o7 := own_far o6 ⟨ob, 1, none⟩ (.slice (some ⟨wc.heap.size, 0, none⟩) t.rs.length t.rs.length) (by simp [Value.ownBlock]; omega)
      have hU7 : Upd (fun b => b = ob) wc (w6.setCell ⟨ob, 1, none⟩ (.slice (some ⟨wc.heap.size, 0, none⟩) t.rs.length t.rs.length)) := (hU6.mono (fun _ _ h => absurd h not_nob)).setCell _ _ (fun _ => rfl)
      have C7 : Cells (w6.setCell ⟨ob, 1, none⟩ (.slice (some ⟨wc.heap.size, 0, none⟩) t.rs.length t.rs.length)) ob 30 #[.int .i64 t.kind, (.slice (some ⟨wc.heap.size, 0, none⟩) t.rs.length t.rs.length), (.int .i64 am'), (.slice none 0 0), .int .i64 t.mn, .int .i64 t.mx, .bool t.lz, .int .i64 0, .string ⟨#[]⟩] := C7
      clear C6 o6 hg6 hU6 l1 f1 e1
      generalize w6.setCell ⟨ob, 1, none⟩ (.slice (some ⟨wc.heap.size, 0, none⟩) t.rs.length t.rs.length) = w7 at *
      have hb7 := (o7.lt _ rfl).2
      have l1 : w7.cell? ⟨ob, 0 + 1, none⟩ = some (.slice (some ⟨wc.heap.size, 0, none⟩) t.rs.length t.rs.length) := C7.cellv rfl
      have l2 : w7.cell? ⟨w.heap.size, 0 + 1, none⟩ = some (.slice RA t.rs.length rc) := (HC4.out.upd hU7 (by omega)).cellv rfl
      have hr7 := (HR4.out.upd hU7 (fun k hk => by omega)).r
      go_wp2_with ((with_reducible show wpList _ _ _ _ _ _); refine wpList_copy_reads rfl _ _ 27 27 rfl wc.heap.size 45 j0 2 Try.underlying27 hj0 hy1 wc.heap.size t.rs.length t.rs.length _ rfl o7 _ RA t.rs.length rc (pairv t.rs) rfl hr7 (pairv_one_ t.rs) (by omega) ?_; intro w8 o8 hg8)
      go_meet
      rw [List.drop_eq_nil_of_le (by have := o7.1; omega), List.append_nil] at o8
      have hU8 : Upd (fun b => b = ob) wc w8 := hU7.trans (((Upd.refl (fun b => b = wc.heap.size) w7)).grown hg8 (fun k hk _ => by injection hk with hk; exact hk.symm)) (fun b hb h => by omega)
      exact ⟨_, _, C7.grown hg8 (by simp; omega), ⟨(Reads.of_own o8).weaken (fun k hk => by (have hk' : wc.heap.size = k := by simpa [Value.ownBlock] using hk); (have h8 : wc.heap.size < w8.heap.size := (o8.lt _ rfl).2); omega), HR4.out.i, HR4.out.n⟩, hU8⟩
  case rest =>
  obtain ⟨RB, rd, CO5, R5, U5⟩ := hcut
  have HC5 := hideP (HC4.out.upd U5 (by omega))
  have HZ5 := hideP (HZ4.out.upd U5 (by omega))
  have HU5 := hideP (HU4.out.trans U5 (fun b hb h => by omega))
  have HUO5 := hideP (HUO4.out.trans U5 (fun b hb h => by omega))
  have hoc5 := CO5.lt
  have HCO5 := hideP CO5
  have HR5 := hideP R5
  clear CO5 R5 U5 e1
  have e3 : wc.cell? ⟨w.heap.size, 0 + 3, none⟩ = some (.slice SA t.subs.length sc) := HC5.out.cellv rfl
  go_upto_if 51 with fail
  go_cut [] (fun we => ∃ SB sd, Cells we ob 30 #[.int .i64 t.kind, (.slice RB t.rs.length rd), (.int .i64 am'), (.slice SB t.subs.length sd), .int .i64 t.mn, .int .i64 t.mx, .bool t.lz, .int .i64 0, .string ⟨#[]⟩] ∧ MirSubs we (fun b => ob < b) t SB ∧ RangesR we (fun b => ob < b) RB t.rs.length t.rs ∧ Upd (fun b => b = ob) wc we)
  case first =>
    by_cases h0 : t.subs.length = 0
    · have g1 : ¬ (0 : Int) < (t.subs.length : Int) := by omega
      have H0 := hideP h0
      clear h0
      go_wp2_with fail
      go_meet
      exact ⟨none, 0, by rw [H0.out]; exact HCO5.out, fun i x hx => by
        have := (List.getElem?_eq_some_iff.1 hx).1
        rw [mirS_len] at this
        have := H0.out
        omega, HR5.out.weaken_ (fun _ h => h.1), Upd.refl _ _⟩
    · have g1 : (0 : Int) < (t.subs.length : Int) := by omega
      clear h0
      go_upto_region 13 with (at_make; refine wpList_make_full wc rfl _ _ 28 rfl wc.heap.size 30 i0 _ 9 Try.underlying28 hi0 hz0 hz1 .i64 .i64 (t.subs.length : Int) (t.subs.length : Int) t.subs.length rfl rfl (by omega) (by omega) (by rw [hz2]; omega) (by unfold maxLen; omega) (Nat.le_refl _) ?_; intro w6 o6 hg6; have hU6 := (Upd.refl Nob wc).grown hg6 (by simp); have C6 := HCO5.out.upd hU6 not_nob; have l1 : w6.cell? ⟨ob, 0 + 3, none⟩ = some (.slice none 0 0) := C6.cellv rfl; have f1 : w6.frozen? ⟨ob, 0 + 3, none⟩ = false := C6.frozen _)
      obtain ⟨arr0, ha0, hsz0, -⟩ := own_block o6
      have C7 : Cells (w6.setCell ⟨ob, 3, none⟩ (.slice (some ⟨wc.heap.size, 0, none⟩) t.subs.length t.subs.length)) ob 30 #[.int .i64 t.kind, (.slice RB t.rs.length rd), (.int .i64 am'), (.slice (some ⟨wc.heap.size, 0, none⟩) t.subs.length t.subs.length), .int .i64 t.mn, .int .i64 t.mx, .bool t.lz, .int .i64 0, .string ⟨#[]⟩] := C6.set_ 3 (.slice (some ⟨wc.heap.size, 0, none⟩) t.subs.length t.subs.length)
      have ha7 := ha0.far ⟨ob, 3, none⟩ (.slice (some ⟨wc.heap.size, 0, none⟩) t.subs.length t.subs.length) (by simp; omega)
      have hU7 : Upd (fun b => b = ob) wc (w6.setCell ⟨ob, 3, none⟩ (.slice (some ⟨wc.heap.size, 0, none⟩) t.subs.length t.subs.length)) := (hU6.mono (fun _ _ h => absurd h not_nob)).setCell _ _ (fun _ => rfl)
      clear C6 o6 hg6 hU6 l1 f1 e3 ha0
      generalize w6.setCell ⟨ob, 3, none⟩ (.slice (some ⟨wc.heap.size, 0, none⟩) t.subs.length t.subs.length) = w7 at *
      have hgS7 := ha7.lt
      have HC7 := hideP (HC5.out.upd hU7 (by omega))
      have HU7 := hideP hU7
      have HC7o := hideP C7
      have HUO7 := hideP (HUO5.out.trans hU7 (fun b hb h => by omega))
      clear hU7 C7
      generalize hgS : wc.heap.size = gS at *
      go_wp2_with fail
      go_loopg [56] t.subs.length (fun gk v56 wr => ∃ (k : Nat) (arr : Array Value), k + gk = t.subs.length ∧ v56 = .int .i64 (k : Int) ∧ Cells wr gS 30 arr ∧ arr.size = t.subs.length * 9 ∧ SubsAt wr (fun b => gS < b) t arr k ∧ Upd (fun b => b = gS) w7 wr)
      case atStart => exact ⟨0, arr0, by omega, rfl, ha7, hsz0, fun i x hi => by omega, Upd.refl _ _⟩
      case round =>
        obtain ⟨k, arr, hk, rfl, hA, hAs, hS, hUr⟩ := hrel
        have b0 : wr.cell? ⟨w.heap.size, 0, none⟩ = some (.int .i64 t.kind) := (HC7.out.upd hUr (by omega)).cellv rfl
        have b3 : wr.cell? ⟨w.heap.size, 0 + 3, none⟩ = some (.slice SA t.subs.length sc) := (HC7.out.upd hUr (by omega)).cellv rfl
        have o3 : wr.cell? ⟨ob, 0 + 3, none⟩ = some (.slice (some ⟨gS, 0, none⟩) t.subs.length t.subs.length) := (HC7o.out.upd hUr (by omega)).cellv rfl
        by_cases hlt : k < t.subs.length
        · have g2 : (k : Int) < (t.subs.length : Int) := by omega
          obtain ⟨m, hm⟩ : ∃ m, m = mirAt t k := ⟨_, rfl⟩
          have hml : m < t.subs.length := by rw [hm]; exact mirAt_lt hlt
          have hmi : (m : Int) < (t.subs.length : Int) := by omega
          obtain ⟨ad, g, o, x, PA, pc, QA, qc, rfl, hadd, hgl, hg, hx, hX, hlx, hcs⟩ := NodeR.sub (w := w2) (S := fun k => k < w.heap.size) (by rw [hobe]; exact H1.out) hlt
          have hUw := HUO7.out.trans (hUr.mono (G := fun b => b = ob ∨ b = gS) (fun _ _ h => .inr h)) (fun b hb h => by omega)
          have up : ∀ (a : Addr) v, a.block < w2.heap.size → w2.cell? a = some v → wr.cell? a = some v := fun a v hb ha => (hUw.cell hb not_nob).trans ha
          obtain ⟨p0, p1, p2, p3, p4, p5, p6, p7, p8⟩ := sub_cells (fun j v hv => up ⟨g, o + j, none⟩ v hg (hcs j v hv))
          have HX := hideP (hX.upd_ hUw (fun _ _ => not_nob))
          have HFX := hideP (HF.out k x hx)
          have hxn : SizeOf.sizeOf x ≤ n := by have := HN.out; omega
          have HXK := hideP hx
          have HA := hideP hA
          have HS := hideP hS
          have hgr := hA.lt
          have HL := hideP (show ∀ w', Upd (fun b => b = gS) wr w' → (w'.cell? ⟨ob, 0 + 3, none⟩ = some (.slice (some ⟨gS, 0, none⟩) t.subs.length t.subs.length) ∧ w'.cell? ⟨w.heap.size, 0 + 3, none⟩ = some (.slice (some ad) t.subs.length sc) ∧ w'.cell? ⟨g, o, none⟩ = some (.int .i64 x.kind) ∧ w'.cell? ⟨g, o + 1, none⟩ = some (.slice PA x.rs.length pc) ∧ w'.cell? ⟨g, o + 2, none⟩ = some (.int .i64 x.am) ∧ w'.cell? ⟨g, o + 3, none⟩ = some (.slice QA x.subs.length qc) ∧ w'.cell? ⟨g, o + 4, none⟩ = some (.int .i64 x.mn) ∧ w'.cell? ⟨g, o + 5, none⟩ = some (.int .i64 x.mx) ∧ w'.cell? ⟨g, o + 6, none⟩ = some (.bool x.lz) ∧ w'.cell? ⟨g, o + 7, none⟩ = some (.int .i64 x.ix) ∧ w'.cell? ⟨g, o + 8, none⟩ = some (.string x.nm)) from fun w' hv =>
            ⟨(hv.cell (World.block_lt_of_cell? _ _ o3) (by simp only; omega)).trans o3, (hv.cell (World.block_lt_of_cell? _ _ b3) (by simp only; omega)).trans b3, (hv.cell (World.block_lt_of_cell? _ _ p0) (by simp only; omega)).trans p0, (hv.cell (World.block_lt_of_cell? _ _ p1) (by simp only; omega)).trans p1, (hv.cell (World.block_lt_of_cell? _ _ p2) (by simp only; omega)).trans p2, (hv.cell (World.block_lt_of_cell? _ _ p3) (by simp only; omega)).trans p3, (hv.cell (World.block_lt_of_cell? _ _ p4) (by simp only; omega)).trans p4, (hv.cell (World.block_lt_of_cell? _ _ p5) (by simp only; omega)).trans p5, (hv.cell (World.block_lt_of_cell? _ _ p6) (by simp only; omega)).trans p6, (hv.cell (World.block_lt_of_cell? _ _ p7) (by simp only; omega)).trans p7, (hv.cell (World.block_lt_of_cell? _ _ p8) (by simp only; omega)).trans p8⟩)
          have HUr := hideP hUr
          have HK := hideP hk
          have HM := hideP hm
          clear hX hx hlx hcs up hUw hA hS hUr hk hm
          go_upto_if 62 with fail
          go_cut [7] (fun v7 wx => v7 = .int .i64 (m : Int) ∧ wr = wx)
          case first =>
            by_cases h4 : t.kind = 4
            · have hb : (t.kind == 4) = true := by simpa using h4
              have hmk : (t.subs.length : Int) - 1 - (k : Int) = (m : Int) := by
                have := HM.out
                unfold mirAt at this
                rw [if_pos h4] at this
                omega
              clear h4
              go_wp2_with fail
              go_meet
              exact ⟨by first | rfl | go_num, rfl⟩
            · have hb : (t.kind == 4) = false := by simpa using h4
              have hmk : k = m := by
                have := HM.out
                unfold mirAt at this
                rw [if_neg h4] at this
                omega
              have HMK := hideP hmk
              clear h4 hmk
              go_wp2_with fail
              go_meet
              exact ⟨by rw [HMK.out], rfl⟩
          case rest =>
          obtain ⟨rfl, rfl⟩ := hcut
          clear b0 b3 o3 p0 p1 p2 p3 p4 p5 p6 p7 p8
          have HU0 := hideP (Upd.refl (fun b => b = gS) wr)
          have HU1 := hideP ((Upd.refl (fun b => b = gS) wr).drew)
          go_upto_region 19 with fail
          go_region_held3 (fun w' => w'.cell? ⟨ob, 0 + 3, none⟩ = some (.slice (some ⟨gS, 0, none⟩) t.subs.length t.subs.length) ∧ w'.cell? ⟨w.heap.size, 0 + 3, none⟩ = some (.slice (some ad) t.subs.length sc) ∧ w'.cell? ⟨g, o, none⟩ = some (.int .i64 x.kind) ∧ w'.cell? ⟨g, o + 1, none⟩ = some (.slice PA x.rs.length pc) ∧ w'.cell? ⟨g, o + 2, none⟩ = some (.int .i64 x.am) ∧ w'.cell? ⟨g, o + 3, none⟩ = some (.slice QA x.subs.length qc) ∧ w'.cell? ⟨g, o + 4, none⟩ = some (.int .i64 x.mn) ∧ w'.cell? ⟨g, o + 5, none⟩ = some (.int .i64 x.mx) ∧ w'.cell? ⟨g, o + 6, none⟩ = some (.bool x.lz) ∧ w'.cell? ⟨g, o + 7, none⟩ = some (.int .i64 x.ix) ∧ w'.cell? ⟨g, o + 8, none⟩ = some (.string x.nm))
            (first | (with_reducible exact HL.out _ HUP.out) | (with_reducible exact HL.out _ HUN.out) | (with_reducible exact HL.out _ HU0.out) | (with_reducible exact HL.out _ HU1.out))
            (first
            | (go_at_call 19; refine (IH.out x _ _ _ hxn HFX.out (HX.out.upd_ ((Upd.refl Nob wr).drew) (fun _ _ => not_nob))).mono ?_; rintro e w9 ⟨cs', rfl, hN9, hU9⟩; obtain ⟨PB, pd, QB, qd, rfl, -⟩ := hN9.top; unfold nodeCells at hN9 ⊢; have HU9 := hideP (((Upd.refl Nob wr).drew).trans hU9 (fun _ _ h => h)); have hA9 := HA.out.upd HU9.out not_nob; have HN9 := hideP hN9; have HUN := hideP (HU9.out.mono (G := fun b => b = gS) (fun _ _ h => absurd h not_nob)); have HUP : Hid (Upd (fun b => b = gS) wr (((((((((w9.setCell ⟨gS, m * 9, none⟩ (.int .i64 (mirT x).kind)).setCell ⟨gS, m * 9 + 1, none⟩ (.slice PB (mirT x).rs.length pd)).setCell ⟨gS, m * 9 + 2, none⟩ (.int .i64 (mirT x).am)).setCell ⟨gS, m * 9 + 3, none⟩ (.slice QB (mirT x).subs.length qd)).setCell ⟨gS, m * 9 + 4, none⟩ (.int .i64 (mirT x).mn)).setCell ⟨gS, m * 9 + 5, none⟩ (.int .i64 (mirT x).mx)).setCell ⟨gS, m * 9 + 6, none⟩ (.bool (mirT x).lz)).setCell ⟨gS, m * 9 + 7, none⟩ (.int .i64 (mirT x).ix)).setCell ⟨gS, m * 9 + 8, none⟩ (.string (mirT x).nm))) := hideP (HUN.out.trans (upd9 w9 gS (m * 9) (.int .i64 (mirT x).kind) (.slice PB (mirT x).rs.length pd) (.int .i64 (mirT x).am) (.slice QB (mirT x).subs.length qd) (.int .i64 (mirT x).mn) (.int .i64 (mirT x).mx) (.bool (mirT x).lz) (.int .i64 (mirT x).ix) (.string (mirT x).nm)) (fun _ _ h => h)); have z0 : ∃ u, w9.cell? ⟨gS, m * 9, none⟩ = some u := ⟨_, hA9.cellv (Array.getElem?_eq_getElem (by omega))⟩; have zf0 : w9.frozen? ⟨gS, m * 9, none⟩ = false := hA9.frozen _; have z1 : ∃ u, w9.cell? ⟨gS, m * 9 + 1, none⟩ = some u := ⟨_, hA9.cellv (Array.getElem?_eq_getElem (by omega))⟩; have zf1 : w9.frozen? ⟨gS, m * 9 + 1, none⟩ = false := hA9.frozen _; have z2 : ∃ u, w9.cell? ⟨gS, m * 9 + 2, none⟩ = some u := ⟨_, hA9.cellv (Array.getElem?_eq_getElem (by omega))⟩; have zf2 : w9.frozen? ⟨gS, m * 9 + 2, none⟩ = false := hA9.frozen _; have z3 : ∃ u, w9.cell? ⟨gS, m * 9 + 3, none⟩ = some u := ⟨_, hA9.cellv (Array.getElem?_eq_getElem (by omega))⟩; have zf3 : w9.frozen? ⟨gS, m * 9 + 3, none⟩ = false := hA9.frozen _; have z4 : ∃ u, w9.cell? ⟨gS, m * 9 + 4, none⟩ = some u := ⟨_, hA9.cellv (Array.getElem?_eq_getElem (by omega))⟩; have zf4 : w9.frozen? ⟨gS, m * 9 + 4, none⟩ = false := hA9.frozen _; have z5 : ∃ u, w9.cell? ⟨gS, m * 9 + 5, none⟩ = some u := ⟨_, hA9.cellv (Array.getElem?_eq_getElem (by omega))⟩; have zf5 : w9.frozen? ⟨gS, m * 9 + 5, none⟩ = false := hA9.frozen _; have z6 : ∃ u, w9.cell? ⟨gS, m * 9 + 6, none⟩ = some u := ⟨_, hA9.cellv (Array.getElem?_eq_getElem (by omega))⟩; have zf6 : w9.frozen? ⟨gS, m * 9 + 6, none⟩ = false := hA9.frozen _; have z7 : ∃ u, w9.cell? ⟨gS, m * 9 + 7, none⟩ = some u := ⟨_, hA9.cellv (Array.getElem?_eq_getElem (by omega))⟩; have zf7 : w9.frozen? ⟨gS, m * 9 + 7, none⟩ = false := hA9.frozen _; have z8 : ∃ u, w9.cell? ⟨gS, m * 9 + 8, none⟩ = some u := ⟨_, hA9.cellv (Array.getElem?_eq_getElem (by omega))⟩; have zf8 : w9.frozen? ⟨gS, m * 9 + 8, none⟩ = false := hA9.frozen _; obtain ⟨y0, z0⟩ := z0; obtain ⟨y1, z1⟩ := z1; obtain ⟨y2, z2⟩ := z2; obtain ⟨y3, z3⟩ := z3; obtain ⟨y4, z4⟩ := z4; obtain ⟨y5, z5⟩ := z5; obtain ⟨y6, z6⟩ := z6; obtain ⟨y7, z7⟩ := z7; obtain ⟨y8, z8⟩ := z8; clear hU9 hN9))
          have hA10 : Cells (((((((((w9.setCell ⟨gS, m * 9, none⟩ (.int .i64 (mirT x).kind)).setCell ⟨gS, m * 9 + 1, none⟩ (.slice PB (mirT x).rs.length pd)).setCell ⟨gS, m * 9 + 2, none⟩ (.int .i64 (mirT x).am)).setCell ⟨gS, m * 9 + 3, none⟩ (.slice QB (mirT x).subs.length qd)).setCell ⟨gS, m * 9 + 4, none⟩ (.int .i64 (mirT x).mn)).setCell ⟨gS, m * 9 + 5, none⟩ (.int .i64 (mirT x).mx)).setCell ⟨gS, m * 9 + 6, none⟩ (.bool (mirT x).lz)).setCell ⟨gS, m * 9 + 7, none⟩ (.int .i64 (mirT x).ix)).setCell ⟨gS, m * 9 + 8, none⟩ (.string (mirT x).nm)) gS 30 (arr9 arr (m * 9) (.int .i64 (mirT x).kind) (.slice PB (mirT x).rs.length pd) (.int .i64 (mirT x).am) (.slice QB (mirT x).subs.length qd) (.int .i64 (mirT x).mn) (.int .i64 (mirT x).mx) (.bool (mirT x).lz) (.int .i64 (mirT x).ix) (.string (mirT x).nm)) := cells9 hA9 (m * 9) (.int .i64 (mirT x).kind) (.slice PB (mirT x).rs.length pd) (.int .i64 (mirT x).am) (.slice QB (mirT x).subs.length qd) (.int .i64 (mirT x).mn) (.int .i64 (mirT x).mx) (.bool (mirT x).lz) (.int .i64 (mirT x).ix) (.string (mirT x).nm)
          have hS10 : SubsAt (((((((((w9.setCell ⟨gS, m * 9, none⟩ (.int .i64 (mirT x).kind)).setCell ⟨gS, m * 9 + 1, none⟩ (.slice PB (mirT x).rs.length pd)).setCell ⟨gS, m * 9 + 2, none⟩ (.int .i64 (mirT x).am)).setCell ⟨gS, m * 9 + 3, none⟩ (.slice QB (mirT x).subs.length qd)).setCell ⟨gS, m * 9 + 4, none⟩ (.int .i64 (mirT x).mn)).setCell ⟨gS, m * 9 + 5, none⟩ (.int .i64 (mirT x).mx)).setCell ⟨gS, m * 9 + 6, none⟩ (.bool (mirT x).lz)).setCell ⟨gS, m * 9 + 7, none⟩ (.int .i64 (mirT x).ix)).setCell ⟨gS, m * 9 + 8, none⟩ (.string (mirT x).nm)) (fun b => gS < b) t (arr9 arr (m * 9) (.int .i64 (mirT x).kind) (.slice PB (mirT x).rs.length pd) (.int .i64 (mirT x).am) (.slice QB (mirT x).subs.length qd) (.int .i64 (mirT x).mn) (.int .i64 (mirT x).mx) (.bool (mirT x).lz) (.int .i64 (mirT x).ix) (.string (mirT x).nm)) (k + 1) := by
            have h1 := (HS.out.upd HU9.out (fun _ _ => not_nob)).more HXK.out (HN9.out.weaken (S' := fun b => gS < b) (fun b hb => by have : wr.heap.size ≤ b := hb; omega)) (by omega)
            rw [← HM.out] at h1
            exact h1.upd (upd9 w9 gS (m * 9) (.int .i64 (mirT x).kind) (.slice PB (mirT x).rs.length pd) (.int .i64 (mirT x).am) (.slice QB (mirT x).subs.length qd) (.int .i64 (mirT x).mn) (.int .i64 (mirT x).mx) (.bool (mirT x).lz) (.int .i64 (mirT x).ix) (.string (mirT x).nm)) (fun b hb hb2 => by omega)
          have HA10 := hideP hA10
          have HS10 := hideP hS10
          have HU10 := hideP (HUr.out.trans HUP.out (fun b hb h => h))
          have hsz10 : (arr9 arr (m * 9) (.int .i64 (mirT x).kind) (.slice PB (mirT x).rs.length pd) (.int .i64 (mirT x).am) (.slice QB (mirT x).subs.length qd) (.int .i64 (mirT x).mn) (.int .i64 (mirT x).mx) (.bool (mirT x).lz) (.int .i64 (mirT x).ix) (.string (mirT x).nm)).size = t.subs.length * 9 := by rw [arr9_size]; exact hAs
          clear hA10 hS10 hA9 z0 z1 z2 z3 z4 z5 z6 z7 z8 zf0 zf1 zf2 zf3 zf4 zf5 zf6 zf7 zf8
          generalize (((((((((w9.setCell ⟨gS, m * 9, none⟩ (.int .i64 (mirT x).kind)).setCell ⟨gS, m * 9 + 1, none⟩ (.slice PB (mirT x).rs.length pd)).setCell ⟨gS, m * 9 + 2, none⟩ (.int .i64 (mirT x).am)).setCell ⟨gS, m * 9 + 3, none⟩ (.slice QB (mirT x).subs.length qd)).setCell ⟨gS, m * 9 + 4, none⟩ (.int .i64 (mirT x).mn)).setCell ⟨gS, m * 9 + 5, none⟩ (.int .i64 (mirT x).mx)).setCell ⟨gS, m * 9 + 6, none⟩ (.bool (mirT x).lz)).setCell ⟨gS, m * 9 + 7, none⟩ (.int .i64 (mirT x).ix)).setCell ⟨gS, m * 9 + 8, none⟩ (.string (mirT x).nm)) = w10 at *
          generalize arr9 arr (m * 9) (.int .i64 (mirT x).kind) (.slice PB (mirT x).rs.length pd) (.int .i64 (mirT x).am) (.slice QB (mirT x).subs.length qd) (.int .i64 (mirT x).mn) (.int .i64 (mirT x).mx) (.bool (mirT x).lz) (.int .i64 (mirT x).ix) (.string (mirT x).nm) = arr' at *
          go_wp2_with fail
          have hk := HK.out
          go_roundg (t.subs.length - (k + 1))
          case measure => omega
          case rel => exact ⟨k + 1, arr', by omega, by go_num, HA10.out, hsz10, HS10.out, HU10.out⟩
        · have g2 : ¬ (k : Int) < (t.subs.length : Int) := by omega
          obtain rfl : k = t.subs.length := by omega
          clear b0 b3 o3
          have hUz : Upd (fun b => b = ob) wc wr := HU7.out.trans hUr (fun b hb h => by omega)
          have CZ := HC7o.out.upd hUr (by omega)
          have HMS := hideP (show MirSubs wr (fun b => ob < b) t (some ⟨gS, 0, none⟩) from fun i y hy => by
            obtain ⟨j, x, hx, hj, rfl⟩ := mirS_from hy
            have hjl := (List.getElem?_eq_some_iff.1 hx).1
            obtain ⟨cs', h1, h2⟩ := hS j x hjl hx
            rw [hj] at h1
            refine ⟨_, gS, i * 9, cs', rfl, by rw [add_lit_, Nat.zero_add], by omega, hA.lt, fun q v hv => hA.cellv (h1 q v hv), h2.weaken (fun b hb => by omega)⟩)
          have HRZ := hideP ((HR5.out.upd (HU7.out.trans hUr (F := fun b => b = ob) (fun b hb h => by omega)) (fun b hb => by omega)).weaken_ (S' := fun b => ob < b) (fun _ h => h.1))
          have HCZ := hideP CZ
          have HUZ := hideP hUz
          clear hUz CZ hS hA hUr
          go_wp2_with fail
          go_meet
          exact ⟨_, _, HCZ.out, HMS.out, HRZ.out, HUZ.out⟩
  case rest =>
  obtain ⟨SB, sd, CO6, MS6, R6, U6⟩ := hcut
  have CZ6 := HZ5.out.upd U6 (by omega)
  obtain ⟨o0, o1, o2, o3, o4, o5, o6, o7, o8⟩ := nine CO6
  obtain ⟨z0, z1, z2, z3, z4, z5, z6, z7, z8⟩ := nine CZ6
  obtain ⟨zf0, zf1, zf2, zf3, zf4, zf5, zf6, zf7, zf8⟩ := nine_ CZ6
  have HN6 := hideP (NodeR.of (rc := rd) (sc := sd) (t := (bare t.kind t.rs am' (mirS t) t.mn t.mx t.lz)) (SA := SB) R6 ⟨HO.out.k, by show In64 am'; rw [← HAM.out]; split; exact flip_in64 HO.out.a 6; exact HO.out.a, HO.out.m, HO.out.x, by show In64 0; unfold In64; omega, by show (mirS t).length ≤ _; rw [mirS_len]; omega, by show ByteArray.empty.size ≤ _; decide⟩ MS6)
  have HU6 := hideP (HU5.out.trans U6 (fun b hb h => by omega))
  have C9 := cells9_all CZ6 (.int .i64 t.kind) (.slice RB t.rs.length rd) (.int .i64 am') (.slice SB t.subs.length sd) (.int .i64 t.mn) (.int .i64 t.mx) (.bool t.lz) (.int .i64 0) (.string ⟨#[]⟩)
  have hU9 := upd9 wc (w.heap.size + 1) 0 (.int .i64 t.kind) (.slice RB t.rs.length rd) (.int .i64 am') (.slice SB t.subs.length sd) (.int .i64 t.mn) (.int .i64 t.mx) (.bool t.lz) (.int .i64 0) (.string ⟨#[]⟩)
  clear U6 MS6 R6 e3
  go_wp2_with fail
  show bodyPost _ _ _ _ _ (put9 wc (w.heap.size + 1) 0 (.int .i64 t.kind) (.slice RB t.rs.length rd) (.int .i64 am') (.slice SB t.subs.length sd) (.int .i64 t.mn) (.int .i64 t.mx) (.bool t.lz) (.int .i64 0) (.string ⟨#[]⟩))
  clear o0 o1 o2 o3 o4 o5 o6 o7 o8 z0 z1 z2 z3 z4 z5 z6 z7 z8 zf0 zf1 zf2 zf3 zf4 zf5 zf6 zf7 zf8
  generalize put9 wc (w.heap.size + 1) 0 (.int .i64 t.kind) (.slice RB t.rs.length rd) (.int .i64 am') (.slice SB t.subs.length sd) (.int .i64 t.mn) (.int .i64 t.mx) (.bool t.lz) (.int .i64 0) (.string ⟨#[]⟩) = wz at *
  obtain ⟨q0, q1, q2, q3, q4, q5, q6, q7, q8⟩ := nine C9
  refine bodyPost_ret (by simp [results, Try.results19, go_sem, q0, q1, q2, q3, q4, q5, q6, q7, q8]; try rfl) rfl ?_
  rw [← HP.out, mirT_node HK7.out, HAM.out]
  refine ⟨nodeCells (bare t.kind t.rs am' (mirS t) t.mn t.mx t.lz) RB rd SB sd, ?_, (HN6.out.upd_ hU9 (fun b hb => by omega)).weaken (fun b hb => by omega), HU6.out.trans hU9 (fun b hb h => by omega)⟩
  refine congrArg Ending.returned (congrArg Value.agg ?_)
  show _ = (#[.int .i64 t.kind, .slice RB t.rs.length rd, .int .i64 am', .slice SB (mirS t).length sd, .int .i64 t.mn, .int .i64 t.mx, .bool t.lz, .int .i64 0, .string ByteArray.empty] : Array Value)
  rw [mirS_len]
  rfl
theorem turned_any (t : Tree) (w : World) (S : Nat → Prop) (cs : Array Value) (hf : FineT t) (h : NodeR w S cs t) : Calls Try.prog 19 #[.agg cs] w (TurnPost w (mirT t)) := turned_go _ t w S cs (Nat.le_refl _) hf h
end Go.Proofs.Ytlaofcgllchedaa

/-
  The walk of printer.node on classes and rows that may be.
-/
namespace Go.Proofs.Ytlaofcgllchedaa
open Go.RowKit
set_option linter.unusedVariables false

def plainB (t : Tree) : Bool := decide (t.rs.length = 0) && decide (t.am = 0)
def countB (t : Tree) : Bool := decide (t.mn = 0) && (decide (t.mx = 0) && !t.lz)
def groupB (t : Tree) : Bool := decide (t.ix = 0) && t.nm.toList.isEmpty
def asB (x : Int) : Bool := decide (x = 1 ∨ x = 2 ∨ x = 4 ∨ x = 8 ∨ x = 16 ∨ x = 32)
/-- may a node be, groups apart? -/
def nodeB (t : Tree) : Bool :=
  if t.kind = 1 then plainB t && (decide (t.subs.length = 0) && (countB t && groupB t))
  else if t.kind = 2 then decide (t.am = 0) && (decide (t.subs.length = 0) && (countB t && (groupB t && rightB t.rs)))
  else if t.kind = 3 then decide (t.rs.length = 0) && (decide (t.subs.length = 0) && (countB t && (groupB t && asB t.am)))
  else if t.kind = 4 ∨ t.kind = 5 then plainB t && (decide (2 ≤ t.subs.length) && (countB t && groupB t))
  else if t.kind = 6 then plainB t && (decide (t.subs.length = 1) && (groupB t && (decide (0 ≤ t.mn ∧ t.mn ≤ 1000) && decide (t.mx = -1 ∨ t.mn ≤ t.mx ∧ t.mx ≤ 1000))))
  else false

set_option maxRecDepth 100000 in
set_option maxHeartbeats 8000000 in
theorem node_yes (t : Tree) (w : World) (S : Nat → Prop) (cs : Array Value) (hk : t.kind = 2 ∨ t.kind = 4) (hy : nodeB t = true) (h1 : NodeR w S cs t) :
    Calls Try.prog 29 #[.agg cs] w fun e w' => e = .returned (.bool true) ∧ Upd Nob w w' := by
  obtain ⟨RA, rc, SA, sc, rfl, hr1, ho, hs1⟩ := h1.top
  have C0 := Cells.new w 30 (nodeCells t RA rc SA sc)
  have hU := (Upd.refl Nob w).alloc (.cells (nodeCells t RA rc SA sc) 30)
  have HR := hideP (hr1.upd hU (fun _ _ => not_nob))
  have hnl := ho.n
  have hrn := hr1.n
  clear h1 hr1 hs1 ho
  unfold nodeCells at C0 hU HR
  unfold nodeCells
  have HV := hideP hy
  have HK := hideP hk
  clear hy hk
  go_enter Try.func29, Try.ntmps29
  go_upto_region 1 with fail
  generalize w.alloc (.cells #[.int .i64 t.kind, .slice RA t.rs.length rc, .int .i64 t.am, .slice SA t.subs.length sc, .int .i64 t.mn, .int .i64 t.mx, .bool t.lz, .int .i64 t.ix, .string t.nm] 30) = w2 at *
  have HU := hideP hU
  obtain ⟨e0, e1, e2, e3, e4, e5, e6, e7, e8⟩ := nine C0
  clear C0 hU
  have b1 : ∀ x : Int, ¬ x = 0 → (x == 0) = false := fun x h => by simpa using h
  have HB := hideP b1
  clear b1
  go_cut [3] (fun v3 wc => v3 = .bool (plainB t) ∧ w2 = wc)
  case first =>
    by_cases h0 : t.rs.length = 0
    · have hb : ((t.rs.length : Int) == 0) = true := by simp [h0]
      by_cases ha : t.am = 0
      · have hc : (t.am == 0) = true := by simp [ha]
        have HQ := hideP (show plainB t = true by simp [plainB, h0, ha])
        clear h0 ha
        go_wp2_with fail
        go_meet
        exact ⟨by rw [HQ.out], rfl⟩
      · have hc : (t.am == 0) = false := HB.out _ ha
        have HQ := hideP (show plainB t = false by simp [plainB, h0, ha])
        clear h0 ha
        go_wp2_with fail
        go_meet
        exact ⟨by rw [HQ.out], rfl⟩
    · have hb : ((t.rs.length : Int) == 0) = false := HB.out _ (by omega)
      have HQ := hideP (show plainB t = false by simp [plainB, h0])
      clear h0
      go_wp2_with fail
      go_meet
      exact ⟨by rw [HQ.out], rfl⟩
  case rest =>
  obtain ⟨rfl, rfl⟩ := hcut
  go_upto_region 2 with fail
  go_cut [4] (fun v4 wc => v4 = .bool (countB t) ∧ w2 = wc)
  case first =>
    by_cases h0 : t.mn = 0
    · have c_h0 : (t.mn == 0) = true := by simp [h0]
      by_cases h1 : t.mx = 0
      · have c_h1 : (t.mx == 0) = true := by simp [h1]
        have HQ := hideP (show countB t = !t.lz by simp [countB, h0, h1])
        clear h0 h1
        go_wp2_with fail
        go_meet
        exact ⟨by rw [HQ.out], rfl⟩
      · have c_h1 : (t.mx == 0) = false := HB.out _ h1
        have HQ := hideP (show countB t = false by simp [countB, h0, h1])
        clear h0 h1
        go_wp2_with fail
        go_meet
        exact ⟨by rw [HQ.out], rfl⟩
    · have c_h0 : (t.mn == 0) = false := HB.out _ h0
      have HQ := hideP (show countB t = false by simp [countB, h0])
      clear h0
      go_wp2_with fail
      go_meet
      exact ⟨by rw [HQ.out], rfl⟩
  case rest =>
  obtain ⟨rfl, rfl⟩ := hcut
  go_upto_region 3 with fail
  go_cut [5] (fun v5 wc => v5 = .bool (groupB t) ∧ w2 = wc)
  case first =>
    by_cases h0 : t.ix = 0
    · have c_h0 : (t.ix == 0) = true := by simp [h0]
      have HQ := hideP (show groupB t = t.nm.toList.isEmpty by simp [groupB, h0])
      clear h0
      go_wp2_with fail
      go_meet
      exact ⟨by rw [HQ.out], rfl⟩
    · have c_h0 : (t.ix == 0) = false := HB.out _ h0
      have HQ := hideP (show groupB t = false by simp [groupB, h0])
      clear h0
      go_wp2_with fail
      go_meet
      exact ⟨by rw [HQ.out], rfl⟩
  case rest =>
  obtain ⟨rfl, rfl⟩ := hcut
  go_upto_region 4 with fail
  generalize hP : plainB t = P at *
  generalize hC : countB t = C at *
  generalize hG : groupB t = G at *
  have HALL := hideP (And.intro hP (And.intro hC hG))
  clear hP hC hG
  rcases HK.out with hk | hk
  · have hq := HV.out
    unfold nodeB at hq
    rw [if_neg (by omega), if_pos hk, HALL.out.2.1, HALL.out.2.2] at hq
    simp only [Bool.and_eq_true, decide_eq_true_eq] at hq
    obtain ⟨ha, hs, rfl, rfl, hr⟩ := hq
    have k1 : (t.kind == 1) = false := by rw [hk]; rfl
    have k2 : (t.kind == 2) = true := by rw [hk]; rfl
    have c1 : (t.am == 0) = true := by rw [ha]; rfl
    have c2 : ((t.subs.length : Int) == 0) = true := by rw [hs]; rfl
    have HRB := hideP hr
    clear hk ha hs hr
    go_wp2_with (go_at_call 44; refine (right_any _ _ _ _ _ _ HR.out).mono ?_; rintro e w3 ⟨rfl, hU3⟩; rw [HRB.out]; have HU3 := hideP (HU.out.trans hU3 (fun _ _ h => h)); clear hU3)
    go_ret
    exact ⟨rfl, HU3.out⟩
  · have hq := HV.out
    unfold nodeB at hq
    rw [if_neg (by omega), if_neg (by omega), if_neg (by omega), if_pos (.inl hk), HALL.out.1, HALL.out.2.1, HALL.out.2.2] at hq
    simp only [Bool.and_eq_true, decide_eq_true_eq] at hq
    obtain ⟨rfl, hs, rfl, rfl⟩ := hq
    have k1 : (t.kind == 1) = false := by rw [hk]; rfl
    have k2 : (t.kind == 2) = false := by rw [hk]; rfl
    have k3 : (t.kind == 3) = false := by rw [hk]; rfl
    have k4 : (t.kind == 4) = true := by rw [hk]; rfl
    have c1 : (2 : Int) ≤ (t.subs.length : Int) := by omega
    clear hk hs
    go_wp2_with fail
    go_ret
    exact ⟨rfl, HU.out⟩
end Go.Proofs.Ytlaofcgllchedaa
