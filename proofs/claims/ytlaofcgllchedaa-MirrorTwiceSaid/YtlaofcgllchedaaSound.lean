/-
  The walks of printer.sound and printer.Sound on trees of classes and rows that may be.
-/
import Derived.Test.YtlaofcgllchedaaNode
namespace Go.Proofs.Ytlaofcgllchedaa
open Go.RowKit
set_option linter.unusedVariables false

mutual
/-- how many nodes -/
def cntT : Tree → Nat
  | .mk k rs am subs mn mx lz ix nm => 1 + cntL subs
def cntL : List Tree → Nat
  | [] => 0
  | t :: l => cntT t + cntL l
end
/-- every node may be; no more than d levels -/
def OkT (t : Tree) (d : Nat) : Prop :=
  (t.kind = 2 ∨ t.kind = 4) ∧ nodeB t = true ∧ 1 ≤ d ∧ ∀ i (h : i < t.subs.length), OkT t.subs[i] (d - 1)
termination_by SizeOf.sizeOf t
decreasing_by exact Tree.sub_lt (List.getElem_mem h)
theorem OkT.top {t : Tree} {d : Nat} (h : OkT t d) : (t.kind = 2 ∨ t.kind = 4) ∧ nodeB t = true ∧ 1 ≤ d ∧ ∀ (i : Nat) x, t.subs[i]? = some x → OkT x (d - 1) := by
  rw [OkT] at h
  exact ⟨h.1, h.2.1, h.2.2.1, fun i x hx => by obtain ⟨hi, rfl⟩ := List.getElem?_eq_some_iff.1 hx; exact h.2.2.2 i hi⟩
theorem cntT_eq (t : Tree) : cntT t = 1 + cntL t.subs := by
  obtain ⟨k, r, a, l, m, mx, z, i, n⟩ := t
  rw [cntT]
  rfl
theorem cntL_append : ∀ (l m : List Tree), cntL (l ++ m) = cntL l + cntL m
  | [], m => by simp [cntL]
  | t :: l, m => by simp only [List.cons_append, cntL, cntL_append l m]; omega
theorem cntL_step {l : List Tree} {k : Nat} {x : Tree} (hx : l[k]? = some x) : cntL (l.take (k + 1)) = cntL (l.take k) + cntT x := by
  rw [List.take_add_one, hx, cntL_append]
  simp [cntL]
theorem cntL_take (l : List Tree) (k : Nat) : cntL (l.take k) ≤ cntL l := by
  have := cntL_append (l.take k) (l.drop k)
  rw [List.take_append_drop] at this
  omega

set_option maxRecDepth 100000 in
set_option maxHeartbeats 8000000 in
theorem sound_go (n : Nat) : ∀ (t : Tree) (w : World) (S : Nat → Prop) (cs : Array Value) (e l : Nat) (d : Int) (lb : Nat), SizeOf.sizeOf t ≤ n → OkT t e → NodeR w S cs t → (∀ k, S k → k ≠ lb) → Cells w lb 3 #[.int .i64 (l : Int)] → cntT t ≤ l → l ≤ 200000 → 0 ≤ d → d + e ≤ 10001 →
    Calls Try.prog 22 #[.agg cs, .int .i64 d, .pointer (some ⟨lb, 0, none⟩)] w fun e w' => e = .returned (.bool true) ∧ Cells w' lb 3 #[.int .i64 ((l - cntT t : Nat) : Int)] ∧ Upd (fun b => b = lb) w w' := by
  induction n with
  | zero => exact fun t _ _ _ _ _ _ _ h => absurd h (size_pos t)
  | succ n ih =>
  intro t w S cs e l d lb hn hok h1 hSl hl hc hl2 hd0 hd
  obtain ⟨RA, rc, SA, sc, rfl, hr1, ho, hs1⟩ := h1.top
  obtain ⟨k1, k2, k3, k4⟩ := hok.top
  have C0 := Cells.new w 30 (nodeCells t RA rc SA sc)
  have hU := (Upd.refl Nob w).alloc (.cells (nodeCells t RA rc SA sc) 30)
  have hlb := hl.lt
  have hl0 := hl.upd hU not_nob
  have hct := cntT_eq t
  have HCT := hideP hct
  have IH := hideP ih
  have HN := hideP hn
  have HK := hideP (And.intro k1 k2)
  have HK4 := hideP k4
  have H1 := hideP (h1.upd_ hU (fun _ _ => not_nob))
  have HSL := hideP hSl
  have hnl := ho.n
  clear ih hn h1 hr1 hs1 ho k1 k2 k4 hok hSl hl hct
  have e0 : (w.alloc (.cells (nodeCells t RA rc SA sc) 30)).cell? ⟨lb, 0, none⟩ = some (.int .i64 (l : Int)) := hl0.cellv rfl
  have f0 : (w.alloc (.cells (nodeCells t RA rc SA sc) 30)).frozen? ⟨lb, 0, none⟩ = false := hl0.frozen _
  unfold nodeCells at C0 hU H1 e0 f0 hl0
  unfold nodeCells
  go_enter Try.func22, Try.ntmps22
  go_upto_region 1 with fail
  generalize w.alloc (.cells #[.int .i64 t.kind, .slice RA t.rs.length rc, .int .i64 t.am, .slice SA t.subs.length sc, .int .i64 t.mn, .int .i64 t.mx, .bool t.lz, .int .i64 t.ix, .string t.nm] 30) = w2 at *
  obtain ⟨l', hl'⟩ : ∃ l' : Nat, (l : Int) - 1 = (l' : Int) ∧ l = l' + 1 := ⟨l - 1, by have := HCT.out; omega, by have := HCT.out; omega⟩
  have hlm := hl'.1
  have HLE := hideP hl'.2
  have HC0 := hideP C0
  have HU := hideP hU
  have hbl : w.heap.size ≠ lb := by omega
  have HL0 := hideP hl0
  clear C0 hU hl' hl0
  go_upto_region 2 with fail
  have HL3 := hideP (HL0.out.set_ 0 (.int .i64 (l' : Int)))
  have hU3 := (Upd.refl (fun b => b = lb) w2).setCell ⟨lb, 0, none⟩ (.int .i64 (l' : Int)) (fun _ => rfl)
  have HU3 := hideP hU3
  clear hU3 e0 f0
  generalize w2.setCell ⟨lb, 0, none⟩ (.int .i64 (l' : Int)) = w3 at *
  have HC3 := hideP (HC0.out.upd HU3.out hbl)
  have HN3 := hideP (H1.out.upd_ HU3.out HSL.out)
  have e0 : w3.cell? ⟨lb, 0, none⟩ = some (.int .i64 (l' : Int)) := HL3.out.cellv rfl
  obtain ⟨n0, n1, n2, n3, n4, n5, n6, n7, n8⟩ := nine HC3.out
  have g0 : ¬ (l' : Int) < 0 := by omega
  have g1 : ¬ (10000 : Int) < d := by omega
  go_wp2_with (go_at_call 29; refine (node_yes t _ _ _ HK.out.1 HK.out.2 HN3.out).mono ?_; rintro e w4 ⟨rfl, hU4⟩; have m3 : w4.cell? ⟨w.heap.size, 0 + 3, none⟩ = some (.slice SA t.subs.length sc) := (HC3.out.upd hU4 not_nob).cellv rfl)
  have HN4 := hideP (HN3.out.upd_ hU4 (fun _ _ => not_nob)).open_.2.2
  have HL4 := hideP (HL3.out.upd hU4 not_nob)
  have HU4 := hideP (HU3.out.trans hU4 (fun _ _ h => absurd h not_nob))
  clear hU4 n0 n1 n2 n3 n4 n5 n6 n7 n8 e0 m3
  go_loopg [30] t.subs.length (fun gk v30 wr => ∃ k : Nat, k + gk = t.subs.length ∧ v30 = .int .i64 (k : Int) ∧ Cells wr lb 3 #[.int .i64 ((l' - cntL (t.subs.take k) : Nat) : Int)] ∧ Upd (fun b => b = lb) w4 wr)
  case atStart => exact ⟨0, by omega, rfl, HL4.out, Upd.refl _ _⟩
  case round =>
    obtain ⟨k, hk, rfl, hL, hUr⟩ := hrel
    by_cases hlt : k < t.subs.length
    · have g2 : (k : Int) < (t.subs.length : Int) := by omega
      obtain ⟨ad, g, o, x, PA, pc, QA, qc, rfl, hadd, hSg, hg, hx, hX, hlx, hcs⟩ := NodeR.sub HN4.out hlt
      have up : ∀ (a : Addr) v, a.block < w4.heap.size → a.block ≠ lb → w4.cell? a = some v → wr.cell? a = some v := fun a v hb hne ha => (hUr.cell hb hne).trans ha
      obtain ⟨p0, p1, p2, p3, p4, p5, p6, p7, p8⟩ := sub_cells (fun j v hv => up ⟨g, o + j, none⟩ v hg (HSL.out g hSg) (hcs j v hv))
      have hxn : SizeOf.sizeOf x ≤ n := by have := HN.out; omega
      have hUa := (Upd.refl Nob wr).alloc (.cells (nodeCells x PA pc QA qc) 30)
      have HX := hideP ((hX.upd_ hUr HSL.out).upd_ hUa (fun _ _ => not_nob))
      have HOX := hideP (HK4.out k x hx)
      have hst := cntL_step hx
      have htk := cntL_take t.subs (k + 1)
      have q1 : cntT x ≤ l' - cntL (t.subs.take k) := by have := HCT.out; have := HLE.out; omega
      have q2 : l' - cntL (t.subs.take k) ≤ 200000 := by have := HLE.out; omega
      have HST := hideP hst
      clear hst htk
      have HLa := hideP (hL.upd hUa not_nob)
      have CX := Cells.new wr 30 (nodeCells x PA pc QA qc)
      have HUa := hideP (hUr.trans hUa (fun _ _ h => absurd h not_nob))
      clear up hcs hX hx hlx hL hUr hUa
      unfold nodeCells at CX HX HLa HUa
      go_upto_region 7 with fail
      generalize wr.alloc (.cells #[.int .i64 x.kind, .slice PA x.rs.length pc, .int .i64 x.am, .slice QA x.subs.length qc, .int .i64 x.mn, .int .i64 x.mx, .bool x.lz, .int .i64 x.ix, .string x.nm] 30) = w5 at *
      obtain ⟨y0, y1, y2, y3, y4, y5, y6, y7, y8⟩ := nine CX
      have HK5 := hideP hk
      clear p0 p1 p2 p3 p4 p5 p6 p7 p8 hk CX
      have vw : IntKind.i64.wrap (d + 1) = d + 1 := by rw [IntKind.wrap_i64]; omega
      go_wp2_with fail
      refine (IH.out x w5 S _ (e - 1) (l' - cntL (t.subs.take k)) (d + 1) lb hxn HOX.out HX.out HSL.out HLa.out q1 q2 (by omega) (by omega)).mono ?_
      rintro e w6 ⟨rfl, hL6, hU6⟩
      have HL6 := hideP hL6
      have HU6 := hideP (HUa.out.trans hU6 (fun _ _ h => h))
      clear hL6 hU6 y0 y1 y2 y3 y4 y5 y6 y7 y8
      go_wp2_with fail
      have hk := HK5.out
      go_roundg (t.subs.length - (k + 1))
      case measure => omega
      case rel => exact ⟨k + 1, by omega, by go_num, by rw [HST.out, ← Nat.sub_sub]; exact HL6.out, HU6.out⟩
    · have g2 : ¬ (k : Int) < (t.subs.length : Int) := by omega
      obtain rfl : k = t.subs.length := by omega
      have HLZ := hideP hL
      have HUZ := hideP hUr
      clear hL hUr
      go_wp2_with fail
      go_ret
      refine ⟨rfl, ?_, (((HU.out.mono (G := fun b => b = lb) (fun _ _ h => absurd h not_nob))).trans HU4.out (fun _ _ h => h)).trans HUZ.out (fun _ _ h => h)⟩
      rw [show l - cntT t = l' - cntL (t.subs.take t.subs.length) by rw [List.take_length]; have := HCT.out; have := HLE.out; omega]
      exact HLZ.out

set_option maxRecDepth 100000 in
set_option maxHeartbeats 4000000 in
theorem Sound_yes (t : Tree) (w : World) (S : Nat → Prop) (cs : Array Value) (e : Nat) (hok : OkT t e) (he : e ≤ 10000) (hc : cntT t ≤ 200000) (h1 : NodeR w S cs t) :
    Calls Try.prog 18 #[.agg cs] w fun e w' => e = .returned (.int .i64 0) ∧ Upd Nob w w' := by
  have h1 := h1.lower
  obtain ⟨RA, rc, SA, sc, rfl, hr1, ho, hs1⟩ := h1.top
  have HO := hideP hok
  have HN := hideP h1
  clear h1 hr1 hs1 ho hok
  unfold nodeCells at HN ⊢
  go_enter Try.func18, Try.ntmps18
  go_wp2_with fail
  have hU2 := ((Upd.refl Nob w).alloc (.cells #[.int .i64 t.kind, .slice RA t.rs.length rc, .int .i64 t.am, .slice SA t.subs.length sc, .int .i64 t.mn, .int .i64 t.mx, .bool t.lz, .int .i64 t.ix, .string t.nm] 30)).alloc (.cells #[.int .i64 200000] 3)
  have CL := Cells.new (w.alloc (.cells #[.int .i64 t.kind, .slice RA t.rs.length rc, .int .i64 t.am, .slice SA t.subs.length sc, .int .i64 t.mn, .int .i64 t.mx, .bool t.lz, .int .i64 t.ix, .string t.nm] 30)) 3 #[.int .i64 200000]
  rw [World.size_alloc] at CL
  refine (sound_go _ t _ _ _ e 200000 1 (w.heap.size + 1) (Nat.le_refl _) HO.out (HN.out.upd_ hU2 (fun _ _ => not_nob)) (fun k hk => by omega) CL hc (by omega) (by omega) (by omega)).mono ?_
  rintro e w3 ⟨rfl, -, hU3⟩
  have HU3 := hideP (hU2.trans hU3 (fun b hb h => by omega))
  clear hU2 CL hU3
  go_wp2_with fail
  go_ret
  exact ⟨rfl, HU3.out⟩

set_option maxRecDepth 100000 in
set_option maxHeartbeats 4000000 in
theorem mirror_yes (t : Tree) (w : World) (S : Nat → Prop) (cs : Array Value) (e : Nat) (hok : OkT t e) (he : e ≤ 10000) (hc : cntT t ≤ 200000) (hf : FineT t) (h1 : NodeR w S cs t) :
    Calls Try.prog 11 #[.agg cs] w fun e w' => ∃ cs', e = .returned (.tuple #[.agg cs', .int .i64 0]) ∧ NodeR w' (fun b => w.heap.size ≤ b) cs' (mirT t) ∧ Upd Nob w w' := by
  have h1 := h1.lower
  obtain ⟨RA, rc, SA, sc, rfl, hr1, ho, hs1⟩ := h1.top
  have HO := hideP hok
  have HN := hideP h1
  have HF := hideP hf
  clear h1 hr1 hs1 ho hok hf
  unfold nodeCells at HN ⊢
  go_enter Try.func11, Try.ntmps11
  go_upto_region 1 with fail
  have C0 := (Cells.new w 30 #[.int .i64 t.kind, .slice RA t.rs.length rc, .int .i64 t.am, .slice SA t.subs.length sc, .int .i64 t.mn, .int .i64 t.mx, .bool t.lz, .int .i64 t.ix, .string t.nm]).alloc (.cells #[.int .i64 0, .slice none 0 0, .int .i64 0, .slice none 0 0, .int .i64 0, .int .i64 0, .bool false, .int .i64 0, .string ⟨#[]⟩] 30)
  have C1 := Cells.new (w.alloc (.cells #[.int .i64 t.kind, .slice RA t.rs.length rc, .int .i64 t.am, .slice SA t.subs.length sc, .int .i64 t.mn, .int .i64 t.mx, .bool t.lz, .int .i64 t.ix, .string t.nm] 30)) 30 #[.int .i64 0, .slice none 0 0, .int .i64 0, .slice none 0 0, .int .i64 0, .int .i64 0, .bool false, .int .i64 0, .string ⟨#[]⟩]
  rw [World.size_alloc] at C1
  have hU := ((Upd.refl Nob w).alloc (.cells #[.int .i64 t.kind, .slice RA t.rs.length rc, .int .i64 t.am, .slice SA t.subs.length sc, .int .i64 t.mn, .int .i64 t.mx, .bool t.lz, .int .i64 t.ix, .string t.nm] 30)).alloc (.cells #[.int .i64 0, .slice none 0 0, .int .i64 0, .slice none 0 0, .int .i64 0, .int .i64 0, .bool false, .int .i64 0, .string ⟨#[]⟩] 30)
  generalize (w.alloc (.cells #[.int .i64 t.kind, .slice RA t.rs.length rc, .int .i64 t.am, .slice SA t.subs.length sc, .int .i64 t.mn, .int .i64 t.mx, .bool t.lz, .int .i64 t.ix, .string t.nm] 30)).alloc (.cells #[.int .i64 0, .slice none 0 0, .int .i64 0, .slice none 0 0, .int .i64 0, .int .i64 0, .bool false, .int .i64 0, .string ⟨#[]⟩] 30) = w2 at *
  have hlow := C1.lt
  obtain ⟨e0, e1, e2, e3, e4, e5, e6, e7, e8⟩ := nine C0
  have HC0 := hideP C0
  have HC1 := hideP C1
  have HU := hideP hU
  clear C0 C1 hU
  go_wp2_with fail
  refine (Sound_yes t w2 _ _ e HO.out he hc (HN.out.upd_ HU.out (fun _ _ => not_nob))).mono ?_
  rintro e w3 ⟨rfl, hU3⟩
  obtain ⟨d0, d1, d2, d3, d4, d5, d6, d7, d8⟩ := nine (HC0.out.upd hU3 not_nob)
  have HC3 := hideP (HC1.out.upd hU3 not_nob)
  have HU3 := hideP (HU.out.trans hU3 (fun _ _ h => h))
  have hsz3 := hU3.size
  clear e0 e1 e2 e3 e4 e5 e6 e7 e8 hU3
  go_wp2_with fail
  refine (turned_any t w3 _ _ HF.out (HN.out.upd_ HU3.out (fun _ _ => not_nob))).mono ?_
  rintro e w4 ⟨cs', rfl, hN4, hU4⟩
  obtain ⟨PB, pd, QB, qd, rfl, -⟩ := hN4.top
  unfold nodeCells at hN4 ⊢
  have C4 := HC3.out.upd hU4 not_nob
  obtain ⟨z0, z1, z2, z3, z4, z5, z6, z7, z8⟩ := nine C4
  obtain ⟨zf0, zf1, zf2, zf3, zf4, zf5, zf6, zf7, zf8⟩ := nine_ C4
  have C9 := cells9_all C4 (.int .i64 (mirT t).kind) (.slice PB (mirT t).rs.length pd) (.int .i64 (mirT t).am) (.slice QB (mirT t).subs.length qd) (.int .i64 (mirT t).mn) (.int .i64 (mirT t).mx) (.bool (mirT t).lz) (.int .i64 (mirT t).ix) (.string (mirT t).nm)
  have hU9 := upd9 w4 (w.heap.size + 1) 0 (.int .i64 (mirT t).kind) (.slice PB (mirT t).rs.length pd) (.int .i64 (mirT t).am) (.slice QB (mirT t).subs.length qd) (.int .i64 (mirT t).mn) (.int .i64 (mirT t).mx) (.bool (mirT t).lz) (.int .i64 (mirT t).ix) (.string (mirT t).nm)
  have HN4 := hideP hN4
  have HU4 := hideP (HU3.out.trans hU4 (fun _ _ h => h))
  clear hN4 hU4 d0 d1 d2 d3 d4 d5 d6 d7 d8
  go_wp2_with fail
  show bodyPost _ _ _ _ _ (put9 w4 (w.heap.size + 1) 0 (.int .i64 (mirT t).kind) (.slice PB (mirT t).rs.length pd) (.int .i64 (mirT t).am) (.slice QB (mirT t).subs.length qd) (.int .i64 (mirT t).mn) (.int .i64 (mirT t).mx) (.bool (mirT t).lz) (.int .i64 (mirT t).ix) (.string (mirT t).nm))
  clear z0 z1 z2 z3 z4 z5 z6 z7 z8 zf0 zf1 zf2 zf3 zf4 zf5 zf6 zf7 zf8 C4
  generalize put9 w4 (w.heap.size + 1) 0 (.int .i64 (mirT t).kind) (.slice PB (mirT t).rs.length pd) (.int .i64 (mirT t).am) (.slice QB (mirT t).subs.length qd) (.int .i64 (mirT t).mn) (.int .i64 (mirT t).mx) (.bool (mirT t).lz) (.int .i64 (mirT t).ix) (.string (mirT t).nm) = wz at *
  obtain ⟨q0, q1, q2, q3, q4, q5, q6, q7, q8⟩ := nine C9
  refine bodyPost_ret (by simp [results, Try.results11, go_sem, q0, q1, q2, q3, q4, q5, q6, q7, q8]; try rfl) rfl ?_
  exact ⟨_, rfl, (HN4.out.upd_ hU9 (fun b hb => by omega)).weaken (fun b hb => by omega), HU4.out.trans hU9 (fun b hb h => by omega)⟩
end Go.Proofs.Ytlaofcgllchedaa
