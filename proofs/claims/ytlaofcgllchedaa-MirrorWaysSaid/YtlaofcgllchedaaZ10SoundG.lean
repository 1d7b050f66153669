/-
  Sound, SoundG, put together.
-/
import Derived.Test.YtlaofcgllchedaaZ05Node
import Derived.Test.YtlaofcgllchedaaZNodeG

/-
  The walks of printer.sound and printer.Sound on trees of classes and rows that may be.
-/
namespace Go.Proofs.Ytlaofcgllchedaa
open Go.RowKit
set_option linter.unusedVariables false

mutual
/-- how many nodes -/
def cntT : Tree → Nat
  | .mk k rs am subs mn mx lz ix nm => 1 + cntL subs
def cntL : List Tree → Nat
  | [] => 0
  | t :: l => cntT t + cntL l
end
/-- every node may be; no more than d levels -/
def OkT (t : Tree) (d : Nat) : Prop :=
  (t.kind = 2 ∨ t.kind = 4) ∧ nodeB t = true ∧ 1 ≤ d ∧ ∀ i (h : i < t.subs.length), OkT t.subs[i] (d - 1)
termination_by SizeOf.sizeOf t
decreasing_by exact Tree.sub_lt (List.getElem_mem h)
theorem OkT.top {t : Tree} {d : Nat} (h : OkT t d) : (t.kind = 2 ∨ t.kind = 4) ∧ nodeB t = true ∧ 1 ≤ d ∧ ∀ (i : Nat) x, t.subs[i]? = some x → OkT x (d - 1) := by
  rw [OkT] at h
  exact ⟨h.1, h.2.1, h.2.2.1, fun i x hx => by obtain ⟨hi, rfl⟩ := List.getElem?_eq_some_iff.1 hx; exact h.2.2.2 i hi⟩
theorem cntT_eq (t : Tree) : cntT t = 1 + cntL t.subs := by
  obtain ⟨k, r, a, l, m, mx, z, i, n⟩ := t
  rw [cntT]
  rfl
theorem cntL_append : ∀ (l m : List Tree), cntL (l ++ m) = cntL l + cntL m
  | [], m => by simp [cntL]
  | t :: l, m => by simp only [List.cons_append, cntL, cntL_append l m]; omega
theorem cntL_step {l : List Tree} {k : Nat} {x : Tree} (hx : l[k]? = some x) : cntL (l.take (k + 1)) = cntL (l.take k) + cntT x := by
  rw [List.take_add_one, hx, cntL_append]
  simp [cntL]
theorem cntL_take (l : List Tree) (k : Nat) : cntL (l.take k) ≤ cntL l := by
  have := cntL_append (l.take k) (l.drop k)
  rw [List.take_append_drop] at this
  omega

set_option maxRecDepth 100000 in
set_option maxHeartbeats 8000000 in
theorem sound_go (n : Nat) : ∀ (t : Tree) (w : World) (S : Nat → Prop) (cs : Array Value) (e l : Nat) (d : Int) (lb : Nat), SizeOf.sizeOf t ≤ n → OkT t e → NodeR w S cs t → (∀ k, S k → k ≠ lb) → Cells w lb 3 #[.int .i64 (l : Int)] → cntT t ≤ l → l ≤ 200000 → 0 ≤ d → d + e ≤ 10001 →
    Calls Try.prog 22 #[.agg cs, .int .i64 d, .pointer (some ⟨lb, 0, none⟩)] w fun e w' => e = .returned (.bool true) ∧ Cells w' lb 3 #[.int .i64 ((l - cntT t : Nat) : Int)] ∧ Upd (fun b => b = lb) w w' := by
  induction n with
  | zero => exact fun t _ _ _ _ _ _ _ h => absurd h (size_pos t)
  | succ n ih =>
  intro t w S cs e l d lb hn hok h1 hSl hl hc hl2 hd0 hd
  obtain ⟨RA, rc, SA, sc, rfl, hr1, ho, hs1⟩ := h1.top
  obtain ⟨k1, k2, k3, k4⟩ := hok.top
  have C0 := Cells.new w 30 (nodeCells t RA rc SA sc)
  have hU := (Upd.refl Nob w).alloc (.cells (nodeCells t RA rc SA sc) 30)
  have hlb := hl.lt
  have hl0 := hl.upd hU not_nob
  have hct := cntT_eq t
  have HCT := hideP hct
  have IH := hideP ih
  have HN := hideP hn
  have HK := hideP (And.intro k1 k2)
  have HK4 := hideP k4
  have H1 := hideP (h1.upd_ hU (fun _ _ => not_nob))
  have HSL := hideP hSl
  have hnl := ho.n
  clear ih hn h1 hr1 hs1 ho k1 k2 k4 hok hSl hl hct
  have e0 : (w.alloc (.cells (nodeCells t RA rc SA sc) 30)).cell? ⟨lb, 0, none⟩ = some (.int .i64 (l : Int)) := hl0.cellv rfl
  have f0 : (w.alloc (.cells (nodeCells t RA rc SA sc) 30)).frozen? ⟨lb, 0, none⟩ = false := hl0.frozen _
  unfold nodeCells at C0 hU H1 e0 f0 hl0
  unfold nodeCells
  go_enter Try.func22, Try.ntmps22
  go_upto_region 1 with fail
  generalize w.alloc (.cells #[.int .i64 t.kind, .slice RA t.rs.length rc, .int .i64 t.am, .slice SA t.subs.length sc, .int .i64 t.mn, .int .i64 t.mx, .bool t.lz, .int .i64 t.ix, .string t.nm] 30) = w2 at *
  obtain ⟨l', hl'⟩ : ∃ l' : Nat, (l : Int) - 1 = (l' : Int) ∧ l = l' + 1 := ⟨l - 1, by have := HCT.out; omega, by have := HCT.out; omega⟩
  have hlm := hl'.1
  have HLE := hideP hl'.2
  have HC0 := hideP C0
  have HU := hideP hU
  have hbl : w.heap.size ≠ lb := by omega
  have HL0 := hideP hl0
  clear C0 hU hl' hl0
  go_upto_region 2 with fail
  have HL3 := hideP (HL0.out.set_ 0 (.int .i64 (l' : Int)))
  have hU3 := (Upd.refl (fun b => b = lb) w2).setCell ⟨lb, 0, none⟩ (.int .i64 (l' : Int)) (fun _ => rfl)
  have HU3 := hideP hU3
  clear hU3 e0 f0
  generalize w2.setCell ⟨lb, 0, none⟩ (.int .i64 (l' : Int)) = w3 at *
  have HC3 := hideP (HC0.out.upd HU3.out hbl)
  have HN3 := hideP (H1.out.upd_ HU3.out HSL.out)
  have e0 : w3.cell? ⟨lb, 0, none⟩ = some (.int .i64 (l' : Int)) := HL3.out.cellv rfl
  obtain ⟨n0, n1, n2, n3, n4, n5, n6, n7, n8⟩ := nine HC3.out
  have g0 : ¬ (l' : Int) < 0 := by omega
  have g1 : ¬ (10000 : Int) < d := by omega
  go_wp2_with (go_at_call 29; refine (node_yes t _ _ _ HK.out.1 HK.out.2 HN3.out).mono ?_; rintro e w4 ⟨rfl, hU4⟩; have m3 : w4.cell? ⟨w.heap.size, 0 + 3, none⟩ = some (.slice SA t.subs.length sc) := (HC3.out.upd hU4 not_nob).cellv rfl)
  have HN4 := hideP (HN3.out.upd_ hU4 (fun _ _ => not_nob)).open_.2.2
  have HL4 := hideP (HL3.out.upd hU4 not_nob)
  have HU4 := hideP (HU3.out.trans hU4 (fun _ _ h => absurd h not_nob))
  clear hU4 n0 n1 n2 n3 n4 n5 n6 n7 n8 e0 m3
  go_loopg [30] t.subs.length (fun gk v30 wr => ∃ k : Nat, k + gk = t.subs.length ∧ v30 = .int .i64 (k : Int) ∧ Cells wr lb 3 #[.int .i64 ((l' - cntL (t.subs.take k) : Nat) : Int)] ∧ Upd (fun b => b = lb) w4 wr)
  case atStart => exact ⟨0, by omega, rfl, HL4.out, Upd.refl _ _⟩
  case round =>
    obtain ⟨k, hk, rfl, hL, hUr⟩ := hrel
    by_cases hlt : k < t.subs.length
    · have g2 : (k : Int) < (t.subs.length : Int) := by omega
      obtain ⟨ad, g, o, x, PA, pc, QA, qc, rfl, hadd, hSg, hg, hx, hX, hlx, hcs⟩ := NodeR.sub HN4.out hlt
      have up : ∀ (a : Addr) v, a.block < w4.heap.size → a.block ≠ lb → w4.cell? a = some v → wr.cell? a = some v := fun a v hb hne ha => (hUr.cell hb hne).trans ha
      obtain ⟨p0, p1, p2, p3, p4, p5, p6, p7, p8⟩ := sub_cells (fun j v hv => up ⟨g, o + j, none⟩ v hg (HSL.out g hSg) (hcs j v hv))
      have hxn : SizeOf.sizeOf x ≤ n := by have := HN.out; omega
      have hUa := (Upd.refl Nob wr).alloc (.cells (nodeCells x PA pc QA qc) 30)
      have HX := hideP ((hX.upd_ hUr HSL.out).upd_ hUa (fun _ _ => not_nob))
      have HOX := hideP (HK4.out k x hx)
      have hst := cntL_step hx
      have htk := cntL_take t.subs (k + 1)
      have q1 : cntT x ≤ l' - cntL (t.subs.take k) := by have := HCT.out; have := HLE.out; omega
      have q2 : l' - cntL (t.subs.take k) ≤ 200000 := by have := HLE.out; omega
      have HST := hideP hst
      clear hst htk
      have HLa := hideP (hL.upd hUa not_nob)
      have CX := Cells.new wr 30 (nodeCells x PA pc QA qc)
      have HUa := hideP (hUr.trans hUa (fun _ _ h => absurd h not_nob))
      clear up hcs hX hx hlx hL hUr hUa
      unfold nodeCells at CX HX HLa HUa
      go_upto_region 7 with fail
      generalize wr.alloc (.cells #[.int .i64 x.kind, .slice PA x.rs.length pc, .int .i64 x.am, .slice QA x.subs.length qc, .int .i64 x.mn, .int .i64 x.mx, .bool x.lz, .int .i64 x.ix, .string x.nm] 30) = w5 at *
      obtain ⟨y0, y1, y2, y3, y4, y5, y6, y7, y8⟩ := nine CX
      have HK5 := hideP hk
      clear p0 p1 p2 p3 p4 p5 p6 p7 p8 hk CX
      have vw : IntKind.i64.wrap (d + 1) = d + 1 := by rw [IntKind.wrap_i64]; omega
      go_wp2_with fail
      refine (IH.out x w5 S _ (e - 1) (l' - cntL (t.subs.take k)) (d + 1) lb hxn HOX.out HX.out HSL.out HLa.out q1 q2 (by omega) (by omega)).mono ?_
      rintro e w6 ⟨rfl, hL6, hU6⟩
      have HL6 := hideP hL6
      have HU6 := hideP (HUa.out.trans hU6 (fun _ _ h => h))
      clear hL6 hU6 y0 y1 y2 y3 y4 y5 y6 y7 y8
      go_wp2_with fail
      have hk := HK5.out
      go_roundg (t.subs.length - (k + 1))
      case measure => omega
      case rel => exact ⟨k + 1, by omega, by go_num, by rw [HST.out, ← Nat.sub_sub]; exact HL6.out, HU6.out⟩
    · have g2 : ¬ (k : Int) < (t.subs.length : Int) := by omega
      obtain rfl : k = t.subs.length := by omega
      have HLZ := hideP hL
      have HUZ := hideP hUr
      clear hL hUr
      go_wp2_with fail
      go_ret
      refine ⟨rfl, ?_, (((HU.out.mono (G := fun b => b = lb) (fun _ _ h => absurd h not_nob))).trans HU4.out (fun _ _ h => h)).trans HUZ.out (fun _ _ h => h)⟩
      rw [show l - cntT t = l' - cntL (t.subs.take t.subs.length) by rw [List.take_length]; have := HCT.out; have := HLE.out; omega]
      exact HLZ.out

set_option maxRecDepth 100000 in
set_option maxHeartbeats 4000000 in
theorem Sound_yes (t : Tree) (w : World) (S : Nat → Prop) (cs : Array Value) (e : Nat) (hok : OkT t e) (he : e ≤ 10000) (hc : cntT t ≤ 200000) (h1 : NodeR w S cs t) :
    Calls Try.prog 18 #[.agg cs] w fun e w' => e = .returned (.int .i64 0) ∧ Upd Nob w w' := by
  have h1 := h1.lower
  obtain ⟨RA, rc, SA, sc, rfl, hr1, ho, hs1⟩ := h1.top
  have HO := hideP hok
  have HN := hideP h1
  clear h1 hr1 hs1 ho hok
  unfold nodeCells at HN ⊢
  go_enter Try.func18, Try.ntmps18
  go_wp2_with fail
  have hU2 := ((Upd.refl Nob w).alloc (.cells #[.int .i64 t.kind, .slice RA t.rs.length rc, .int .i64 t.am, .slice SA t.subs.length sc, .int .i64 t.mn, .int .i64 t.mx, .bool t.lz, .int .i64 t.ix, .string t.nm] 30)).alloc (.cells #[.int .i64 200000] 3)
  have CL := Cells.new (w.alloc (.cells #[.int .i64 t.kind, .slice RA t.rs.length rc, .int .i64 t.am, .slice SA t.subs.length sc, .int .i64 t.mn, .int .i64 t.mx, .bool t.lz, .int .i64 t.ix, .string t.nm] 30)) 3 #[.int .i64 200000]
  rw [World.size_alloc] at CL
  refine (sound_go _ t _ _ _ e 200000 1 (w.heap.size + 1) (Nat.le_refl _) HO.out (HN.out.upd_ hU2 (fun _ _ => not_nob)) (fun k hk => by omega) CL hc (by omega) (by omega) (by omega)).mono ?_
  rintro e w3 ⟨rfl, -, hU3⟩
  have HU3 := hideP (hU2.trans hU3 (fun b hb h => by omega))
  clear hU2 CL hU3
  go_wp2_with fail
  go_ret
  exact ⟨rfl, HU3.out⟩

set_option maxRecDepth 100000 in
set_option maxHeartbeats 4000000 in
theorem mirror_yes (t : Tree) (w : World) (S : Nat → Prop) (cs : Array Value) (e : Nat) (hok : OkT t e) (he : e ≤ 10000) (hc : cntT t ≤ 200000) (hf : FineT t) (h1 : NodeR w S cs t) :
    Calls Try.prog 11 #[.agg cs] w fun e w' => ∃ cs', e = .returned (.tuple #[.agg cs', .int .i64 0]) ∧ NodeR w' (fun b => w.heap.size ≤ b) cs' (mirT t) ∧ Upd Nob w w' := by
  have h1 := h1.lower
  obtain ⟨RA, rc, SA, sc, rfl, hr1, ho, hs1⟩ := h1.top
  have HO := hideP hok
  have HN := hideP h1
  have HF := hideP hf
  clear h1 hr1 hs1 ho hok hf
  unfold nodeCells at HN ⊢
  go_enter Try.func11, Try.ntmps11
  go_upto_region 1 with fail
  have C0 := (Cells.new w 30 #[.int .i64 t.kind, .slice RA t.rs.length rc, .int .i64 t.am, .slice SA t.subs.length sc, .int .i64 t.mn, .int .i64 t.mx, .bool t.lz, .int .i64 t.ix, .string t.nm]).alloc (.cells #[.int .i64 0, .slice none 0 0, .int .i64 0, .slice none 0 0, .int .i64 0, .int .i64 0, .bool false, .int .i64 0, .string ⟨#[]⟩] 30)
  have C1 := Cells.new (w.alloc (.cells #[.int .i64 t.kind, .slice RA t.rs.length rc, .int .i64 t.am, .slice SA t.subs.length sc, .int .i64 t.mn, .int .i64 t.mx, .bool t.lz, .int .i64 t.ix, .string t.nm] 30)) 30 #[.int .i64 0, .slice none 0 0, .int .i64 0, .slice none 0 0, .int .i64 0, .int .i64 0, .bool false, .int .i64 0, .string ⟨#[]⟩]
  rw [World.size_alloc] at C1
  have hU := ((Upd.refl Nob w).alloc (.cells #[.int .i64 t.kind, .slice RA t.rs.length rc, .int .i64 t.am, .slice SA t.subs.length sc, .int .i64 t.mn, .int .i64 t.mx, .bool t.lz, .int .i64 t.ix, .string t.nm] 30)).alloc (.cells #[.int .i64 0, .slice none 0 0, .int .i64 0, .slice none 0 0, .int .i64 0, .int .i64 0, .bool false, .int .i64 0, .string ⟨#[]⟩] 30)
  generalize (w.alloc (.cells #[.int .i64 t.kind, .slice RA t.rs.length rc, .int .i64 t.am, .slice SA t.subs.length sc, .int .i64 t.mn, .int .i64 t.mx, .bool t.lz, .int .i64 t.ix, .string t.nm] 30)).alloc (.cells #[.int .i64 0, .slice none 0 0, .int .i64 0, .slice none 0 0, .int .i64 0, .int .i64 0, .bool false, .int .i64 0, .string ⟨#[]⟩] 30) = w2 at *
  have hlow := C1.lt
  obtain ⟨e0, e1, e2, e3, e4, e5, e6, e7, e8⟩ := nine C0
  have HC0 := hideP C0
  have HC1 := hideP C1
  have HU := hideP hU
  clear C0 C1 hU
  go_wp2_with fail
  refine (Sound_yes t w2 _ _ e HO.out he hc (HN.out.upd_ HU.out (fun _ _ => not_nob))).mono ?_
  rintro e w3 ⟨rfl, hU3⟩
  obtain ⟨d0, d1, d2, d3, d4, d5, d6, d7, d8⟩ := nine (HC0.out.upd hU3 not_nob)
  have HC3 := hideP (HC1.out.upd hU3 not_nob)
  have HU3 := hideP (HU.out.trans hU3 (fun _ _ h => h))
  have hsz3 := hU3.size
  clear e0 e1 e2 e3 e4 e5 e6 e7 e8 hU3
  go_wp2_with fail
  refine (turned_any t w3 _ _ HF.out (HN.out.upd_ HU3.out (fun _ _ => not_nob))).mono ?_
  rintro e w4 ⟨cs', rfl, hN4, hU4⟩
  obtain ⟨PB, pd, QB, qd, rfl, -⟩ := hN4.top
  unfold nodeCells at hN4 ⊢
  have C4 := HC3.out.upd hU4 not_nob
  obtain ⟨z0, z1, z2, z3, z4, z5, z6, z7, z8⟩ := nine C4
  obtain ⟨zf0, zf1, zf2, zf3, zf4, zf5, zf6, zf7, zf8⟩ := nine_ C4
  have C9 := cells9_all C4 (.int .i64 (mirT t).kind) (.slice PB (mirT t).rs.length pd) (.int .i64 (mirT t).am) (.slice QB (mirT t).subs.length qd) (.int .i64 (mirT t).mn) (.int .i64 (mirT t).mx) (.bool (mirT t).lz) (.int .i64 (mirT t).ix) (.string (mirT t).nm)
  have hU9 := upd9 w4 (w.heap.size + 1) 0 (.int .i64 (mirT t).kind) (.slice PB (mirT t).rs.length pd) (.int .i64 (mirT t).am) (.slice QB (mirT t).subs.length qd) (.int .i64 (mirT t).mn) (.int .i64 (mirT t).mx) (.bool (mirT t).lz) (.int .i64 (mirT t).ix) (.string (mirT t).nm)
  have HN4 := hideP hN4
  have HU4 := hideP (HU3.out.trans hU4 (fun _ _ h => h))
  clear hN4 hU4 d0 d1 d2 d3 d4 d5 d6 d7 d8
  go_wp2_with fail
  show bodyPost _ _ _ _ _ (put9 w4 (w.heap.size + 1) 0 (.int .i64 (mirT t).kind) (.slice PB (mirT t).rs.length pd) (.int .i64 (mirT t).am) (.slice QB (mirT t).subs.length qd) (.int .i64 (mirT t).mn) (.int .i64 (mirT t).mx) (.bool (mirT t).lz) (.int .i64 (mirT t).ix) (.string (mirT t).nm))
  clear z0 z1 z2 z3 z4 z5 z6 z7 z8 zf0 zf1 zf2 zf3 zf4 zf5 zf6 zf7 zf8 C4
  generalize put9 w4 (w.heap.size + 1) 0 (.int .i64 (mirT t).kind) (.slice PB (mirT t).rs.length pd) (.int .i64 (mirT t).am) (.slice QB (mirT t).subs.length qd) (.int .i64 (mirT t).mn) (.int .i64 (mirT t).mx) (.bool (mirT t).lz) (.int .i64 (mirT t).ix) (.string (mirT t).nm) = wz at *
  obtain ⟨q0, q1, q2, q3, q4, q5, q6, q7, q8⟩ := nine C9
  refine bodyPost_ret (by simp [results, Try.results11, go_sem, q0, q1, q2, q3, q4, q5, q6, q7, q8]; try rfl) rfl ?_
  exact ⟨_, rfl, (HN4.out.upd_ hU9 (fun b hb => by omega)).weaken (fun b hb => by omega), HU4.out.trans hU9 (fun b hb h => by omega)⟩
end Go.Proofs.Ytlaofcgllchedaa

/-
  The walks of printer.sound, printer.Sound, mirror.Mirror on every tree.
-/
namespace Go.Proofs.Ytlaofcgllchedaa
open Go.RowKit
set_option linter.unusedVariables false

/-- a node that may be; of a group only how many Subs -/
def nodeOk (t : Tree) : Prop := (t.kind ≠ 7 ∧ nodeB t = true) ∨ (t.kind = 7 ∧ t.subs.length = 1 ∧ t.rs.length = 0)
/-- every node may be, from level d on -/
def OkA (t : Tree) (d : Int) : Prop :=
  nodeOk t ∧ d ≤ 10000 ∧ ∀ i (h : i < t.subs.length), OkA t.subs[i] (d + 1)
termination_by SizeOf.sizeOf t
decreasing_by exact Tree.sub_lt (List.getElem_mem h)
theorem OkA.top {t : Tree} {d : Int} (h : OkA t d) : nodeOk t ∧ d ≤ 10000 ∧ ∀ (i : Nat) x, t.subs[i]? = some x → OkA x (d + 1) := by
  rw [OkA] at h
  exact ⟨h.1, h.2.1, fun i x hx => by obtain ⟨hi, rfl⟩ := List.getElem?_eq_some_iff.1 hx; exact h.2.2 i hi⟩
theorem OkA.of {t : Tree} {d : Int} (h1 : nodeOk t) (h2 : d ≤ 10000) (h3 : ∀ (i : Nat) x, t.subs[i]? = some x → OkA x (d + 1)) : OkA t d := by
  rw [OkA]
  exact ⟨h1, h2, fun i hi => h3 i _ (List.getElem?_eq_getElem hi)⟩
/-- without groups -/
def NoG (t : Tree) : Prop := t.kind ≠ 7 ∧ ∀ i (h : i < t.subs.length), NoG t.subs[i]
termination_by SizeOf.sizeOf t
decreasing_by exact Tree.sub_lt (List.getElem_mem h)
theorem NoG.top {t : Tree} (h : NoG t) : t.kind ≠ 7 ∧ ∀ (i : Nat) x, t.subs[i]? = some x → NoG x := by
  rw [NoG] at h
  exact ⟨h.1, fun i x hx => by obtain ⟨hi, rfl⟩ := List.getElem?_eq_some_iff.1 hx; exact h.2 i hi⟩
theorem NoG.of {t : Tree} (h1 : t.kind ≠ 7) (h2 : ∀ (i : Nat) x, t.subs[i]? = some x → NoG x) : NoG t := by
  rw [NoG]
  exact ⟨h1, fun i hi => h2 i _ (List.getElem?_eq_getElem hi)⟩
theorem nodeOk_of {t : Tree} {r : Bool} (h : NodePost t r) (hr : r = true) : nodeOk t := by
  by_cases hk : t.kind = 7
  · exact .inr ⟨hk, h.2 hk hr⟩
  · exact .inl ⟨hk, by rw [← h.1 hk]; exact hr⟩
theorem nodeOk_to {t : Tree} {r : Bool} (h : NodePost t r) (hk : t.kind ≠ 7) (ho : nodeOk t) : r = true := by
  rcases ho with ⟨_, h1⟩ | ⟨h1, _⟩
  · rw [h.1 hk]; exact h1
  · exact absurd h1 hk

/-- what sound answers -/
def SndAns (t : Tree) (l : Nat) (d : Int) (lb : Nat) (w : World) (e : Ending) (w' : World) : Prop :=
  ∃ (r : Bool) (l' : Int), e = .returned (.bool r) ∧ Cells w' lb 3 #[.int .i64 l'] ∧ Upd (fun b => b = lb) w w' ∧ (r = true → OkA t d ∧ cntT t ≤ l ∧ l' = ((l - cntT t : Nat) : Int)) ∧ (NoG t → OkA t d → cntT t ≤ l → r = true)

set_option maxRecDepth 100000 in
set_option maxHeartbeats 8000000 in
theorem soundA_go (n : Nat) : ∀ (t : Tree) (w : World) (S : Nat → Prop) (cs : Array Value) (l : Nat) (d : Int) (lb : Nat), SizeOf.sizeOf t ≤ n → NodeR w S cs t → (∀ k, S k → k ≠ lb) → Cells w lb 3 #[.int .i64 (l : Int)] → l ≤ 200000 → 0 ≤ d → d ≤ 10001 →
    Calls Try.prog 22 #[.agg cs, .int .i64 d, .pointer (some ⟨lb, 0, none⟩)] w (SndAns t l d lb w) := by
  induction n with
  | zero => exact fun t _ _ _ _ _ _ h => absurd h (size_pos t)
  | succ n ih =>
  intro t w S cs l d lb hn h1 hSl hl hl2 hd0 hd1
  obtain ⟨RA, rc, SA, sc, rfl, hr1, ho, hs1⟩ := h1.top
  have C0 := Cells.new w 30 (nodeCells t RA rc SA sc)
  have hU := (Upd.refl Nob w).alloc (.cells (nodeCells t RA rc SA sc) 30)
  have hlb := hl.lt
  have hl0 := hl.upd hU not_nob
  have HCT := hideP (cntT_eq t)
  have IH := hideP ih
  have HN := hideP hn
  have H1 := hideP (h1.upd_ hU (fun _ _ => not_nob))
  have HSL := hideP hSl
  have hnl := ho.n
  clear ih hn h1 hr1 hs1 ho hSl hl
  have e0 : (w.alloc (.cells (nodeCells t RA rc SA sc) 30)).cell? ⟨lb, 0, none⟩ = some (.int .i64 (l : Int)) := hl0.cellv rfl
  have f0 : (w.alloc (.cells (nodeCells t RA rc SA sc) 30)).frozen? ⟨lb, 0, none⟩ = false := hl0.frozen _
  unfold nodeCells at C0 hU H1 e0 f0 hl0
  unfold nodeCells
  generalize hP : SndAns t l d lb w = P
  have HP := hideP (show ∀ (r : Bool) (l' : Int) w', Cells w' lb 3 #[.int .i64 l'] → Upd (fun b => b = lb) w w' → (r = true → OkA t d ∧ cntT t ≤ l ∧ l' = ((l - cntT t : Nat) : Int)) → (NoG t → OkA t d → cntT t ≤ l → r = true) → P (.returned (.bool r)) w' from fun r l' w' a b c d => by rw [← hP]; exact ⟨r, l', rfl, a, b, c, d⟩)
  clear hP
  go_enter Try.func22, Try.ntmps22
  go_upto_region 1 with fail
  generalize w.alloc (.cells #[.int .i64 t.kind, .slice RA t.rs.length rc, .int .i64 t.am, .slice SA t.subs.length sc, .int .i64 t.mn, .int .i64 t.mx, .bool t.lz, .int .i64 t.ix, .string t.nm] 30) = w2 at *
  obtain ⟨m, hm⟩ : ∃ m : Int, (l : Int) - 1 = m := ⟨_, rfl⟩
  have HM := hideP hm
  have hmb : -1 ≤ m := by omega
  have hmb2 : m ≤ 200000 := by omega
  have HC0 := hideP C0
  have HU := hideP hU
  have hbl : w.heap.size ≠ lb := by omega
  have HL0 := hideP hl0
  clear C0 hU hl0
  go_upto_region 2 with fail
  clear hm
  have HL3 := hideP (HL0.out.set_ 0 (.int .i64 m))
  have hU3 := (Upd.refl (fun b => b = lb) w2).setCell ⟨lb, 0, none⟩ (.int .i64 m) (fun _ => rfl)
  have HU3 := hideP hU3
  clear hU3 e0 f0
  generalize w2.setCell ⟨lb, 0, none⟩ (.int .i64 m) = w3 at *
  have HC3 := hideP (HC0.out.upd HU3.out hbl)
  have HN3 := hideP (H1.out.upd_ HU3.out HSL.out)
  have HUW3 := hideP ((HU.out.mono (G := fun b => b = lb) (fun _ _ h => absurd h not_nob)).trans HU3.out (fun _ _ h => h))
  have e0 : w3.cell? ⟨lb, 0, none⟩ = some (.int .i64 m) := HL3.out.cellv rfl
  by_cases g0 : m < 0
  · have HQ := hideP (show NoG t → OkA t d → cntT t ≤ l → false = true from fun _ _ h => by have := HCT.out; have := HM.out; omega)
    go_wp2_with fail
    try go_ret
    exact HP.out _ _ _ HL3.out HUW3.out (fun h => by cases h) HQ.out
  by_cases g1 : 10000 < d
  · have HQ := hideP (show NoG t → OkA t d → cntT t ≤ l → false = true from fun _ h _ => by have := h.top.2.1; omega)
    go_wp2_with fail
    try go_ret
    exact HP.out _ _ _ HL3.out HUW3.out (fun h => by cases h) HQ.out
  obtain ⟨l', rfl⟩ : ∃ l' : Nat, m = (l' : Int) := Int.eq_ofNat_of_zero_le (by omega)
  have HLE := hideP (show l = l' + 1 by have := HM.out; omega)
  obtain ⟨n0, n1, n2, n3, n4, n5, n6, n7, n8⟩ := nine HC3.out
  go_wp2_with (go_at_call 29; refine (node_any t _ _ _ HN3.out).mono ?_; rintro e w4 ⟨r, rfl, hnp, hU4⟩; have HNP := hideP hnp; have HL4 := hideP (HL3.out.upd hU4 not_nob); have HUW4 := hideP (HUW3.out.trans hU4 (fun _ _ h => absurd h not_nob)); have m3 : w4.cell? ⟨w.heap.size, 0 + 3, none⟩ = some (.slice SA t.subs.length sc) := (HC3.out.upd hU4 not_nob).cellv rfl; have HN4 := hideP (HN3.out.upd_ hU4 (fun _ _ => not_nob)).open_.2.2; clear hnp hU4 n0 n1 n2 n3 n4 n5 n6 n7 n8 e0; rcases r with _ | _)
  · have HQ := hideP (show NoG t → OkA t d → cntT t ≤ l → false = true from fun hg ho _ => nodeOk_to HNP.out hg.top.1 ho.top.1)
    try go_wp2_with fail
    try go_ret
    exact HP.out _ _ _ HL4.out HUW4.out (fun h => by cases h) HQ.out
  have HOK := hideP (nodeOk_of HNP.out rfl)
  try go_wp2_with fail
  clear m3
  go_loopg [30] t.subs.length (fun gk v30 wr => ∃ k : Nat, k + gk = t.subs.length ∧ v30 = .int .i64 (k : Int) ∧ Cells wr lb 3 #[.int .i64 ((l' - cntL (t.subs.take k) : Nat) : Int)] ∧ cntL (t.subs.take k) ≤ l' ∧ (∀ (j : Nat) x, j < k → t.subs[j]? = some x → OkA x (d + 1)) ∧ Upd (fun b => b = lb) w4 wr)
  case atStart => exact ⟨0, by omega, rfl, HL4.out, by simp [cntL], fun j x h => by omega, Upd.refl _ _⟩
  case round =>
    obtain ⟨k, hk, rfl, hL, hkl, hA, hUr⟩ := hrel
    by_cases hlt : k < t.subs.length
    · have g2 : (k : Int) < (t.subs.length : Int) := by omega
      obtain ⟨ad, g, o, x, PA, pc, QA, qc, rfl, hadd, hSg, hg, hx, hX, hlx, hcs⟩ := NodeR.sub HN4.out hlt
      have up : ∀ (a : Addr) v, a.block < w4.heap.size → a.block ≠ lb → w4.cell? a = some v → wr.cell? a = some v := fun a v hb hne ha => (hUr.cell hb hne).trans ha
      obtain ⟨p0, p1, p2, p3, p4, p5, p6, p7, p8⟩ := sub_cells (fun j v hv => up ⟨g, o + j, none⟩ v hg (HSL.out g hSg) (hcs j v hv))
      have hxn : SizeOf.sizeOf x ≤ n := by have := HN.out; omega
      have hUa := (Upd.refl Nob wr).alloc (.cells (nodeCells x PA pc QA qc) 30)
      have HX := hideP ((hX.upd_ hUr HSL.out).upd_ hUa (fun _ _ => not_nob))
      have HXK := hideP hx
      have HA := hideP hA
      have HKL := hideP hkl
      have q2 : l' - cntL (t.subs.take k) ≤ 200000 := by have := HLE.out; omega
      have HLa := hideP (hL.upd hUa not_nob)
      have CX := Cells.new wr 30 (nodeCells x PA pc QA qc)
      have HUa := hideP (hUr.trans hUa (fun _ _ h => absurd h not_nob))
      clear up hcs hX hx hlx hL hUr hUa hA hkl
      unfold nodeCells at CX HX HLa HUa
      go_upto_region 7 with fail
      generalize wr.alloc (.cells #[.int .i64 x.kind, .slice PA x.rs.length pc, .int .i64 x.am, .slice QA x.subs.length qc, .int .i64 x.mn, .int .i64 x.mx, .bool x.lz, .int .i64 x.ix, .string x.nm] 30) = w5 at *
      obtain ⟨y0, y1, y2, y3, y4, y5, y6, y7, y8⟩ := nine CX
      have HK5 := hideP hk
      have vw : IntKind.i64.wrap (d + 1) = d + 1 := by rw [IntKind.wrap_i64]; omega
      clear p0 p1 p2 p3 p4 p5 p6 p7 p8 hk CX
      go_wp2_with fail
      refine (IH.out x w5 S _ (l' - cntL (t.subs.take k)) (d + 1) lb hxn HX.out HSL.out HLa.out q2 (by omega) (by omega)).mono ?_
      rintro e w6 ⟨r6, l6, rfl, hL6, hU6, hT, hF⟩
      have HUW6 := hideP (HUW4.out.trans (HUa.out.trans hU6 (fun _ _ h => h)) (fun _ _ h => h))
      have HU6 := hideP (HUa.out.trans hU6 (fun _ _ h => h))
      have HT := hideP hT
      have HL6 := hideP hL6
      have HST := hideP (cntL_step HXK.out)
      have HQ := hideP (show NoG t → OkA t d → cntT t ≤ l → r6 = true from fun hg ho hc => hF (hg.top.2 k x HXK.out) (ho.top.2.2 k x HXK.out) (by
        have h1 := HST.out
        have h2 := cntL_take t.subs (k + 1)
        have h3 := HCT.out
        have h4 := HLE.out
        omega))
      clear hT hF hL6 hU6 y0 y1 y2 y3 y4 y5 y6 y7 y8
      rcases r6 with _ | _
      · go_wp2_with fail
        try go_ret
        exact HP.out _ _ _ HL6.out HUW6.out (fun h => by cases h) HQ.out
      · obtain ⟨t1, t2, rfl⟩ := HT.out rfl
        have HT1 := hideP t1
        have HT2 := hideP t2
        clear t1 t2
        go_wp2_with fail
        have hk := HK5.out
        go_roundg (t.subs.length - (k + 1))
        case measure => omega
        case rel => exact ⟨k + 1, by omega, by go_num, by rw [HST.out, ← Nat.sub_sub]; exact HL6.out, by have := HST.out; have := HT2.out; have := HKL.out; omega, fun j z hj hz => by
          by_cases e : j = k
          · subst e
            rw [HXK.out] at hz
            injection hz with hz
            subst hz
            exact HT1.out
          · exact HA.out j z (by omega) hz, HU6.out⟩
    · have g2 : ¬ (k : Int) < (t.subs.length : Int) := by omega
      obtain rfl : k = t.subs.length := by omega
      have HLZ := hideP hL
      have HUZ := hideP (HUW4.out.trans hUr (fun _ _ h => h))
      rw [List.take_length] at hkl
      have HKL := hideP hkl
      have HA := hideP hA
      clear hL hUr hkl hA
      go_wp2_with fail
      try go_ret
      refine HP.out _ _ _ HLZ.out HUZ.out (fun _ => ⟨OkA.of HOK.out (by omega) (fun i x hx => HA.out i x (List.getElem?_eq_some_iff.1 hx).1 hx), by have := HKL.out; have := HCT.out; have := HLE.out; omega, ?_⟩) (fun _ _ _ => rfl)
      rw [List.take_length]
      have := HKL.out
      have := HCT.out
      have := HLE.out
      omega

/-- a tree that may be asked -/
def SoundOk (t : Tree) : Prop := OkA t 1 ∧ cntT t ≤ 200000
theorem cntL_len : ∀ l : List Tree, l.length ≤ cntL l
  | [] => Nat.zero_le _
  | t :: l => by
    have := cntL_len l
    have := cntT_eq t
    simp only [cntL, List.length_cons]
    omega
theorem cntL_mem {l : List Tree} {k : Nat} {x : Tree} (hx : l[k]? = some x) : cntT x ≤ cntL l := by
  have := cntL_step hx
  have := cntL_take l (k + 1)
  omega
theorem right_few {rs : List (Int × Int)} (h : rightB rs = true) : rs.length ≤ 5000 := by
  unfold rightB at h
  rw [Bool.and_eq_true] at h
  exact of_decide_eq_true h.1
theorem node_few {t : Tree} (h : nodeOk t) : t.rs.length ≤ 5000 := by
  rcases h with ⟨h7, h⟩ | ⟨_, _, h⟩
  · by_cases k1 : t.kind = 1
    · rw [nb1 k1] at h
      simp [plainB] at h
      simp [h.1.1]
    by_cases k2 : t.kind = 2
    · rw [nb2 k2] at h
      simp only [Bool.and_eq_true] at h
      exact right_few h.2.2.2.2
    by_cases k3 : t.kind = 3
    · rw [nb3 k3] at h
      simp at h
      simp [h.1]
    by_cases k4 : t.kind = 4 ∨ t.kind = 5
    · rw [nb4 k4] at h
      simp [plainB] at h
      simp [h.1.1]
    by_cases k6 : t.kind = 6
    · rw [nb6 k6] at h
      simp [plainB] at h
      simp [h.1.1]
    · rw [nb0 (by omega)] at h
      cases h
  · omega
theorem fine_of : ∀ (n : Nat) (t : Tree) (d : Int), SizeOf.sizeOf t ≤ n → OkA t d → cntT t ≤ 200000 → FineT t
  | 0, t, _, h, _, _ => absurd h (size_pos t)
  | n + 1, t, d, hn, ho, hc => by
    obtain ⟨h1, h2, h3⟩ := ho.top
    have hct := cntT_eq t
    have hl := cntL_len t.subs
    rw [FineT]
    refine ⟨node_few h1, by omega, fun h7 => ?_, fun i hi => ?_⟩
    · rcases h1 with ⟨h, _⟩ | ⟨_, h, _⟩
      · exact absurd h7 h
      · omega
    · have hx := List.getElem?_eq_getElem hi
      have := cntL_mem hx
      exact fine_of n _ (d + 1) (by have := Tree.sub_lt (List.getElem_mem hi); omega) (h3 i _ hx) (by omega)
def SAns (t : Tree) (w : World) (e : Ending) (w' : World) : Prop := ∃ r : Bool, e = .returned (.int .i64 (if r = true then 0 else 50)) ∧ (r = true → SoundOk t) ∧ (NoG t → SoundOk t → r = true) ∧ Upd Nob w w'
def MAns (t : Tree) (w : World) (e : Ending) (w' : World) : Prop :=
  (∃ cs', e = .returned (.tuple #[.agg cs', .int .i64 0]) ∧ NodeR w' (fun b => w.heap.size ≤ b) cs' (mirT t) ∧ SoundOk t ∧ Upd Nob w w') ∨ (e = .returned (.tuple #[.agg #[.int .i64 0, .slice none 0 0, .int .i64 0, .slice none 0 0, .int .i64 0, .int .i64 0, .bool false, .int .i64 0, .string ⟨#[]⟩], .int .i64 50]) ∧ (NoG t → SoundOk t → False) ∧ Upd Nob w w')

set_option maxRecDepth 100000 in
set_option maxHeartbeats 4000000 in
theorem Sound_any (t : Tree) (w : World) (S : Nat → Prop) (cs : Array Value) (h1 : NodeR w S cs t) :
    Calls Try.prog 18 #[.agg cs] w (SAns t w) := by
  have h1 := h1.lower
  obtain ⟨RA, rc, SA, sc, rfl, hr1, ho, hs1⟩ := h1.top
  have HN := hideP h1
  clear h1 hr1 hs1 ho
  unfold nodeCells at HN ⊢
  generalize hP : SAns t w = P
  have HP := hideP (show ∀ (r : Bool) w', (r = true → SoundOk t) → (NoG t → SoundOk t → r = true) → Upd Nob w w' → P (.returned (.int .i64 (if r = true then 0 else 50))) w' from fun r w' a b c => by rw [← hP]; exact ⟨r, rfl, a, b, c⟩)
  clear hP
  go_enter Try.func18, Try.ntmps18
  go_wp2_with fail
  have hU2 := ((Upd.refl Nob w).alloc (.cells #[.int .i64 t.kind, .slice RA t.rs.length rc, .int .i64 t.am, .slice SA t.subs.length sc, .int .i64 t.mn, .int .i64 t.mx, .bool t.lz, .int .i64 t.ix, .string t.nm] 30)).alloc (.cells #[.int .i64 200000] 3)
  have CL := Cells.new (w.alloc (.cells #[.int .i64 t.kind, .slice RA t.rs.length rc, .int .i64 t.am, .slice SA t.subs.length sc, .int .i64 t.mn, .int .i64 t.mx, .bool t.lz, .int .i64 t.ix, .string t.nm] 30)) 3 #[.int .i64 200000]
  rw [World.size_alloc] at CL
  refine (soundA_go _ t _ _ _ 200000 1 (w.heap.size + 1) (Nat.le_refl _) (HN.out.upd_ hU2 (fun _ _ => not_nob)) (fun k hk => by omega) CL (by omega) (by omega) (by omega)).mono ?_
  rintro e w3 ⟨r, l', rfl, -, hU3, hT, hF⟩
  have HU3 := hideP (hU2.trans hU3 (fun b hb h => by omega))
  have HT := hideP (show r = true → SoundOk t from fun h => ⟨(hT h).1, (hT h).2.1⟩)
  have HF := hideP (show NoG t → SoundOk t → r = true from fun a b => hF a b.1 b.2)
  clear hU2 CL hU3 hT hF
  rcases r with _ | _
  · try go_wp2_with fail
    try go_ret
    exact HP.out false _ HT.out HF.out HU3.out
  · try go_wp2_with fail
    try go_ret
    exact HP.out true _ (fun _ => HT.out trivial) (fun _ _ => rfl) HU3.out

set_option maxRecDepth 100000 in
set_option maxHeartbeats 4000000 in
theorem mirror_any (t : Tree) (w : World) (S : Nat → Prop) (cs : Array Value) (h1 : NodeR w S cs t) :
    Calls Try.prog 11 #[.agg cs] w (MAns t w) := by
  have h1 := h1.lower
  obtain ⟨RA, rc, SA, sc, rfl, hr1, ho, hs1⟩ := h1.top
  have HN := hideP h1
  clear h1 hr1 hs1 ho
  unfold nodeCells at HN ⊢
  generalize hP : MAns t w = P
  have HPy := hideP (show ∀ cs' w', NodeR w' (fun b => w.heap.size ≤ b) cs' (mirT t) → SoundOk t → Upd Nob w w' → P (.returned (.tuple #[.agg cs', .int .i64 0])) w' from fun cs' w' a b c => by rw [← hP]; exact .inl ⟨cs', rfl, a, b, c⟩)
  have HPn := hideP (show ∀ w', (NoG t → SoundOk t → False) → Upd Nob w w' → P (.returned (.tuple #[.agg #[.int .i64 0, .slice none 0 0, .int .i64 0, .slice none 0 0, .int .i64 0, .int .i64 0, .bool false, .int .i64 0, .string ⟨#[]⟩], .int .i64 50])) w' from fun w' a b => by rw [← hP]; exact .inr ⟨rfl, a, b⟩)
  clear hP
  go_enter Try.func11, Try.ntmps11
  go_upto_region 1 with fail
  have C0 := (Cells.new w 30 #[.int .i64 t.kind, .slice RA t.rs.length rc, .int .i64 t.am, .slice SA t.subs.length sc, .int .i64 t.mn, .int .i64 t.mx, .bool t.lz, .int .i64 t.ix, .string t.nm]).alloc (.cells #[.int .i64 0, .slice none 0 0, .int .i64 0, .slice none 0 0, .int .i64 0, .int .i64 0, .bool false, .int .i64 0, .string ⟨#[]⟩] 30)
  have C1 := Cells.new (w.alloc (.cells #[.int .i64 t.kind, .slice RA t.rs.length rc, .int .i64 t.am, .slice SA t.subs.length sc, .int .i64 t.mn, .int .i64 t.mx, .bool t.lz, .int .i64 t.ix, .string t.nm] 30)) 30 #[.int .i64 0, .slice none 0 0, .int .i64 0, .slice none 0 0, .int .i64 0, .int .i64 0, .bool false, .int .i64 0, .string ⟨#[]⟩]
  rw [World.size_alloc] at C1
  have hU := ((Upd.refl Nob w).alloc (.cells #[.int .i64 t.kind, .slice RA t.rs.length rc, .int .i64 t.am, .slice SA t.subs.length sc, .int .i64 t.mn, .int .i64 t.mx, .bool t.lz, .int .i64 t.ix, .string t.nm] 30)).alloc (.cells #[.int .i64 0, .slice none 0 0, .int .i64 0, .slice none 0 0, .int .i64 0, .int .i64 0, .bool false, .int .i64 0, .string ⟨#[]⟩] 30)
  generalize (w.alloc (.cells #[.int .i64 t.kind, .slice RA t.rs.length rc, .int .i64 t.am, .slice SA t.subs.length sc, .int .i64 t.mn, .int .i64 t.mx, .bool t.lz, .int .i64 t.ix, .string t.nm] 30)).alloc (.cells #[.int .i64 0, .slice none 0 0, .int .i64 0, .slice none 0 0, .int .i64 0, .int .i64 0, .bool false, .int .i64 0, .string ⟨#[]⟩] 30) = w2 at *
  have hlow := C1.lt
  obtain ⟨e0, e1, e2, e3, e4, e5, e6, e7, e8⟩ := nine C0
  have HC0 := hideP C0
  have HC1 := hideP C1
  have HU := hideP hU
  clear C0 C1 hU
  go_wp2_with fail
  refine (Sound_any t w2 _ _ (HN.out.upd_ HU.out (fun _ _ => not_nob))).mono ?_
  rintro e w3 ⟨r, rfl, hT, hF, hU3⟩
  obtain ⟨d0, d1, d2, d3, d4, d5, d6, d7, d8⟩ := nine (HC0.out.upd hU3 not_nob)
  have HC3 := hideP (HC1.out.upd hU3 not_nob)
  have HU3 := hideP (HU.out.trans hU3 (fun _ _ h => h))
  have hsz3 := hU3.size
  have C3 := HC3.out
  obtain ⟨z0, z1, z2, z3, z4, z5, z6, z7, z8⟩ := nine C3
  obtain ⟨zf0, zf1, zf2, zf3, zf4, zf5, zf6, zf7, zf8⟩ := nine_ C3
  have HT := hideP hT
  have HFl := hideP hF
  clear e0 e1 e2 e3 e4 e5 e6 e7 e8 hU3 hT hF
  rcases r with _ | _
  · have HQ := hideP (show NoG t → SoundOk t → False from fun a b => by have := HFl.out a b; cases this)
    have C9 := cells9_all C3 (.int .i64 0) (.slice none 0 0) (.int .i64 0) (.slice none 0 0) (.int .i64 0) (.int .i64 0) (.bool false) (.int .i64 0) (.string ⟨#[]⟩)
    have hU9 := upd9 w3 (w.heap.size + 1) 0 (.int .i64 0) (.slice none 0 0) (.int .i64 0) (.slice none 0 0) (.int .i64 0) (.int .i64 0) (.bool false) (.int .i64 0) (.string ⟨#[]⟩)
    simp only [if_neg Bool.false_ne_true]
    go_wp2_with fail
    try show bodyPost _ _ _ _ _ (put9 w3 (w.heap.size + 1) 0 (.int .i64 0) (.slice none 0 0) (.int .i64 0) (.slice none 0 0) (.int .i64 0) (.int .i64 0) (.bool false) (.int .i64 0) (.string ⟨#[]⟩))
    clear z0 z1 z2 z3 z4 z5 z6 z7 z8 zf0 zf1 zf2 zf3 zf4 zf5 zf6 zf7 zf8 C3 d0 d1 d2 d3 d4 d5 d6 d7 d8
    generalize put9 w3 (w.heap.size + 1) 0 (.int .i64 0) (.slice none 0 0) (.int .i64 0) (.slice none 0 0) (.int .i64 0) (.int .i64 0) (.bool false) (.int .i64 0) (.string ⟨#[]⟩) = wz at *
    obtain ⟨q0, q1, q2, q3, q4, q5, q6, q7, q8⟩ := nine C9
    refine bodyPost_ret (by simp [results, Try.results11, go_sem, q0, q1, q2, q3, q4, q5, q6, q7, q8]; try rfl) rfl ?_
    exact HPn.out _ HQ.out (HU3.out.trans hU9 (fun b hb h => by omega))
  have hso := HT.out rfl
  have HSO := hideP hso
  have HF := hideP (fine_of _ t _ (Nat.le_refl _) hso.1 hso.2)
  clear z0 z1 z2 z3 z4 z5 z6 z7 z8 zf0 zf1 zf2 zf3 zf4 zf5 zf6 zf7 zf8 C3 hso
  simp only
  go_wp2_with fail
  refine (turned_any t w3 _ _ HF.out (HN.out.upd_ HU3.out (fun _ _ => not_nob))).mono ?_
  rintro e w4 ⟨cs', rfl, hN4, hU4⟩
  obtain ⟨PB, pd, QB, qd, rfl, -⟩ := hN4.top
  unfold nodeCells at hN4 ⊢
  have C4 := HC3.out.upd hU4 not_nob
  obtain ⟨z0, z1, z2, z3, z4, z5, z6, z7, z8⟩ := nine C4
  obtain ⟨zf0, zf1, zf2, zf3, zf4, zf5, zf6, zf7, zf8⟩ := nine_ C4
  have C9 := cells9_all C4 (.int .i64 (mirT t).kind) (.slice PB (mirT t).rs.length pd) (.int .i64 (mirT t).am) (.slice QB (mirT t).subs.length qd) (.int .i64 (mirT t).mn) (.int .i64 (mirT t).mx) (.bool (mirT t).lz) (.int .i64 (mirT t).ix) (.string (mirT t).nm)
  have hU9 := upd9 w4 (w.heap.size + 1) 0 (.int .i64 (mirT t).kind) (.slice PB (mirT t).rs.length pd) (.int .i64 (mirT t).am) (.slice QB (mirT t).subs.length qd) (.int .i64 (mirT t).mn) (.int .i64 (mirT t).mx) (.bool (mirT t).lz) (.int .i64 (mirT t).ix) (.string (mirT t).nm)
  have HN4 := hideP hN4
  have HU4 := hideP (HU3.out.trans hU4 (fun _ _ h => h))
  clear hN4 hU4 d0 d1 d2 d3 d4 d5 d6 d7 d8
  go_wp2_with fail
  show bodyPost _ _ _ _ _ (put9 w4 (w.heap.size + 1) 0 (.int .i64 (mirT t).kind) (.slice PB (mirT t).rs.length pd) (.int .i64 (mirT t).am) (.slice QB (mirT t).subs.length qd) (.int .i64 (mirT t).mn) (.int .i64 (mirT t).mx) (.bool (mirT t).lz) (.int .i64 (mirT t).ix) (.string (mirT t).nm))
  clear z0 z1 z2 z3 z4 z5 z6 z7 z8 zf0 zf1 zf2 zf3 zf4 zf5 zf6 zf7 zf8 C4
  generalize put9 w4 (w.heap.size + 1) 0 (.int .i64 (mirT t).kind) (.slice PB (mirT t).rs.length pd) (.int .i64 (mirT t).am) (.slice QB (mirT t).subs.length qd) (.int .i64 (mirT t).mn) (.int .i64 (mirT t).mx) (.bool (mirT t).lz) (.int .i64 (mirT t).ix) (.string (mirT t).nm) = wz at *
  obtain ⟨q0, q1, q2, q3, q4, q5, q6, q7, q8⟩ := nine C9
  refine bodyPost_ret (by simp [results, Try.results11, go_sem, q0, q1, q2, q3, q4, q5, q6, q7, q8]; try rfl) rfl ?_
  exact HPy.out _ _ ((HN4.out.upd_ hU9 (fun b hb => by omega)).weaken (fun b hb => by omega)) HSO.out (HU4.out.trans hU9 (fun b hb h => by omega))
end Go.Proofs.Ytlaofcgllchedaa
