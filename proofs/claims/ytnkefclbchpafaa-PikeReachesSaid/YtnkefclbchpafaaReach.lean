/-
  The walk of heronlaw11.reach.
-/
import Derived.Test.YtnkefclbchpafaaSame
import Derived.Test.YtnkefclbchpafaaReachP
import Derived.Deep.RegionHeld3
namespace Go.Proofs.Ytnkefclbchpafaa
open Go.RowKit
set_option linter.unusedVariables false

theorem and_holds_key : ∀ q : Fin 64, ∀ a ∈ ([1, 2, 4, 8, 16, 32] : List Int), decide (0 < bits .and .i64 ((q.val : Nat) : Int) a) = holdsB a ((q.val : Nat) : Int) := by decide +kernel
theorem and_holds {p a : Int} (h0 : 0 ≤ p) (h1 : p < 64) (ha : edgeB a = true) : decide (0 < bits .and .i64 p a) = holdsB a p := by
  obtain ⟨q, rfl⟩ : ∃ q : Nat, p = (q : Int) := Int.eq_ofNat_of_zero_le h0
  have hm : a ∈ ([1, 2, 4, 8, 16, 32] : List Int) := by
    have := of_decide_eq_true ha
    simp
    omega
  exact and_holds_key ⟨q, by omega⟩ a hm

theorem RangesR.old {w : World} {S : Nat → Prop} {B : Option Addr} {m : Nat} {rs : List (Int × Int)} (h : RangesR w S B m rs) : RangesR w (fun k => k < w.heap.size) B m rs :=
  ⟨⟨h.r.1, fun hn => by obtain ⟨ad, e, hb, -, hc⟩ := h.r.2 hn; exact ⟨ad, e, hb, hb, hc⟩⟩, h.i, h.n⟩
theorem InstsR.old {w : World} {S : Nat → Prop} {A : Option Addr} {n : Nat} {is : List PInst} (h : InstsR w S A n is) : InstsR w (fun k => k < w.heap.size) A n is :=
  ⟨h.len, fun i x hx => by
    obtain ⟨ad, g, o, B, m, c, e, e2, -, hg, hr, hi, hc⟩ := h.at_ i x hx
    exact ⟨ad, g, o, B, m, c, e, e2, hg, hg, hr.old, hi, hc⟩⟩

/-- what the search has in memory: the program's box, which pairs are met, which are to be done -/
structure RchR (w0 wr : World) (pb mg M : Nat) (A : Option Addr) (c : Nat) (is : List PInst) (st : Nat) (caps : Int) (text : List Int) (a : Nat) (met : List Bool) (todo : List Nat) (LA : Option Addr) (lc : Nat) : Prop where
  upd : Upd Nob w0 wr
  box : Cells wr pb 27 #[.slice A is.length c, .int .i64 (st : Int), .int .i64 caps]
  metR : wr.ownsRow w0.heap.size 4 1 (.slice (some ⟨mg, 0, none⟩) M M) M (bvs met)
  todoR : wr.ownsRow w0.heap.size 3 1 (.slice LA todo.length lc) todo.length (ints todo)
  inv : RcI is text (text.length + 1) a st met todo
  room : todo.length + 5002 * met.count false ≤ 5002 * M + 1

set_option maxRecDepth 100000 in
set_option maxHeartbeats 8000000 in
theorem reach_any (w : World) (S : Nat → Prop) (A : Option Addr) (n c : Nat) (is : List PInst) (st : Nat) (caps : Int) (T : Option Addr) (tn tc : Nat) (text : List Int) (a : Nat)
    (h : InstsR w S A n is) (hs : In64 (st : Int)) (hc : In64 caps) (hn : n ≤ 20000) (ht : TextR w S T tn text) (ha : a ≤ text.length) (hl : text.length ≤ 200) (hst : st < is.length)
    (hmay : ∀ (i : Nat) (x : PInst), is[i]? = some x → mayB x is.length caps = true) :
    Calls Try.prog 27 #[.agg #[.slice A n c, .int .i64 (st : Int), .int .i64 caps], .slice T tn tc, .int .i64 (a : Int)] w fun e w' => ∃ r, e = .returned (.bool r) ∧ (r = true ↔ Hits is text a st) ∧ Upd Nob w w' := by
  obtain rfl : is.length = n := h.len
  obtain rfl : text.length = tn := ht.len
  have C0 := Cells.new w 27 #[.slice A is.length c, .int .i64 (st : Int), .int .i64 caps]
  have hU := (Upd.refl Nob w).alloc (.cells #[.slice A is.length c, .int .i64 (st : Int), .int .i64 caps] 27)
  obtain ⟨j0, hj0, hy0, hy1, hy2⟩ := info_parts vinfo_bool
  obtain ⟨i0, hi0, hz0, hz1, hz2⟩ := info_parts vinfo_int
  have hprod : is.length * (text.length + 1) ≤ 20000 * 201 := Nat.mul_le_mul hn (by omega)
  have hstart : st * (text.length + 1) + a < is.length * (text.length + 1) := pair_lt (by omega) hst
  obtain ⟨M, hM⟩ : ∃ M, M = is.length * (text.length + 1) := ⟨_, rfl⟩
  obtain ⟨s0, hs0⟩ : ∃ s0, s0 = st * (text.length + 1) := ⟨_, rfl⟩
  have hMi : (is.length : Int) * ((text.length : Int) + 1) = (M : Int) := by rw [hM]; push_cast; rfl
  have hsi : (st : Int) * ((text.length : Int) + 1) = (s0 : Int) := by rw [hs0]; push_cast; rfl
  have hMl : M ≤ 4020000 := by omega
  have hs0l : s0 + a < M := by omega
  have hzb : (madeCells (Value.bool false).cells (M * 1)).toList = bvs (List.replicate M false) := by
    have : (Value.bool false).cells = #[Value.bool false] := rfl
    rw [this, toList_madeCells_one, Nat.mul_one]
    simp [bvs]
  have hI := RcI.begin_ (is := is) (text := text) ha hst
  rw [← hM, ← hs0] at hI
  have HI := hideP hI
  have HZB := hideP hzb
  have H0 := hideP h.old
  have HT0 := hideP ht
  have H := hideP (h.upd hU (fun _ _ => not_nob))
  have HT := hideP (ht.upd hU (fun _ _ => not_nob))
  have h64 := ht.n
  have HM := hideP hM
  have HS0 := hideP hs0
  have HR := hideP (inside_of hmay)
  have HMAY := hideP hmay
  clear h ht hI hzb hM hs0 hprod hstart hmay
  go_enter Try.func27, Try.ntmps27
  go_upto_region 1 with fail
  generalize w.alloc (.cells #[.slice A is.length c, .int .i64 (st : Int), .int .i64 caps] 27) = w1 at *
  have hbl := C0.lt
  generalize w.heap.size = pb at C0 hbl
  have e0 : w1.cell? ⟨pb, 0, none⟩ = some (.slice A is.length c) := C0.cellv rfl
  have e1 : w1.cell? ⟨pb, 0 + 1, none⟩ = some (.int .i64 (st : Int)) := C0.cellv rfl
  have HC := hideP C0
  have HU1 := hideP hU
  clear C0 hU
  go_wp2_with (at_make; refine wpList_make_full w1 rfl (.tmp 21) (.tmp 21) 77 rfl w.heap.size 4 j0 (.bool false) 1 Try.underlying77 hj0 hy0 hy1 .i64 .i64 (M : Int) (M : Int) M rfl rfl rfl rfl (by rw [hy2]; omega) (by unfold maxLen; omega) HU1.out.size ?_; intro w2 o2 hg2; rw [HZB.out] at o2; have C2 := HC.out.grown hg2 (by simp); have e0 : w2.cell? ⟨pb, 0, none⟩ = some (.slice A is.length c) := C2.cellv rfl; have e1 : w2.cell? ⟨pb, 0 + 1, none⟩ = some (.int .i64 (st : Int)) := C2.cellv rfl; have HC2 := hideP C2; have HO2 := hideP o2; have HU2 := hideP (HU1.out.grown hg2 (by simp)); have HG2 := hideP hg2; clear C2 o2 hg2)
  have hl2 : ints [s0 + a] = [.int .i64 ((s0 : Int) + (a : Int))] := by simp [ints]
  have hrow : (w2.alloc (.cells #[.int .i64 ((s0 : Int) + (a : Int))] 3)).ownsRow w.heap.size 3 1 (.slice (some ⟨w2.heap.size, 0, none⟩) [s0 + a].length 1) [s0 + a].length (ints [s0 + a]) := by
    rw [hl2]
    exact World.ownsRow_lit (size := 1) w2 #[.int .i64 ((s0 : Int) + (a : Int))] 1 HU2.out.size (by unfold maxLen; omega) rfl
  have hUa := (Upd.refl Nob w2).alloc (.cells #[.int .i64 ((s0 : Int) + (a : Int))] 3)
  have HRch := hideP (⟨HU2.out.trans hUa (fun _ _ h => h), HC2.out.upd hUa not_nob, own_upd HO2.out hUa (fun _ _ => not_nob), hrow, HI.out, by simp; omega⟩ :
    RchR w (w2.alloc (.cells #[.int .i64 ((s0 : Int) + (a : Int))] 3)) pb w1.heap.size M A c is st caps text a (List.replicate M false) [s0 + a] (some ⟨w2.heap.size, 0, none⟩) 1)
  have hpbg : pb ≠ w1.heap.size := by omega
  clear hrow hUa e0 e1
  generalize w1.heap.size = mg at *
  go_loopg [9, 10, 11, 12, 13] (5002 * M + 1) (fun gk v9 v10 v11 v12 v13 wr => ∃ (met : List Bool) (todo : List Nat) (LA : Option Addr) (lc : Nat), gk = todo.length + 5002 * met.count false ∧ v9 = .slice LA todo.length lc ∧ RchR w wr pb mg M A c is st caps text a met todo LA lc)
  case atStart => exact ⟨_, [s0 + a], _, 1, by simp; omega, rfl, HRch.out⟩
  case round =>
    clear HRch
    obtain ⟨met, todo, LA, lc, rfl, rfl, hR⟩ := hrel
    rcases List.eq_nil_or_concat todo with rfl | ⟨l, k, htd⟩
    · have hno := hR.inv.none ha
      have HNO := hideP hno
      have HUr := hideP hR.upd
      clear hR hno
      go_wp2_with fail
      go_ret
      exact ⟨false, rfl, by constructor; (intro h; cases h); (intro h; exact absurd h HNO.out), HUr.out⟩
    rw [List.concat_eq_append] at htd
    subst htd
    have hlen : (l ++ [k]).length = l.length + 1 := by simp
    have hsound := hR.inv.sound k (by simp)
    have hkM : k < M := by rw [HM.out]; exact hsound.1
    obtain ⟨gL, hgL⟩ : ∃ gL, LA = some ⟨gL, 0, none⟩ := by
      rcases hR.todoR.2 with ⟨-, h0⟩ | ⟨gN, cap, cur, hv, -⟩
      · simp at h0
      · injection hv with hv
        exact ⟨gN, hv⟩
    subst hgL
    have hlc : l.length + 1 ≤ lc := by
      rcases hR.todoR.2 with ⟨-, h0⟩ | ⟨gN, cap, cur, hv, hb, hg, hnc, -⟩
      · simp at h0
      · injection hv with h1 h2 h3
        rw [h3]
        simpa using hnc
    have y0 : wr.cell? ⟨gL, l.length, none⟩ = some (.int .i64 (k : Int)) := by
      rw [hR.todoR.cellAt l.length (by simp)]
      exact ints_at (by rw [List.getElem?_append_right (Nat.le_refl _)]; simp)
    have hrow := own_take hR.todoR (show l.length ≤ (l ++ [k]).length by simp)
    have htk : (ints (l ++ [k])).take (l.length * 1) = ints l := by
      rw [Nat.mul_one]
      simp [ints]
    rw [htk] at hrow
    obtain ⟨mb, hmb⟩ : ∃ mb, met[k]? = some mb := ⟨_, List.getElem?_eq_getElem (by rw [hR.inv.len, ← HM.out]; exact hkM)⟩
    have cm : wr.cell? ⟨mg, k, none⟩ = some (.bool mb) := by rw [hR.metR.cellAt k (by omega)]; exact bvs_at hmb
    have hroom := hR.room
    rw [hlen] at hroom
    have hkMi : (k : Int) < (M : Int) := by omega
    have g1 : (0 : Int) < (l.length : Int) + 1 := by omega
    have HRR := hideP hR
    have HROW := hideP hrow
    clear hR hrow htk
    rw [hlen]
    rcases mb with _ | _
    rotate_left
    · have hps := HRR.out.inv.pass hmb
      have HPS := hideP (⟨HRR.out.upd, HRR.out.box, HRR.out.metR, HROW.out, hps, by omega⟩ : RchR w wr pb mg M A c is st caps text a met l (some ⟨gL, 0, none⟩) lc)
      clear hps hmb
      go_wp2_with fail
      go_roundg (l.length + 5002 * met.count false)
      case measure => omega
      case rel => exact ⟨met, l, _, lc, rfl, rfl, HPS.out⟩
    have fz : wr.frozen? ⟨mg, k, none⟩ = false := HRR.out.metR.frozenAt k
    go_upto_region 9 with fail
    have hmgl := (HRR.out.metR.lt mg rfl).1
    have hU3 : Upd Nob w (wr.setCell ⟨mg, k, none⟩ (.bool true)) := HRR.out.upd.setCell _ _ (fun hlt => absurd hlt (by show ¬ mg < w.heap.size; omega))
    have hC3 := HRR.out.box.far ⟨mg, k, none⟩ (.bool true) hpbg
    have hM3 := (HRR.out.metR.stored k (.bool true)).1
    have eM3 : (bvs met).set k (.bool true) = bvs (met.set k true) := by simp [bvs, List.map_set]
    rw [eM3] at hM3
    have hgne : gL ≠ mg := by
      obtain ⟨cm2, hcm2, -⟩ := own_cells HRR.out.metR rfl
      have := own_ne HROW.out hcm2 (by decide)
      simp [Value.ownBlock] at this
      omega
    have hL3 := own_far HROW.out ⟨mg, k, none⟩ (.bool true) (by simp [Value.ownBlock]; omega)
    have HU3 := hideP hU3
    have HC3 := hideP hC3
    have HM3 := hideP hM3
    have HL3 := hideP hL3
    have hwl3 : pb < (wr.setCell ⟨mg, k, none⟩ (.bool true)).heap.size := hC3.lt
    clear hU3 hC3 hM3 hL3 cm y0 fz eM3
    generalize wr.setCell ⟨mg, k, none⟩ (.bool true) = w3 at *
    have hN : 0 < text.length + 1 := by omega
    have hpc : k / (text.length + 1) < is.length := (Nat.div_lt_iff_lt_mul hN).2 hsound.1
    have hjj : k % (text.length + 1) < text.length + 1 := Nat.mod_lt _ hN
    have hq1 : (k : Int) / ((text.length : Int) + 1) = ((k / (text.length + 1) : Nat) : Int) := by push_cast; rfl
    have hq2 : Int.tdiv (k : Int) ((text.length : Int) + 1) = ((k / (text.length + 1) : Nat) : Int) := by rw [Int.tdiv_eq_ediv_of_nonneg (by omega)]; exact hq1
    have hr1 : (k : Int) % ((text.length : Int) + 1) = ((k % (text.length + 1) : Nat) : Int) := by push_cast; rfl
    have hr2 : Int.tmod (k : Int) ((text.length : Int) + 1) = ((k % (text.length + 1) : Nat) : Int) := by rw [Int.tmod_eq_emod_of_nonneg (by omega)]; exact hr1
    obtain ⟨pc, hpcd⟩ : ∃ pc, pc = k / (text.length + 1) := ⟨_, rfl⟩
    obtain ⟨j, hjd⟩ : ∃ j, j = k % (text.length + 1) := ⟨_, rfl⟩
    rw [← hpcd] at hpc hq1 hq2
    rw [← hjd] at hjj hr1 hr2
    have HPC := hideP hpcd
    have HJ := hideP hjd
    clear hpcd hjd
    obtain ⟨ad2, g, o, x, B, mr, c', rfl, hx, hadd9, -, hg9, hRR, hI, q0, q1, q2, q3, q4⟩ := (H0.out.upd HU3.out (fun _ _ => not_nob)).at1 hpc
    have hmy := HMAY.out pc x hx
    have z0 : w3.cell? ⟨pb, 0, none⟩ = some (.slice (some ad2) is.length c) := HC3.out.cellv rfl
    have hUz := (Upd.refl Nob w3).alloc (.cells #[.int .i64 0, .int .i64 0, .int .i64 0, .int .i64 0, .slice none 0 0] 64)
    obtain ⟨op, xx, yy, arg, rs⟩ := x
    simp only at q0 q1 q2 q3 hRR hI
    have z0a : (w3.alloc (.cells #[.int .i64 0, .int .i64 0, .int .i64 0, .int .i64 0, .slice none 0 0] 64)).cell? ⟨pb, 0, none⟩ = some (.slice (some ad2) is.length c) := (HC3.out.upd hUz not_nob).cellv rfl
    have q0a : (w3.alloc (.cells #[.int .i64 0, .int .i64 0, .int .i64 0, .int .i64 0, .slice none 0 0] 64)).cell? ⟨g, o, none⟩ = some (.int .i64 op) := (hUz.cell (p := ⟨g, o, none⟩) hg9 not_nob).trans q0
    have q1a : (w3.alloc (.cells #[.int .i64 0, .int .i64 0, .int .i64 0, .int .i64 0, .slice none 0 0] 64)).cell? ⟨g, o + 1, none⟩ = some (.int .i64 xx) := (hUz.cell (p := ⟨g, o + 1, none⟩) hg9 not_nob).trans q1
    have q2a : (w3.alloc (.cells #[.int .i64 0, .int .i64 0, .int .i64 0, .int .i64 0, .slice none 0 0] 64)).cell? ⟨g, o + 2, none⟩ = some (.int .i64 yy) := (hUz.cell (p := ⟨g, o + 2, none⟩) hg9 not_nob).trans q2
    have q3a : (w3.alloc (.cells #[.int .i64 0, .int .i64 0, .int .i64 0, .int .i64 0, .slice none 0 0] 64)).cell? ⟨g, o + 3, none⟩ = some (.int .i64 arg) := (hUz.cell (p := ⟨g, o + 3, none⟩) hg9 not_nob).trans q3
    have q4a : (w3.alloc (.cells #[.int .i64 0, .int .i64 0, .int .i64 0, .int .i64 0, .slice none 0 0] 64)).cell? ⟨g, o + 4, none⟩ = some (.slice B mr c') := (hUz.cell (p := ⟨g, o + 4, none⟩) hg9 not_nob).trans q4
    have hpci : (pc : Int) < (is.length : Int) := by omega
    have HX := hideP hx
    have HMY := hideP hmy
    have HRg := hideP hRR
    have HIn := hideP hI
    have HMB := hideP hmb
    clear hUz hx hmy hRR hI hmb
    go_region
    have hU4 := ((Upd.refl Nob w3).alloc (.cells #[.int .i64 op, .int .i64 xx, .int .i64 yy, .int .i64 arg, .slice B mr c'] 64)).drew
    have HY4 := hideP ((Cells.new w3 64 #[.int .i64 op, .int .i64 xx, .int .i64 yy, .int .i64 arg, .slice B mr c']).drew)
    have HU4 := hideP (HU3.out.trans hU4 (fun _ _ h => h))
    have HC4 := hideP (HC3.out.upd hU4 not_nob)
    have HM4 := hideP (own_upd HM3.out hU4 (fun _ _ => not_nob))
    have HL4 := hideP (own_upd HL3.out hU4 (fun _ _ => not_nob))
    have HRg4 := hideP (HRg.out.upd hU4 (fun _ _ => not_nob))
    clear hU4 z0 q0 q1 q2 q3 q4 z0a q0a q1a q2a q3a q4a hadd9 hg9 hpci
    have hybw : w.heap.size ≤ w3.heap.size := HU3.out.size
    generalize (w3.alloc (.cells #[.int .i64 op, .int .i64 xx, .int .i64 yy, .int .i64 arg, .slice B mr c'] 64)).drew = w4 at *
    generalize w3.heap.size = yb at *
    have l0 : w4.cell? ⟨yb, 0, none⟩ = some (.int .i64 op) := HY4.out.cellv rfl
    have l1 : w4.cell? ⟨yb, 0 + 1, none⟩ = some (.int .i64 xx) := HY4.out.cellv rfl
    have l2 : w4.cell? ⟨yb, 0 + 2, none⟩ = some (.int .i64 yy) := HY4.out.cellv rfl
    have l3 : w4.cell? ⟨yb, 0 + 3, none⟩ = some (.int .i64 arg) := HY4.out.cellv rfl
    have l4 : w4.cell? ⟨yb, 0 + 4, none⟩ = some (.slice B mr c') := HY4.out.cellv rfl
    have hcm := count_met HMB.out
    have hsz4 : w.heap.size ≤ w4.heap.size := HU4.out.size
    have hlM : l.length ≤ 5002 * M + 1 := by omega
    by_cases o5 : op = 5
    · subst o5
      have hhit : Hits is text a st := hsound.2 (by rw [← HPC.out, ← HJ.out]; exact .match_ HX.out rfl)
      have HH := hideP hhit
      clear hhit l1 l2 l3 l4
      go_wp2_with fail
      go_ret
      exact ⟨true, rfl, ⟨fun _ => HH.out, fun _ => rfl⟩, HU4.out⟩
    have o5b : (op == 5) = false := by simpa using o5
    have HTK := hideP (fun (l2 : List Nat) h1 h2 h3 => RcI.take (l2 := l2) HR.out HRR.out.inv (by rw [← HPC.out]; exact HX.out) o5 h1 h2 h3)
    by_cases o6 : op = 6
    · subst o6
      have hs : succsOf is text (text.length + 1) k = [] := by unfold succsOf; rw [← HPC.out, HX.out]; rfl
      have hinv := HTK.out l (fun q h => h) (by rw [hs]; simp) (fun q h => .inl h)
      have HNW := hideP (⟨HU4.out, HC4.out, HM4.out, HL4.out, hinv, by omega⟩ : RchR w w4 pb mg M (some ad2) c is st caps text a (met.set k true) l (some ⟨gL, 0, none⟩) lc)
      clear hinv hs l1 l2 l3 l4
      go_wp2_with fail
      go_roundg (l.length + 5002 * (met.set k true).count false)
      case measure => omega
      case rel => exact ⟨met.set k true, l, _, lc, rfl, rfl, HNW.out⟩
    have o6b : (op == 6) = false := by simpa using o6
    by_cases o7 : op = 7
    · subst o7
      have hs : succsOf is text (text.length + 1) k = [xx.toNat * (text.length + 1) + j] := by unfold succsOf; rw [← HPC.out, HX.out, ← HJ.out]; rfl
      have gx := vmay_x HMY.out (.inr (.inr (.inr (.inr rfl))))
      simp only at gx
      obtain ⟨px, rfl⟩ : ∃ q : Nat, xx = (q : Int) := Int.eq_ofNat_of_zero_le gx.1
      have hpx : px < is.length := by omega
      have hpN := pair_lt (N := text.length + 1) (j := j) hjj hpx
      rw [← HM.out] at hpN
      obtain ⟨xN, hxN⟩ : ∃ xN, xN = px * (text.length + 1) := ⟨_, rfl⟩
      rw [← hxN] at hpN
      have hxi : (px : Int) * ((text.length : Int) + 1) = (xN : Int) := by rw [hxN]; push_cast; rfl
      have hinv := HTK.out (l ++ [xN + j]) (fun q h => List.mem_append.2 (.inl h)) (by rw [hs, hxN]; intro q h; exact List.mem_append.2 (.inr h)) (by rw [hs, hxN]; intro q h; exact List.mem_append.1 h)
      have HINV := hideP hinv
      have HUa := hideP ((Upd.refl Nob w4).alloc (.cells #[.int .i64 ((xN : Int) + (j : Int))] 3))
      have HXN := hideP hxN
      clear hinv hs gx hxN l2 l3 l4
      go_wp2_with (at_builtin; refine wpList_append_own_at _ rfl _ _ 28 rfl w.heap.size 3 i0 (.int .i64 0) 1 8 Try.underlying28 hi0 hz0 hz1 hz2 rfl (by decide) (.slice (some ⟨gL, 0, none⟩) l.length lc) l.length (ints l) rfl (HL4.out.alloc _) ⟨w4.heap.size, 0, none⟩ 1 1 [.int .i64 ((xN : Int) + (j : Int))] rfl rfl (cell_one_new _ _ _) (by intro u hu; simp at hu; subst hu; rfl) (by unfold maxLen; omega) (by omega) (by simp; omega) ?_; intro v7 w7 o7 g7 _ hat7; obtain ⟨A7, c7, rfl⟩ := own_shape o7)
      have hbox7 := (HC4.out.upd HUa.out not_nob).grown g7 (by have := own_ne HL4.out HC4.out (by decide); exact this)
      have hmet7 := (own_upd HM4.out HUa.out (fun _ _ => not_nob)).kept g7 (.inr (by simp [Value.ownBlock]; omega))
      have hupd7 := (HU4.out.trans HUa.out (fun _ _ h => h)).grown g7 (fun q hq hlt => by have := (HL4.out.lt q hq).1; omega)
      have hl7 : (l ++ [xN + j]).length = l.length + 1 := by simp
      have ho7 : w7.ownsRow w.heap.size 3 1 (.slice A7 (l ++ [xN + j]).length c7) (l ++ [xN + j]).length (ints (l ++ [xN + j])) := by
        rw [hl7]
        have e7 : ints (l ++ [xN + j]) = ints l ++ [.int .i64 ((xN : Int) + (j : Int))] := by simp [ints]
        rw [e7]
        exact o7
      have HNW := hideP (⟨hupd7, hbox7, hmet7, ho7, HINV.out, by rw [hl7]; omega⟩ : RchR w w7 pb mg M (some ad2) c is st caps text a (met.set k true) (l ++ [xN + j]) A7 c7)
      go_roundg (l.length + 1 + 5002 * (met.set k true).count false)
      case measure => omega
      case rel => exact ⟨met.set k true, l ++ [xN + j], A7, c7, by rw [hl7], by rw [hl7], HNW.out⟩
    have o7b : (op == 7) = false := by simpa using o7
    by_cases o3 : op = 3
    · subst o3
      have hs : succsOf is text (text.length + 1) k = [xx.toNat * (text.length + 1) + j] := by unfold succsOf; rw [← HPC.out, HX.out, ← HJ.out]; rfl
      have gx := vmay_x HMY.out (.inr (.inr (.inl rfl)))
      simp only at gx
      obtain ⟨px, rfl⟩ : ∃ q : Nat, xx = (q : Int) := Int.eq_ofNat_of_zero_le gx.1
      have hpx : px < is.length := by omega
      have hpN := pair_lt (N := text.length + 1) (j := j) hjj hpx
      rw [← HM.out] at hpN
      obtain ⟨xN, hxN⟩ : ∃ xN, xN = px * (text.length + 1) := ⟨_, rfl⟩
      rw [← hxN] at hpN
      have hxi : (px : Int) * ((text.length : Int) + 1) = (xN : Int) := by rw [hxN]; push_cast; rfl
      have hinv := HTK.out (l ++ [xN + j]) (fun q h => List.mem_append.2 (.inl h)) (by rw [hs, hxN]; intro q h; exact List.mem_append.2 (.inr h)) (by rw [hs, hxN]; intro q h; exact List.mem_append.1 h)
      have HINV := hideP hinv
      have HUa := hideP ((Upd.refl Nob w4).alloc (.cells #[.int .i64 ((xN : Int) + (j : Int))] 3))
      have HXN := hideP hxN
      clear hinv hs gx hxN l2 l3 l4
      go_wp2_with (at_builtin; refine wpList_append_own_at _ rfl _ _ 28 rfl w.heap.size 3 i0 (.int .i64 0) 1 8 Try.underlying28 hi0 hz0 hz1 hz2 rfl (by decide) (.slice (some ⟨gL, 0, none⟩) l.length lc) l.length (ints l) rfl (HL4.out.alloc _) ⟨w4.heap.size, 0, none⟩ 1 1 [.int .i64 ((xN : Int) + (j : Int))] rfl rfl (cell_one_new _ _ _) (by intro u hu; simp at hu; subst hu; rfl) (by unfold maxLen; omega) (by omega) (by simp; omega) ?_; intro v7 w7 o7 g7 _ hat7; obtain ⟨A7, c7, rfl⟩ := own_shape o7)
      have hbox7 := (HC4.out.upd HUa.out not_nob).grown g7 (by have := own_ne HL4.out HC4.out (by decide); exact this)
      have hmet7 := (own_upd HM4.out HUa.out (fun _ _ => not_nob)).kept g7 (.inr (by simp [Value.ownBlock]; omega))
      have hupd7 := (HU4.out.trans HUa.out (fun _ _ h => h)).grown g7 (fun q hq hlt => by have := (HL4.out.lt q hq).1; omega)
      have hl7 : (l ++ [xN + j]).length = l.length + 1 := by simp
      have ho7 : w7.ownsRow w.heap.size 3 1 (.slice A7 (l ++ [xN + j]).length c7) (l ++ [xN + j]).length (ints (l ++ [xN + j])) := by
        rw [hl7]
        have e7 : ints (l ++ [xN + j]) = ints l ++ [.int .i64 ((xN : Int) + (j : Int))] := by simp [ints]
        rw [e7]
        exact o7
      have HNW := hideP (⟨hupd7, hbox7, hmet7, ho7, HINV.out, by rw [hl7]; omega⟩ : RchR w w7 pb mg M (some ad2) c is st caps text a (met.set k true) (l ++ [xN + j]) A7 c7)
      go_roundg (l.length + 1 + 5002 * (met.set k true).count false)
      case measure => omega
      case rel => exact ⟨met.set k true, l ++ [xN + j], A7, c7, by rw [hl7], by rw [hl7], HNW.out⟩
    have o3b : (op == 3) = false := by simpa using o3
    by_cases o2 : op = 2
    · subst o2
      have hs : succsOf is text (text.length + 1) k = [xx.toNat * (text.length + 1) + j, yy.toNat * (text.length + 1) + j] := by unfold succsOf; rw [← HPC.out, HX.out, ← HJ.out]; rfl
      have gx := vmay_x HMY.out (.inr (.inl rfl))
      have gy := vmay_y HMY.out rfl
      simp only at gx gy
      obtain ⟨px, rfl⟩ : ∃ q : Nat, xx = (q : Int) := Int.eq_ofNat_of_zero_le gx.1
      obtain ⟨py, rfl⟩ : ∃ q : Nat, yy = (q : Int) := Int.eq_ofNat_of_zero_le gy.1
      have hpN := pair_lt (N := text.length + 1) (j := j) hjj (show px < is.length by omega)
      have hpM := pair_lt (N := text.length + 1) (j := j) hjj (show py < is.length by omega)
      rw [← HM.out] at hpN hpM
      obtain ⟨xN, hxN⟩ : ∃ xN, xN = px * (text.length + 1) := ⟨_, rfl⟩
      obtain ⟨yN, hyN⟩ : ∃ yN, yN = py * (text.length + 1) := ⟨_, rfl⟩
      rw [← hxN] at hpN
      rw [← hyN] at hpM
      have hxi : (px : Int) * ((text.length : Int) + 1) = (xN : Int) := by rw [hxN]; push_cast; rfl
      have hyi : (py : Int) * ((text.length : Int) + 1) = (yN : Int) := by rw [hyN]; push_cast; rfl
      have hinv := HTK.out (l ++ [xN + j, yN + j]) (fun q h => List.mem_append.2 (.inl h)) (by rw [hs, hxN, hyN]; intro q h; exact List.mem_append.2 (.inr h)) (by rw [hs, hxN, hyN]; intro q h; exact List.mem_append.1 h)
      have HINV := hideP hinv
      have HUa := hideP ((Upd.refl Nob w4).alloc (.cells #[.int .i64 ((xN : Int) + (j : Int)), .int .i64 ((yN : Int) + (j : Int))] 3))
      have hnews : ∀ q u, [Value.int .i64 ((xN : Int) + (j : Int)), Value.int .i64 ((yN : Int) + (j : Int))][q]? = some u → (w4.alloc (.cells #[.int .i64 ((xN : Int) + (j : Int)), .int .i64 ((yN : Int) + (j : Int))] 3)).cell? ((⟨w4.heap.size, 0, none⟩ : Addr).add q) = some u :=
        World.news_of_block (cs := #[.int .i64 ((xN : Int) + (j : Int)), .int .i64 ((yN : Int) + (j : Int))]) (t := 3) (fr := (0, 0)) (heap_alloc_new w4 _)
      have HNS := hideP hnews
      clear hinv hs gx gy hxN hyN l3 l4 hnews
      go_wp2_with (at_builtin; refine wpList_append_own_at _ rfl _ _ 28 rfl w.heap.size 3 i0 (.int .i64 0) 1 8 Try.underlying28 hi0 hz0 hz1 hz2 rfl (by decide) (.slice (some ⟨gL, 0, none⟩) l.length lc) l.length (ints l) rfl (HL4.out.alloc _) ⟨w4.heap.size, 0, none⟩ 2 2 [.int .i64 ((xN : Int) + (j : Int)), .int .i64 ((yN : Int) + (j : Int))] rfl rfl HNS.out (by intro u hu; simp at hu; rcases hu with rfl | rfl <;> rfl) (by unfold maxLen; omega) (by omega) (by simp; omega) ?_; intro v7 w7 o7 g7 _ hat7; obtain ⟨A7, c7, rfl⟩ := own_shape o7)
      have hbox7 := (HC4.out.upd HUa.out not_nob).grown g7 (by have := own_ne HL4.out HC4.out (by decide); exact this)
      have hmet7 := (own_upd HM4.out HUa.out (fun _ _ => not_nob)).kept g7 (.inr (by simp [Value.ownBlock]; omega))
      have hupd7 := (HU4.out.trans HUa.out (fun _ _ h => h)).grown g7 (fun q hq hlt => by have := (HL4.out.lt q hq).1; omega)
      have hl7 : (l ++ [xN + j, yN + j]).length = l.length + 2 := by simp
      have ho7 : w7.ownsRow w.heap.size 3 1 (.slice A7 (l ++ [xN + j, yN + j]).length c7) (l ++ [xN + j, yN + j]).length (ints (l ++ [xN + j, yN + j])) := by
        rw [hl7]
        have e7 : ints (l ++ [xN + j, yN + j]) = ints l ++ [.int .i64 ((xN : Int) + (j : Int)), .int .i64 ((yN : Int) + (j : Int))] := by simp [ints]
        rw [e7]
        exact o7
      have HNW := hideP (⟨hupd7, hbox7, hmet7, ho7, HINV.out, by rw [hl7]; omega⟩ : RchR w w7 pb mg M (some ad2) c is st caps text a (met.set k true) (l ++ [xN + j, yN + j]) A7 c7)
      go_roundg (l.length + 2 + 5002 * (met.set k true).count false)
      case measure => omega
      case rel => exact ⟨met.set k true, l ++ [xN + j, yN + j], A7, c7, by rw [hl7], by rw [hl7], HNW.out⟩
    have o2b : (op == 2) = false := by simpa using o2
    by_cases o4 : op = 4
    · subst o4
      have gx := vmay_x HMY.out (.inr (.inr (.inr (.inl rfl))))
      simp only at gx
      have hed : edgeB arg = true := by
        have := HMY.out
        simp [mayB] at this
        exact this.1.2
      have hpb := part_bounds text j 6
      have hjl : j ≤ text.length := by omega
      have hand := and_holds (p := part text j 6) (a := arg) hpb.1 (by have := hpb.2; have e : (2 : Int) ^ 6 = 64 := by decide
                                                                       omega) hed
      have hpos : 0 < bits .and .i64 (part text j 6) arg ↔ holdsB arg (part text j 6) = true := by rw [← hand]; simp
      have Q : ∀ q, Calls Try.prog 46 #[.slice T text.length tc, .int .i64 (j : Int)] (w4.drewN q) fun e w'' => e = .returned (.int .i64 (part text j 6)) ∧ ∃ m, w'' = w4.drewN m := fun q =>
        (refAt_in (w4.drewN q) S T text.length tc j text ((HT0.out.upd HU4.out (fun _ _ => not_nob)).upd ((Upd.refl Nob w4).drewN q) (fun _ _ => not_nob)) hjl).mono (by
          rintro e w'' ⟨he, rfl⟩
          exact ⟨he, q, rfl⟩)
      have HQ := hideP Q
      clear Q hed hpb
      rcases hb : holdsB arg (part text j 6) with _ | _
      · have hs : succsOf is text (text.length + 1) k = [] := by unfold succsOf; rw [← HPC.out, HX.out, ← HJ.out]; show (if holdsB arg (part text j 6) = true then _ else []) = []; rw [hb]; rfl
        have hinv := HTK.out l (fun q h => h) (by rw [hs]; simp) (fun q h => .inl h)
        rw [hb] at hand
        have hposn : ¬ 0 < bits .and .i64 (part text j 6) arg := fun h => by have := hpos.1 h; rw [hb] at this; cases this
        have HINV := hideP hinv
        clear hinv hs hb hpos l2 l4
        go_wp2_with fail
        go_quiet ((go_at_call 46; exact HQ.out _))
        have HNW := hideP (⟨HU4.out.drewN nq, HC4.out.drewN nq, own_upd HM4.out ((Upd.refl Nob w4).drewN nq) (fun _ _ => not_nob), own_upd HL4.out ((Upd.refl Nob w4).drewN nq) (fun _ _ => not_nob), HINV.out, by omega⟩ : RchR w (w4.drewN nq) pb mg M (some ad2) c is st caps text a (met.set k true) l (some ⟨gL, 0, none⟩) lc)
        go_wp2_with fail
        go_roundg (l.length + 5002 * (met.set k true).count false)
        case measure => omega
        case rel => exact ⟨met.set k true, l, _, lc, rfl, rfl, HNW.out⟩
      · have hs : succsOf is text (text.length + 1) k = [xx.toNat * (text.length + 1) + j] := by unfold succsOf; rw [← HPC.out, HX.out, ← HJ.out]; show (if holdsB arg (part text j 6) = true then _ else []) = _; rw [hb]; rfl
        rw [hb] at hand
        have hposy : 0 < bits .and .i64 (part text j 6) arg := hpos.2 hb
        clear hb hpos
        go_wp2_with fail
        go_quiet ((go_at_call 46; exact HQ.out _))
        have hU5 := (Upd.refl Nob w4).drewN nq
        have HU5 := hideP (HU4.out.drewN nq)
        have HC5 := hideP (HC4.out.drewN nq)
        have HM5 := hideP (own_upd HM4.out hU5 (fun _ _ => not_nob))
        have HL5 := hideP (own_upd HL4.out hU5 (fun _ _ => not_nob))
        have l1 : (w4.drewN nq).cell? ⟨yb, 0 + 1, none⟩ = some (.int .i64 xx) := HY4.out.cellv rfl
        have hsz5 : w.heap.size ≤ (w4.drewN nq).heap.size := hsz4
        generalize w4.drewN nq = w5 at *
        clear hU5
        obtain ⟨px, rfl⟩ : ∃ q : Nat, xx = (q : Int) := Int.eq_ofNat_of_zero_le gx.1
        have hpx : px < is.length := by omega
        have hpN := pair_lt (N := text.length + 1) (j := j) hjj hpx
        rw [← HM.out] at hpN
        obtain ⟨xN, hxN⟩ : ∃ xN, xN = px * (text.length + 1) := ⟨_, rfl⟩
        rw [← hxN] at hpN
        have hxi : (px : Int) * ((text.length : Int) + 1) = (xN : Int) := by rw [hxN]; push_cast; rfl
        have hinv := HTK.out (l ++ [xN + j]) (fun q h => List.mem_append.2 (.inl h)) (by rw [hs, hxN]; intro q h; exact List.mem_append.2 (.inr h)) (by rw [hs, hxN]; intro q h; exact List.mem_append.1 h)
        have HINV := hideP hinv
        have HUa := hideP ((Upd.refl Nob w5).alloc (.cells #[.int .i64 ((xN : Int) + (j : Int))] 3))
        have HXN := hideP hxN
        clear hinv hs gx hxN l2 l3 l4
        go_wp2_with (at_builtin; refine wpList_append_own_at _ rfl _ _ 28 rfl w.heap.size 3 i0 (.int .i64 0) 1 8 Try.underlying28 hi0 hz0 hz1 hz2 rfl (by decide) (.slice (some ⟨gL, 0, none⟩) l.length lc) l.length (ints l) rfl (HL5.out.alloc _) ⟨w5.heap.size, 0, none⟩ 1 1 [.int .i64 ((xN : Int) + (j : Int))] rfl rfl (cell_one_new _ _ _) (by intro u hu; simp at hu; subst hu; rfl) (by unfold maxLen; omega) (by omega) (by simp; omega) ?_; intro v7 w7 o7 g7 _ hat7; obtain ⟨A7, c7, rfl⟩ := own_shape o7)
        have hbox7 := (HC5.out.upd HUa.out not_nob).grown g7 (by have := own_ne HL5.out HC5.out (by decide); exact this)
        have hmet7 := (own_upd HM5.out HUa.out (fun _ _ => not_nob)).kept g7 (.inr (by simp [Value.ownBlock]; omega))
        have hupd7 := (HU5.out.trans HUa.out (fun _ _ h => h)).grown g7 (fun q hq hlt => by have := (HL5.out.lt q hq).1; omega)
        have hl7 : (l ++ [xN + j]).length = l.length + 1 := by simp
        have ho7 : w7.ownsRow w.heap.size 3 1 (.slice A7 (l ++ [xN + j]).length c7) (l ++ [xN + j]).length (ints (l ++ [xN + j])) := by
          rw [hl7]
          have e7 : ints (l ++ [xN + j]) = ints l ++ [.int .i64 ((xN : Int) + (j : Int))] := by simp [ints]
          rw [e7]
          exact o7
        have HNW := hideP (⟨hupd7, hbox7, hmet7, ho7, HINV.out, by rw [hl7]; omega⟩ : RchR w w7 pb mg M (some ad2) c is st caps text a (met.set k true) (l ++ [xN + j]) A7 c7)
        go_roundg (l.length + 1 + 5002 * (met.set k true).count false)
        case measure => omega
        case rel => exact ⟨met.set k true, l ++ [xN + j], A7, c7, by rw [hl7], by rw [hl7], HNW.out⟩
    have o4b : (op == 4) = false := by simpa using o4
    obtain rfl : op = 1 := by have := vmay_op HMY.out; simp only at this; omega
    have gx := vmay_x HMY.out (.inl rfl)
    simp only at gx
    have hrb : rightB rs = true := by
      have := HMY.out
      simp only [mayB, if_true, Bool.and_eq_true] at this
      exact this.2
    obtain ⟨px, rfl⟩ : ∃ q : Nat, xx = (q : Int) := Int.eq_ofNat_of_zero_le gx.1
    obtain rfl : rs.length = mr := HRg4.out.len
    have hrl : rs.length ≤ 5000 := by
      unfold rightB at hrb
      rw [Bool.and_eq_true] at hrb
      exact of_decide_eq_true hrb.1
    have hs : succsOf is text (text.length + 1) k = if fitsB rs text j = true then [px * (text.length + 1) + j + 1] else [] := by unfold succsOf; rw [← HPC.out, HX.out, ← HJ.out]; rfl
    by_cases hjl : j < text.length
    rotate_left
    · have hfit : fitsB rs text j = false := by unfold fitsB; rw [List.getElem?_eq_none (by omega)]
      rw [hfit] at hs
      have hinv := HTK.out l (fun q h => h) (by rw [hs]; simp) (fun q h => .inl h)
      have HNW := hideP (⟨HU4.out, HC4.out, HM4.out, HL4.out, hinv, by omega⟩ : RchR w w4 pb mg M (some ad2) c is st caps text a (met.set k true) l (some ⟨gL, 0, none⟩) lc)
      have hjn : ¬ (j : Int) < (text.length : Int) := by omega
      have hjd2 : decide ((j : Int) < (text.length : Int)) = false := decide_eq_false hjn
      clear hinv hs hfit gx hrb l1 l2 l3
      go_wp2_with fail
      go_loopg [9, 13] 0 (fun gk v9 v13 wq => v9 = .slice (some ⟨gL, 0, none⟩) l.length lc ∧ v13 = .int .i64 0 ∧ wq = w4)
      case atStart => exact ⟨rfl, rfl, rfl⟩
      case round =>
        obtain ⟨rfl, rfl, rfl⟩ := hrel
        by_cases hr0 : (0 : Int) < (rs.length : Int)
        · go_wp2_with fail
          go_roundg (l.length + 5002 * (met.set k true).count false)
          case measure => omega
          case rel => exact ⟨met.set k true, l, _, lc, rfl, rfl, HNW.out⟩
        · have hr0d : decide ((0 : Int) < (rs.length : Int)) = false := decide_eq_false hr0
          go_wp2_with fail
          go_roundg (l.length + 5002 * (met.set k true).count false)
          case measure => omega
          case rel => exact ⟨met.set k true, l, _, lc, rfl, rfl, HNW.out⟩
    obtain ⟨ad3, cx, rfl, hcx, hcI, hat⟩ := HT0.out.at_ hjl
    have hfit : fitsB rs text j = inB rs cx := by unfold fitsB; rw [hcx]; simp only [hasB, hrb, Bool.true_and]
    have hpN := pair_lt (N := text.length + 1) (j := j + 1) (by omega) (show px < is.length by omega)
    rw [← HM.out] at hpN
    obtain ⟨xN, hxN⟩ : ∃ xN, xN = px * (text.length + 1) := ⟨_, rfl⟩
    rw [← hxN] at hpN hs
    have hxi : (px : Int) * ((text.length : Int) + 1) = (xN : Int) := by rw [hxN]; push_cast; rfl
    have hjn : (j : Int) < (text.length : Int) := by omega
    have hjd2 : decide ((j : Int) < (text.length : Int)) = true := decide_eq_true hjn
    have HSUC := hideP hs
    have HFIT := hideP hfit
    have HAT := hideP hat
    have HCX := hideP hcx
    clear hs hfit hat gx hrb l1 l2 l3 l4 hcx hxN
    go_wp2_with fail
    go_loopg [9, 13] rs.length (fun gi v9 v13 wq => ∃ (i : Nat) (td : List Nat) (A' : Option Addr) (lc' : Nat), i + gi = rs.length ∧ v13 = .int .i64 (i : Int) ∧ v9 = .slice A' td.length lc' ∧ Upd (fun b => w.heap.size ≤ b) w4 wq ∧ Cells wq pb 27 #[.slice (some ad2) is.length c, .int .i64 (st : Int), .int .i64 caps] ∧ Cells wq yb 64 #[.int .i64 1, .int .i64 (px : Int), .int .i64 yy, .int .i64 arg, .slice B rs.length c'] ∧ wq.ownsRow w.heap.size 4 1 (.slice (some ⟨mg, 0, none⟩) M M) M (bvs (met.set k true)) ∧
      wq.ownsRow w.heap.size 3 1 (.slice A' td.length lc') td.length (ints td) ∧ (∀ q, q ∈ l → q ∈ td) ∧ (∀ q, q ∈ td → q ∈ l ∨ (q = xN + j + 1 ∧ inB rs cx = true)) ∧ td.length ≤ l.length + i ∧ (∀ i' y, i' < i → rs[i']? = some y → y.1 ≤ cx → cx ≤ y.2 → xN + j + 1 ∈ td))
    case atStart => exact ⟨0, l, _, lc, by omega, rfl, rfl, Upd.refl _ _, HC4.out, HY4.out, HM4.out, HL4.out, fun q h => h, fun q h => .inl h, by omega, fun i' y h => absurd h (by omega)⟩
    case round =>
      obtain ⟨i, td, A', lc', hi, rfl, rfl, hUq, hcq, hyq, hmq, htq, hsub, honly, htl, hin⟩ := hrel
      have HUq := hideP hUq
      have HUw := hideP (HU4.out.trans hUq (fun q h1 h2 => absurd h1 (by omega)))
      have HCq := hideP hcq
      have HYq := hideP hyq
      have HMq := hideP hmq
      have HTq := hideP htq
      have HSub := hideP hsub
      have HOnly := hideP honly
      have HIn := hideP hin
      have hsq : w.heap.size ≤ wr.heap.size := Nat.le_trans hsz4 hUq.size
      have l1 : wr.cell? ⟨yb, 0 + 1, none⟩ = some (.int .i64 (px : Int)) := hyq.cellv rfl
      have l4 : wr.cell? ⟨yb, 0 + 4, none⟩ = some (.slice B rs.length c') := hyq.cellv rfl
      have HRgq := hideP (HRg4.out.upd hUq (fun q h1 h2 => absurd h1 (by omega)))
      have hcc : wr.cell? (ad3.add j) = some (.int .i64 cx) := HAT.out wr HUw.out
      clear hUq hcq hyq hmq htq hsub honly hin
      by_cases hil : i < rs.length
      rotate_left
      · have g3 : ¬ (i : Int) < (rs.length : Int) := by omega
        have g3d : decide ((i : Int) < (rs.length : Int)) = false := decide_eq_false g3
        have hall : ∀ q ∈ succsOf is text (text.length + 1) k, q ∈ td := by
          rw [HSUC.out, HFIT.out]
          intro q hq
          split at hq
          · rename_i hh
            simp only [List.mem_singleton] at hq
            subst hq
            unfold inB at hh
            rw [List.any_eq_true] at hh
            obtain ⟨y, hy, hyc⟩ := hh
            obtain ⟨i', hi', e⟩ := List.getElem_of_mem hy
            have hyc := of_decide_eq_true hyc
            exact HIn.out i' y (by omega) (by rw [List.getElem?_eq_getElem hi', e]) hyc.1 hyc.2
          · simp at hq
        have hinv := HTK.out td HSub.out hall (fun q hq => (HOnly.out q hq).imp id (fun h => by rw [HSUC.out, HFIT.out, if_pos h.2]; simp [h.1]))
        have HNW := hideP (⟨HUw.out, HCq.out, HMq.out, HTq.out, hinv, by omega⟩ : RchR w wr pb mg M (some ad2) c is st caps text a (met.set k true) td A' lc')
        clear hinv hall l1 hcc
        go_wp2_with fail
        go_roundg (td.length + 5002 * (met.set k true).count false)
        case measure => omega
        case rel => exact ⟨met.set k true, td, _, lc', rfl, rfl, HNW.out⟩
      obtain ⟨ad5, y, g5, o5, rfl, hy, i1, i2, hadd5, c0, c1, -⟩ := HRgq.out.at1 hil
      have g3 : (i : Int) < (rs.length : Int) := by omega
      obtain ⟨lo, hi2⟩ := y
      simp only at c0 c1
      have HY := hideP hy
      clear hy
      by_cases hlo : lo ≤ cx
      · by_cases hhi : cx ≤ hi2
        · have hfit2 : inB rs cx = true := by
            unfold inB
            rw [List.any_eq_true]
            exact ⟨_, List.mem_of_getElem? HY.out, decide_eq_true ⟨hlo, hhi⟩⟩
          have HF2 := hideP hfit2
          clear hfit2
          go_wp2_with fail
          go_quiet (fail)
          have HU5 := hideP (HUq.out.drewN nq)
          have HUw5 := hideP (HUw.out.drewN nq)
          have HC5 := hideP (HCq.out.drewN nq)
          have HY5 := hideP (HYq.out.drewN nq)
          have hUn := (Upd.refl Nob wr).drewN nq
          have HM5 := hideP (own_upd HMq.out hUn (fun _ _ => not_nob))
          have HT5 := hideP (own_upd HTq.out hUn (fun _ _ => not_nob))
          have l1 : (wr.drewN nq).cell? ⟨yb, 0 + 1, none⟩ = some (.int .i64 (px : Int)) := HYq.out.cellv rfl
          have hsz5 : w.heap.size ≤ (wr.drewN nq).heap.size := hsq
          clear hUn l4 hcc c0 c1
          generalize wr.drewN nq = w5 at *
          have hUa := (Upd.refl Nob w5).alloc (.cells #[.int .i64 ((xN : Int) + (j : Int) + 1)] 3)
          have HUa := hideP hUa
          clear hUa
          have htl2 : td.length ≤ 5002 * M + 1 + 5000 := by omega
          go_wp2_with (at_builtin; refine wpList_append_own_at _ rfl _ _ 28 rfl w.heap.size 3 i0 (.int .i64 0) 1 8 Try.underlying28 hi0 hz0 hz1 hz2 rfl (by decide) (.slice A' td.length lc') td.length (ints td) rfl (HT5.out.alloc _) ⟨w5.heap.size, 0, none⟩ 1 1 [.int .i64 ((xN : Int) + (j : Int) + 1)] rfl rfl (cell_one_new _ _ _) (by intro u hu; simp at hu; subst hu; rfl) (by unfold maxLen; omega) (by omega) (by simp; omega) ?_; intro v7 w7 o7 g7 _ hat7; obtain ⟨A7, c7, rfl⟩ := own_shape o7)
          have hneM : (Value.slice A' td.length lc').ownBlock ≠ some mg := by
            obtain ⟨cm2, hcm2, -⟩ := own_cells HM5.out rfl
            exact own_ne HT5.out hcm2 (by decide)
          have hbox7 := (HC5.out.upd HUa.out not_nob).grown g7 (by have := own_ne HT5.out HC5.out (by decide); exact this)
          have hy7 := (HY5.out.upd HUa.out not_nob).grown g7 (by have := own_ne HT5.out HY5.out (by decide); exact this)
          have hmet7 := (own_upd HM5.out HUa.out (fun _ _ => not_nob)).kept g7 (.inr (fun e => hneM e.symm))
          have hupd7 := (HU5.out.trans HUa.out (fun _ _ h => absurd h not_nob)).grown g7 (fun q hq hlt => (HT5.out.lt q hq).1)
          have hl7 : (td ++ [xN + j + 1]).length = td.length + 1 := by simp
          have ho7 : w7.ownsRow w.heap.size 3 1 (.slice A7 (td ++ [xN + j + 1]).length c7) (td ++ [xN + j + 1]).length (ints (td ++ [xN + j + 1])) := by
            rw [hl7]
            have e7 : ints (td ++ [xN + j + 1]) = ints td ++ [.int .i64 ((xN : Int) + (j : Int) + 1)] := by simp [ints]
            rw [e7]
            exact o7
          have HB7 := hideP hbox7
          have HY7 := hideP hy7
          have HM7 := hideP hmet7
          have HU7 := hideP hupd7
          have HO7 := hideP ho7
          clear hbox7 hy7 hmet7 hupd7 ho7 hneM o7 g7 hat7
          go_wp2_with fail
          go_roundg (rs.length - (i + 1))
          case measure => omega
          case rel => exact ⟨i + 1, td ++ [xN + j + 1], A7, c7, by omega, by go_num, by rw [hl7], HU7.out, HB7.out, HY7.out, HM7.out, HO7.out, fun q h => List.mem_append.2 (.inl (HSub.out q h)), fun q h => (List.mem_append.1 h).elim (HOnly.out q) (fun h => by simp at h; exact .inr ⟨h, HF2.out⟩), by rw [hl7]; omega, fun i' y h1 h2 h3 h4 => if e : i' = i then List.mem_append.2 (.inr (by simp)) else List.mem_append.2 (.inl (HIn.out i' y (by omega) h2 h3 h4))⟩
        · have hhid : decide (cx ≤ hi2) = false := decide_eq_false hhi
          go_wp2_with fail
          go_quiet (fail)
          have hUn := (Upd.refl Nob wr).drewN nq
          have HUn := hideP (HUq.out.drewN nq)
          have HMn := hideP (own_upd HMq.out hUn (fun _ _ => not_nob))
          have HTn := hideP (own_upd HTq.out hUn (fun _ _ => not_nob))
          clear hUn
          go_wp2_with fail
          go_roundg (rs.length - (i + 1))
          case measure => omega
          case rel => exact ⟨i + 1, td, A', lc', by omega, by go_num, rfl, HUn.out, HCq.out.drewN nq, HYq.out.drewN nq, HMn.out, HTn.out, HSub.out, HOnly.out, by omega, fun i' y h1 h2 h3 h4 => if e : i' = i then (by subst e; rw [HY.out] at h2; injection h2 with h2; subst h2; exact absurd h4 (by show ¬ cx ≤ hi2; omega)) else HIn.out i' y (by omega) h2 h3 h4⟩
      · have hlod : decide (lo ≤ cx) = false := decide_eq_false hlo
        go_wp2_with fail
        go_quiet (fail)
        have hUn := (Upd.refl Nob wr).drewN nq
        have HUn := hideP (HUq.out.drewN nq)
        have HMn := hideP (own_upd HMq.out hUn (fun _ _ => not_nob))
        have HTn := hideP (own_upd HTq.out hUn (fun _ _ => not_nob))
        clear hUn
        go_wp2_with fail
        go_roundg (rs.length - (i + 1))
        case measure => omega
        case rel => exact ⟨i + 1, td, A', lc', by omega, by go_num, rfl, HUn.out, HCq.out.drewN nq, HYq.out.drewN nq, HMn.out, HTn.out, HSub.out, HOnly.out, by omega, fun i' y h1 h2 h3 h4 => if e : i' = i then (by subst e; rw [HY.out] at h2; injection h2 with h2; subst h2; exact absurd h3 (by show ¬ lo ≤ cx; omega)) else HIn.out i' y (by omega) h2 h3 h4⟩
end Go.Proofs.Ytnkefclbchpafaa
