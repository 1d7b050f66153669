/-
  The walk of literal.Prefix: the row with which every match begins.
-/
import Derived.Test.YtebbnjbgmcdbcaaInsts
import Derived.Test.YtebbnjbgmcdbcaaFinder
import Derived.Test.YtebbnjbgmcdbcaaPlainQ
namespace Go.Proofs.Ytebbnjbgmcdbcaa
open Go.RowKit
set_option linter.unusedVariables false

theorem info_bool : (Try.prog.info? 4).map (fun i => (i.zero, i.size, i.bytes)) = some (some (.bool false), 1, 1) := by kernel_rfl

def boolv (bs : List Bool) : List Value := bs.map Value.bool
theorem boolv_length (bs : List Bool) : (boolv bs).length = bs.length := by simp [boolv]
theorem boolv_at {bs : List Bool} {k : Nat} {x : Bool} (h : bs[k]? = some x) : (boolv bs)[k]? = some (.bool x) := by simp [boolv, h]

/-- Numbers in a block of the call's own, not longer than that. -/
def RowAt (w : World) (base : Nat) (A : Option Addr) (row : List Int) : Prop :=
  (A = none ∧ row = []) ∨ ∃ g cur, A = some ⟨g, 0, none⟩ ∧ base ≤ g ∧ Cells w g 3 cur ∧ cur.toList.take row.length = intv row

theorem RowAt.of_own {w : World} {base c : Nat} {A : Option Addr} {row : List Int} (h : w.ownsRow base 3 1 (.slice A row.length c) row.length (intv row)) : RowAt w base A row := by
  rcases h.2 with ⟨h1, h2⟩ | ⟨g, cap, cur, hv, hb, hg, _, _, _, ht⟩
  · injection h1 with h1
    exact .inl ⟨h1, List.eq_nil_of_length_eq_zero h2⟩
  · injection hv with h1 _ _
    exact .inr ⟨g, cur, h1, hb, hg, by simpa using ht⟩
theorem RowAt.upd {F : Nat → Prop} {w w' : World} {base : Nat} {A : Option Addr} {row : List Int} (h : RowAt w base A row) (hU : Upd F w w') (hF : ∀ k, base ≤ k → ¬ F k) : RowAt w' base A row := by
  rcases h with h | ⟨g, cur, h1, hb, hc, ht⟩
  · exact .inl h
  · exact .inr ⟨g, cur, h1, hb, hc.upd hU (hF g hb), ht⟩
theorem RowAt.reads {w : World} {base : Nat} {A : Option Addr} {row : List Int} (h : RowAt w base A row) : Reads w (fun k => base ≤ k) 1 A row.length (intv row) := by
  refine ⟨by simp [intv], fun hn => ?_⟩
  rcases h with ⟨_, rfl⟩ | ⟨g, cur, rfl, hb, hc, ht⟩
  · simp at hn
  · refine ⟨_, rfl, hc.lt, hb, fun j u hj => ?_⟩
    rw [add_lit_, Nat.zero_add]
    refine hc.cellv ?_
    rw [← ht, List.getElem?_take] at hj
    split at hj
    · simpa using hj
    · cases hj

def PrefixPost (w : World) (r : List Int × Bool) (e : Ending) (w' : World) : Prop :=
  ∃ A, e = .returned (.tuple #[.slice A r.1.length r.1.length, .bool r.2]) ∧ RowAt w' w.heap.size A r.1 ∧ Upd Nob w w'

/-- what the loop of Prefix has: the program's box, which have been met, the row -/
structure PreR (w wr : World) (b mg : Nat) (A Ar : Option Addr) (c cr : Nat) (n : Nat) (start caps : Int) (bs : List Bool) (row : List Int) : Prop where
  box : Cells wr b 27 #[.slice A n c, .int .i64 start, .int .i64 caps]
  met : wr.ownsRow w.heap.size 4 1 (.slice (some ⟨mg, 0, none⟩) n n) n (boolv bs)
  row : wr.ownsRow w.heap.size 3 1 (.slice Ar row.length cr) row.length (intv row)
  upd : Upd Nob w wr

theorem PreR.drewN {w wr : World} {b mg : Nat} {A Ar : Option Addr} {c cr n : Nat} {start caps : Int} {bs : List Bool} {row : List Int} (h : PreR w wr b mg A Ar c cr n start caps bs row) (q : Nat) : PreR w (wr.drewN q) b mg A Ar c cr n start caps bs row :=
  ⟨h.box.drewN q, h.met, h.row, h.upd.drewN q⟩
theorem may_goes {x : PInst} {n : Nat} {caps : Int} (h : mayB x n caps = true) (ho : x.op = 1 ∨ x.op = 3 ∨ x.op = 7) : 0 ≤ x.x ∧ x.x < n := by
  rcases ho with ho | ho | ho <;> simp [mayB, ho, thereB] at h <;> omega

theorem checkB_yes {is : List PInst} {start caps : Int} (h : checkB is start caps = true) : (1 ≤ is.length ∧ is.length ≤ 20000 ∧ 0 ≤ start ∧ start < is.length) ∧ ∀ (i : Nat) (x : PInst), is[i]? = some x → mayB x is.length caps = true := by
  unfold checkB at h
  rw [Bool.and_eq_true] at h
  have h1 := of_decide_eq_true h.1
  refine ⟨by omega, fun i x hx => ?_⟩
  exact List.all_eq_true.1 h.2 x (List.mem_of_getElem? hx)

set_option maxRecDepth 100000 in
set_option maxHeartbeats 4000000 in
theorem prefix_any (w : World) (S : Nat → Prop) (A : Option Addr) (n c : Nat) (is : List PInst) (start caps : Int) (h : InstsR w S A n is) (hs : In64 start) (hc : In64 caps) (hn : n ≤ 140737488355328) :
    Calls Try.prog 11 #[.agg #[.slice A n c, .int .i64 start, .int .i64 caps]] w (PrefixPost w (prefixOf is start caps)) := by
  obtain rfl : is.length = n := h.len
  have C0 : Cells (w.alloc (.cells #[.slice A is.length c, .int .i64 start, .int .i64 caps] 27)) w.heap.size 27 #[.slice A is.length c, .int .i64 start, .int .i64 caps] := Cells.new _ _ _
  have hU := (Upd.refl Nob w).alloc (.cells #[.slice A is.length c, .int .i64 start, .int .i64 caps] 27)
  have H := hideP h
  clear h
  go_enter Try.func11, Try.ntmps11
  go_upto_region 1 with fail
  generalize w.alloc (.cells #[.slice A is.length c, .int .i64 start, .int .i64 caps] 27) = w2 at *
  have bs := C0.lt
  have hbb : w.heap.size = w.heap.size := rfl
  generalize hbw : w.heap.size = b at C0 bs
  have HC := hideP C0
  have HU := hideP hU
  have e0 : w2.cell? ⟨b, 0, none⟩ = some (.slice A is.length c) := C0.cellv rfl
  have e1 : w2.cell? ⟨b, 0 + 1, none⟩ = some (.int .i64 start) := C0.cellv rfl
  have e2 : w2.cell? ⟨b, 0 + 2, none⟩ = some (.int .i64 caps) := C0.cellv rfl
  clear C0 hU
  rcases hv : checkB is start caps with _ | _
  · have hp : prefixOf is start caps = ([], false) := by unfold prefixOf; rw [hv]; rfl
    have HP := hideP hp
    clear hp
    go_wp2_with (go_at_call 27; refine (check_any _ S A is.length c is start caps (H.out.upd HU.out (fun _ _ => not_nob)) hs hc hn).mono ?_; rintro e w3 ⟨he, hU3⟩; rw [hv] at he; subst he)
    go_ret2
    unfold PrefixPost
    rw [HP.out]
    exact ⟨none, rfl, .inl ⟨rfl, rfl⟩, HU.out.trans hU3 (fun _ _ h => h)⟩
  obtain ⟨⟨n1, n2, s0, s1⟩, hmay⟩ := checkB_yes hv
  obtain ⟨st, rfl⟩ := Int.eq_ofNat_of_zero_le s0
  have hp : prefixOf is (st : Int) caps = prefixFrom is (is.length + 1) (List.replicate is.length false) st [] := by unfold prefixOf; rw [hv]; rfl
  have HP := hideP hp
  have HM := hideP hmay
  clear hp hmay
  obtain ⟨i0, hi0, hz0, hz1, hz2⟩ := info_parts info_int
  obtain ⟨j0, hj0, hy0, hy1, hy2⟩ := info_parts info_bool
  have hzb : (madeCells (Value.bool false).cells (is.length * 1)).toList = boolv (List.replicate is.length false) := by
    have : (Value.bool false).cells = #[Value.bool false] := rfl
    rw [this, toList_madeCells_one, Nat.mul_one]
    simp [boolv]
  have HZ := hideP hzb
  clear hzb
  have hle2 := HU.out.size
  go_wp2_with (first
    | (go_at_call 27; refine (check_any _ S A is.length c is st caps (H.out.upd HU.out (fun _ _ => not_nob)) hs hc hn).mono ?_; rintro e w3 ⟨he, hU3⟩; rw [hv] at he; subst he; have C3 := HC.out.upd hU3 not_nob; have e0 := C3.cellv (i := 0) rfl; have e1 := C3.cellv (i := 0 + 1) rfl; have hle3 := hU3.size)
    | (at_make; refine wpList_make_full w3 rfl (.tmp 13) (.tmp 13) 63 rfl w.heap.size 4 j0 (.bool false) 1 Try.underlying63 hj0 hy0 hy1 .i64 .i64 (is.length : Int) (is.length : Int) is.length rfl rfl rfl rfl (by rw [hy2]; omega) (by unfold maxLen; omega) (by omega) ?_; intro w4 o4 hg4; rw [HZ.out] at o4; have C4 := C3.grown hg4 (by simp); have e0 := C4.cellv (i := 0) rfl; have e1 := C4.cellv (i := 0 + 1) rfl; have hle4 := hg4.size)
    | (at_make; refine wpList_make_own w4 rfl _ (.tmp 17) 29 rfl w.heap.size 3 i0 (.int .i64 0) 1 Try.underlying29 hi0 hz0 hz1 .i64 .i64 (is.length : Int) is.length rfl rfl rfl (by rw [hz2]; omega) (by unfold maxLen; omega) (by omega) ?_; intro w5 o5 hg5; have C5 := C4.grown hg5 (by simp); have e0 := C5.cellv (i := 0) rfl; have e1 := C5.cellv (i := 0 + 1) rfl; have o4' := own_upd o4 ((Upd.refl Nob w4).grown hg5 (by simp)) (fun _ _ => not_nob))
    | fail)
  have P5 : PreR w w5 b w3.heap.size A (some ⟨w4.heap.size, 0, none⟩) c is.length is.length st caps (List.replicate is.length false) [] := ⟨C5, o4', o5, ((HU.out.trans hU3 (fun _ _ h => h)).grown hg4 (by simp)).grown hg5 (by simp)⟩
  generalize w4.heap.size = rg0 at *
  generalize w3.heap.size = mg at *
  clear o4 o4' o5 hg4 hg5 C3 C4 C5 hU3 hle2
  go_loopg [5, 6] is.length (fun gk v5 v6 wr => ∃ (bs : List Bool) (pc rg cr : Nat) (row : List Int), bs.count false = gk ∧ bs.length = is.length ∧ v5 = .slice (some ⟨rg, 0, none⟩) row.length cr ∧ v6 = .int .i64 (pc : Int) ∧ pc < is.length ∧ row.length + gk ≤ is.length ∧ row.length ≤ cr ∧
      prefixOf is (st : Int) caps = prefixFrom is (gk + 1) bs pc row ∧ PreR w wr b mg A (some ⟨rg, 0, none⟩) c cr is.length st caps bs row)
  case atStart => exact ⟨_, st, rg0, is.length, [], by simp, by simp, rfl, rfl, by omega, by simp, by simp, HP.out, P5⟩
  case round =>
    obtain ⟨bs, pc, rg, cr, row, hgk, hbl, rfl, rfl, hpc, hrow, hcr, hpf, hR⟩ := hrel
    obtain ⟨m, hm⟩ : ∃ m, bs[pc]? = some m := ⟨_, List.getElem?_eq_getElem (by omega)⟩
    have cm : wr.cell? ⟨mg, pc, none⟩ = some (.bool m) := by
      rw [hR.met.cellAt pc (by omega)]
      exact boolv_at hm
    have r1 : (row.length : Int) ≤ (cr : Int) := by omega
    rcases m with _ | _
    rotate_left
    · have HF := hideP (hpf.trans (prefix_met hm))
      have HR := hideP hR
      clear hpf hR hm
      go_wp2_with fail
      go_ret2
      unfold PrefixPost
      rw [HF.out]
      exact ⟨some ⟨rg, 0, none⟩, rfl, .of_own HR.out.row, HR.out.upd⟩
    obtain ⟨ad, g, o, x, B, m, c', rfl, hx, hadd, -, hg, hRR, hI, c0, c1, c2, c3, c4⟩ := (H.out.upd (hR.upd.setCell ⟨mg, pc, none⟩ (.bool true) (fun h => absurd (hR.met.lt mg rfl).1 (by simp at h; omega))) (fun _ _ => not_nob)).at1 hpc
    have hmy := HM.out pc x hx
    obtain ⟨op, xx, yy, arg, rs⟩ := x
    simp only at c0 c1 c2 c3 hRR hI
    have hne : b ≠ mg := by
      have h2 := own_ne hR.met hR.box (by decide)
      simp [Value.ownBlock] at h2
      omega
    obtain ⟨curm, hcm, -⟩ := own_cells hR.met rfl
    have hrm : (Value.slice (some ⟨rg, 0, none⟩) row.length cr).ownBlock ≠ some mg := own_ne hR.row hcm (by decide)
    have fz : wr.frozen? ⟨mg, pc, none⟩ = false := hR.met.frozenAt pc
    have b0 : (wr.setCell ⟨mg, pc, none⟩ (.bool true)).cell? ⟨b, 0, none⟩ = some (.slice (some ad) is.length c) := (hR.box.far _ _ hne).cellv rfl
    have CX : Cells ((wr.setCell ⟨mg, pc, none⟩ (.bool true)).alloc (.cells #[.int .i64 op, .int .i64 xx, .int .i64 yy, .int .i64 arg, .slice B m c'] 60)) wr.heap.size 60 #[.int .i64 op, .int .i64 xx, .int .i64 yy, .int .i64 arg, .slice B m c'] := by
      have := Cells.new (wr.setCell ⟨mg, pc, none⟩ (.bool true)) 60 #[.int .i64 op, .int .i64 xx, .int .i64 yy, .int .i64 arg, .slice B m c']
      simpa using this
    have P2 : PreR w ((wr.setCell ⟨mg, pc, none⟩ (.bool true)).alloc (.cells #[.int .i64 op, .int .i64 xx, .int .i64 yy, .int .i64 arg, .slice B m c'] 60)) b mg (some ad) (some ⟨rg, 0, none⟩) c cr is.length st caps (bs.set pc true) row := by
      refine ⟨(hR.box.far _ _ hne).alloc _, ?_, (own_far hR.row _ _ hrm).alloc _, (hR.upd.setCell _ _ (fun h => absurd (hR.met.lt mg rfl).1 (by simp at h; omega))).alloc _⟩
      have h3 := ((hR.met.stored pc (.bool true)).1.alloc (.cells #[.int .i64 op, .int .i64 xx, .int .i64 yy, .int .i64 arg, .slice B m c'] 60))
      have e3 : (boolv bs).set pc (.bool true) = boolv (bs.set pc true) := by simp [boolv, List.map_set]
      rwa [e3] at h3
    have hRR2 := hRR.upd (((Upd.refl Nob _).alloc (.cells #[.int .i64 op, .int .i64 xx, .int .i64 yy, .int .i64 arg, .slice B m c'] 60))) (fun _ _ => not_nob)
    have HX := hideP hx
    have HMY := hideP hmy
    have HBM := hideP hm
    have HPF := hideP hpf
    have HI := hideP hI
    clear hx hmy hm hpf hI hRR hR hcm
    go_upto_region 9 with fail
    generalize (wr.setCell ⟨mg, pc, none⟩ (.bool true)).alloc (.cells #[.int .i64 op, .int .i64 xx, .int .i64 yy, .int .i64 arg, .slice B m c'] 60) = w6 at *
    generalize wr.heap.size = xb at *
    have l0 : w6.cell? ⟨xb, 0, none⟩ = some (.int .i64 op) := CX.cellv rfl
    have l1 : w6.cell? ⟨xb, 0 + 1, none⟩ = some (.int .i64 xx) := CX.cellv rfl
    have l4 : w6.cell? ⟨xb, 0 + 4, none⟩ = some (.slice B m c') := CX.cellv rfl
    have HP2 := hideP P2
    have HCX := hideP CX
    have HRR := hideP hRR2
    clear P2 CX hRR2 b0 fz cm c0 c1 c2 c3 c4 hadd hg
    by_cases o5 : op = 5
    · subst o5
      have HF := hideP (HPF.out.trans (prefix_match HBM.out HX.out rfl))
      go_wp2_with fail
      go_ret2
      unfold PrefixPost
      rw [HF.out]
      exact ⟨some ⟨rg, 0, none⟩, rfl, .of_own HP2.out.row, HP2.out.upd⟩
    by_cases o7 : op = 7
    · subst o7
      have hgo := may_goes HMY.out (.inr (.inr rfl))
      obtain ⟨pc', rfl⟩ : ∃ j : Nat, xx = (j : Int) := Int.eq_ofNat_of_zero_le hgo.1
      have hgo2 : pc' < is.length := by have h2 := hgo.2; simp only at h2; omega
      have HF := hideP (HPF.out.trans (prefix_goes HBM.out HX.out (.inl rfl)))
      have hcnt := count_met HBM.out
      have HN := hideP hcnt
      clear hcnt hgo
      go_wp2_with fail
      go_quiet (fail)
      go_wp2_with fail
      have hcnt := HN.out
      go_roundg ((bs.set pc true).count false)
      case measure => omega
      case rel =>
        refine ⟨bs.set pc true, pc', rg, cr, row, rfl, by simp [hbl], rfl, rfl, hgo2, by omega, hcr, ?_, HP2.out.drewN _⟩
        have e : gk = (bs.set pc true).count false + 1 := by omega
        have h2 := HF.out
        rw [e] at h2
        exact h2
    by_cases o3 : op = 3
    · subst o3
      have hgo := may_goes HMY.out (.inr (.inl rfl))
      obtain ⟨pc', rfl⟩ : ∃ j : Nat, xx = (j : Int) := Int.eq_ofNat_of_zero_le hgo.1
      have hgo2 : pc' < is.length := by have h2 := hgo.2; simp only at h2; omega
      have HF := hideP (HPF.out.trans (prefix_goes HBM.out HX.out (.inr rfl)))
      have hcnt := count_met HBM.out
      have HN := hideP hcnt
      clear hcnt hgo
      go_wp2_with fail
      go_quiet (fail)
      go_wp2_with fail
      have hcnt := HN.out
      go_roundg ((bs.set pc true).count false)
      case measure => omega
      case rel =>
        refine ⟨bs.set pc true, pc', rg, cr, row, rfl, by simp [hbl], rfl, rfl, hgo2, by omega, hcr, ?_, HP2.out.drewN _⟩
        have e : gk = (bs.set pc true).count false + 1 := by omega
        have h2 := HF.out
        rw [e] at h2
        exact h2
    by_cases o1 : op = 1
    · subst o1
      obtain rfl : rs.length = m := HRR.out.len
      by_cases hl : rs.length = 1
      rotate_left
      · have HF := hideP (HPF.out.trans (prefix_wide HBM.out HX.out rfl hl))
        have hlb : ((rs.length : Int) == 1) = false := beq_eq_false_iff_ne.2 (by omega)
        go_wp2_with fail
        go_quiet (fail)
        go_wp2_with fail
        go_ret2
        unfold PrefixPost
        rw [HF.out]
        exact ⟨some ⟨rg, 0, none⟩, rfl, .of_own (HP2.out.drewN _).row, (HP2.out.drewN _).upd⟩
      obtain ⟨⟨lo, hi⟩, rfl⟩ := List.length_eq_one_iff.1 hl
      obtain ⟨ad2, x2, g2, o2, rfl, hx2, -, -, hadd2, d0, d1, -⟩ := HRR.out.at1 (k := 0) (by omega)
      obtain rfl : (lo, hi) = x2 := by injection hx2
      rw [Nat.zero_mul, add_zero_] at hadd2
      subst hadd2
      simp only at d0 d1
      by_cases he : lo = hi
      rotate_left
      · have HF := hideP (HPF.out.trans (prefix_two HBM.out HX.out rfl rfl he))
        have heb : (lo == hi) = false := by simpa using he
        go_wp2_with fail
        go_quiet (fail)
        go_wp2_with fail
        go_ret2
        unfold PrefixPost
        rw [HF.out]
        exact ⟨some ⟨rg, 0, none⟩, rfl, .of_own (HP2.out.drewN _).row, (HP2.out.drewN _).upd⟩
      subst he
      have hgo := may_goes HMY.out (.inl rfl)
      obtain ⟨pc', rfl⟩ : ∃ j : Nat, xx = (j : Int) := Int.eq_ofNat_of_zero_le hgo.1
      have hgo2 : pc' < is.length := by have h2 := hgo.2; simp only at h2; omega
      have HF := hideP (HPF.out.trans (prefix_rune HBM.out HX.out rfl rfl rfl))
      have hcnt := count_met HBM.out
      have HN := hideP hcnt
      have hbase := HP2.out.upd.size
      clear hcnt hgo
      go_wp2_with fail
      go_quiet (fail)
      go_wp2_with (at_builtin; refine wpList_append_own_at _ rfl _ _ 29 rfl w.heap.size 3 i0 (.int .i64 0) 1 8 Try.underlying29 hi0 hz0 hz1 hz2 rfl (by decide) _ _ _ rfl ((HP2.out.drewN _).row.alloc _) ⟨w6.heap.size, 0, none⟩ 1 1 [.int .i64 lo] rfl rfl ?c1 ?c2 ?c3 ?c4 ?c5 ?_)
      case c1 => exact World.news_of_block (cs := #[.int .i64 lo]) (t := 3) (fr := (0, 0)) (heap_alloc_new (w6.drewN _) _)
      case c2 => intro u hu; simp at hu; subst hu; rfl
      case c3 => unfold maxLen; omega
      case c4 => omega
      case c5 => simp; omega
      intro v' w7 hown' hg7 _ hat
      obtain ⟨rg', cr', rfl, -, -⟩ := hown'.form (by omega)
      have hUa : Upd (fun k => k = rg) w6 w7 := (((Upd.refl (fun k => k = rg) w6).drewN _).alloc (.cells #[.int .i64 lo] 3)).grown hg7 (fun k hk _ => by injection hk with hk; exact hk.symm)
      obtain ⟨curm, hcm, -⟩ := own_cells HP2.out.met rfl
      have hnm : mg ≠ rg := fun e => own_ne HP2.out.row hcm (by decide) (by rw [e]; rfl)
      have hnb : b ≠ rg := fun e => own_ne HP2.out.row HP2.out.box (by decide) (by rw [e]; rfl)
      have hrgb := (HP2.out.row.lt rg rfl).1
      obtain ⟨curr, hcr', -⟩ := own_cells HP2.out.row rfl
      have hnx : xb ≠ rg := fun e => by
        subst e
        exact Cells.ne_ HCX.out hcr' (by decide) rfl
      have l1 : w7.cell? ⟨xb, 0 + 1, none⟩ = some (.int .i64 (pc' : Int)) := (HCX.out.upd hUa hnx).cellv rfl
      have P7 : PreR w w7 b mg (some ad) (some ⟨rg', 0, none⟩) c cr' is.length st caps (bs.set pc true) (row ++ [lo]) := by
        refine ⟨HP2.out.box.upd hUa hnb, own_upd HP2.out.met hUa (fun k hk => by simp [Value.ownBlock] at hk; subst hk; exact hnm), ?_, HP2.out.upd.trans hUa (fun k hk h => absurd hrgb (by omega))⟩
        rw [intv_append, List.length_append]
        have h3 := hown'
        rw [← hbw] at h3
        exact h3
      have hcr2 : row.length + 1 ≤ cr' := by
        rcases hown'.2 with ⟨_, h0⟩ | ⟨_, _, _, hv2, _, _, hnc, _⟩
        · omega
        · injection hv2 with _ _ h3
          rw [h3]
          exact hnc
      have HP7 := hideP P7
      have hle : (row ++ [lo]).length = row.length + 1 := by simp
      clear P7 hUa hcm hcr' hown' hg7 hat l0 l4 d0 d1
      go_wp2_with fail
      have hcnt := HN.out
      go_roundg ((bs.set pc true).count false)
      case measure => omega
      case rel =>
        refine ⟨bs.set pc true, pc', rg', cr', row ++ [lo], rfl, by simp [hbl], by rw [hle], rfl, hgo2, by omega, by omega, ?_, HP7.out⟩
        have e : gk = (bs.set pc true).count false + 1 := by omega
        have h2 := HF.out
        rw [e] at h2
        exact h2
    have o5b : (op == 5) = false := by simpa using o5
    have o1b : (op == 1) = false := by simpa using o1
    have o7b : (op != 7) = true := by simpa using o7
    have o3b : (op != 3) = true := by simpa using o3
    have HF := hideP (HPF.out.trans (prefix_other HBM.out HX.out o5 o1 o7 o3))
    go_wp2_with fail
    go_quiet (fail)
    go_wp2_with fail
    go_ret2
    unfold PrefixPost
    rw [HF.out]
    exact ⟨some ⟨rg, 0, none⟩, rfl, .of_own (HP2.out.drewN _).row, (HP2.out.drewN _).upd⟩
end Go.Proofs.Ytebbnjbgmcdbcaa
