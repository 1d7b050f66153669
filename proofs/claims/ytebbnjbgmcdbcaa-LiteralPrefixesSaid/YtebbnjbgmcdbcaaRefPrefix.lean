/-
  The walk of heronref15.Prefix: the document's row of a program.
-/
import Derived.Test.YtebbnjbgmcdbcaaPrefix
import Derived.Test.YtebbnjbgmcdbcaaRefCheck
namespace Go.Proofs.Ytebbnjbgmcdbcaa
open Go.RowKit
set_option linter.unusedVariables false

def RefPrefixPost (w : World) (r : List Int × Bool) (e : Ending) (w' : World) : Prop :=
  ∃ A c, e = .returned (.tuple #[.slice A r.1.length c, .bool r.2]) ∧ RowAt w' w.heap.size A r.1 ∧ Upd Nob w w'

set_option maxRecDepth 100000 in
set_option maxHeartbeats 4000000 in
theorem ref_prefix (w : World) (S : Nat → Prop) (A : Option Addr) (n c : Nat) (is : List PInst) (start caps : Int) (h : InstsR w S A n is) (hs : In64 start) (hc : In64 caps) (hn : n ≤ 140737488355328) :
    Calls Try.prog 12 #[.agg #[.slice A n c, .int .i64 start, .int .i64 caps]] w (RefPrefixPost w (prefixOf is start caps)) := by
  obtain rfl : is.length = n := h.len
  have C0 : Cells (w.alloc (.cells #[.slice A is.length c, .int .i64 start, .int .i64 caps] 27)) w.heap.size 27 #[.slice A is.length c, .int .i64 start, .int .i64 caps] := Cells.new _ _ _
  have hU := (Upd.refl Nob w).alloc (.cells #[.slice A is.length c, .int .i64 start, .int .i64 caps] 27)
  have H := hideP h
  clear h
  go_enter Try.func12, Try.ntmps12
  go_upto_region 1 with fail
  generalize w.alloc (.cells #[.slice A is.length c, .int .i64 start, .int .i64 caps] 27) = w2 at *
  have bs := C0.lt
  have hbb : w.heap.size = w.heap.size := rfl
  generalize hbw : w.heap.size = b at C0 bs
  have HC := hideP C0
  have HU := hideP hU
  have e0 : w2.cell? ⟨b, 0, none⟩ = some (.slice A is.length c) := C0.cellv rfl
  have e1 : w2.cell? ⟨b, 0 + 1, none⟩ = some (.int .i64 start) := C0.cellv rfl
  have e2 : w2.cell? ⟨b, 0 + 2, none⟩ = some (.int .i64 caps) := C0.cellv rfl
  clear C0 hU
  rcases hv : checkB is start caps with _ | _
  · have hp : prefixOf is start caps = ([], false) := by unfold prefixOf; rw [hv]; rfl
    have HP := hideP hp
    clear hp
    go_wp2_with (go_at_call 24; refine (ref_check _ S A is.length c is start caps (H.out.upd HU.out (fun _ _ => not_nob)) hs hc hn).mono ?_; rintro e w3 ⟨he, hU3⟩; rw [hv] at he; subst he)
    go_ret2
    unfold RefPrefixPost
    rw [HP.out]
    exact ⟨none, 0, rfl, .inl ⟨rfl, rfl⟩, HU.out.trans hU3 (fun _ _ h => h)⟩
  obtain ⟨⟨n1, n2, s0, s1⟩, hmay⟩ := checkB_yes hv
  obtain ⟨st, rfl⟩ := Int.eq_ofNat_of_zero_le s0
  have hp : prefixOf is (st : Int) caps = prefixFrom is (is.length + 1) (List.replicate is.length false) st [] := by unfold prefixOf; rw [hv]; rfl
  have HP := hideP hp
  have HM := hideP hmay
  clear hp hmay
  obtain ⟨i0, hi0, hz0, hz1, hz2⟩ := info_parts info_int
  obtain ⟨j0, hj0, hy0, hy1, hy2⟩ := info_parts info_bool
  have hzb : (madeCells (Value.bool false).cells (is.length * 1)).toList = boolv (List.replicate is.length false) := by
    have : (Value.bool false).cells = #[Value.bool false] := rfl
    rw [this, toList_madeCells_one, Nat.mul_one]
    simp [boolv]
  have HZ := hideP hzb
  clear hzb
  have hle2 := HU.out.size
  go_wp2_with (first
    | (go_at_call 24; refine (ref_check _ S A is.length c is st caps (H.out.upd HU.out (fun _ _ => not_nob)) hs hc hn).mono ?_; rintro e w3 ⟨he, hU3⟩; rw [hv] at he; subst he; have C3 := HC.out.upd hU3 not_nob; have e0 := C3.cellv (i := 0) rfl; have e1 := C3.cellv (i := 0 + 1) rfl; have hle3 := hU3.size)
    | (at_make; refine wpList_make_full w3 rfl (.tmp 15) (.tmp 15) 63 rfl w.heap.size 4 j0 (.bool false) 1 Try.underlying63 hj0 hy0 hy1 .i64 .i64 (is.length : Int) (is.length : Int) is.length rfl rfl rfl rfl (by rw [hy2]; omega) (by unfold maxLen; omega) (by omega) ?_; intro w4 o4 hg4; rw [HZ.out] at o4; have C4 := C3.grown hg4 (by simp); have e0 := C4.cellv (i := 0) rfl; have e1 := C4.cellv (i := 0 + 1) rfl; have hle4 := hg4.size)
    | fail)
  have P5 : PreR w w4 b w3.heap.size A none c 0 is.length st caps (List.replicate is.length false) [] := ⟨C4, o4, World.ownsRow_nil _ _ _ _, (HU.out.trans hU3 (fun _ _ h => h)).grown hg4 (by simp)⟩
  generalize w3.heap.size = mg at *
  clear o4 hg4 C3 C4 hU3 hle2
  go_loopg [5, 7] is.length (fun gk v5 v7 wr => ∃ (bs : List Bool) (pc : Nat) (Ar : Option Addr) (cr : Nat) (row : List Int), bs.count false = gk ∧ bs.length = is.length ∧ v5 = .slice Ar row.length cr ∧ v7 = .int .i64 (pc : Int) ∧ pc < is.length ∧ row.length + gk ≤ is.length ∧
      prefixOf is (st : Int) caps = prefixFrom is (gk + 1) bs pc row ∧ PreR w wr b mg A Ar c cr is.length st caps bs row)
  case atStart => exact ⟨_, st, none, 0, [], by simp, by simp, rfl, rfl, by omega, by simp, HP.out, P5⟩
  case round =>
    obtain ⟨bs, pc, Ar, cr, row, hgk, hbl, rfl, rfl, hpc, hrow, hpf, hR⟩ := hrel
    obtain ⟨m, hm⟩ : ∃ m, bs[pc]? = some m := ⟨_, List.getElem?_eq_getElem (by omega)⟩
    have cm : wr.cell? ⟨mg, pc, none⟩ = some (.bool m) := by
      rw [hR.met.cellAt pc (by omega)]
      exact boolv_at hm
    rcases m with _ | _
    rotate_left
    · have HF := hideP (hpf.trans (prefix_met hm))
      have HR := hideP hR
      clear hpf hR hm
      go_wp2_with fail
      go_ret2
      unfold RefPrefixPost
      rw [HF.out]
      exact ⟨Ar, cr, rfl, .of_own HR.out.row, HR.out.upd⟩
    obtain ⟨ad, g, o, x, B, m, c', rfl, hx, hadd, -, hg, hRR, hI, c0, c1, c2, c3, c4⟩ := (H.out.upd (hR.upd.setCell ⟨mg, pc, none⟩ (.bool true) (fun h => absurd (hR.met.lt mg rfl).1 (by simp at h; omega))) (fun _ _ => not_nob)).at1 hpc
    have hmy := HM.out pc x hx
    obtain ⟨op, xx, yy, arg, rs⟩ := x
    simp only at c0 c1 c2 c3 hRR hI
    have hne : b ≠ mg := by
      have h2 := own_ne hR.met hR.box (by decide)
      simp [Value.ownBlock] at h2
      omega
    obtain ⟨curm, hcm, -⟩ := own_cells hR.met rfl
    have hrm : (Value.slice Ar row.length cr).ownBlock ≠ some mg := own_ne hR.row hcm (by decide)
    have fz : wr.frozen? ⟨mg, pc, none⟩ = false := hR.met.frozenAt pc
    have b0 : (wr.setCell ⟨mg, pc, none⟩ (.bool true)).cell? ⟨b, 0, none⟩ = some (.slice (some ad) is.length c) := (hR.box.far _ _ hne).cellv rfl
    have CX : Cells ((wr.setCell ⟨mg, pc, none⟩ (.bool true)).alloc (.cells #[.int .i64 op, .int .i64 xx, .int .i64 yy, .int .i64 arg, .slice B m c'] 60)) wr.heap.size 60 #[.int .i64 op, .int .i64 xx, .int .i64 yy, .int .i64 arg, .slice B m c'] := by
      have := Cells.new (wr.setCell ⟨mg, pc, none⟩ (.bool true)) 60 #[.int .i64 op, .int .i64 xx, .int .i64 yy, .int .i64 arg, .slice B m c']
      simpa using this
    have P2 : PreR w ((wr.setCell ⟨mg, pc, none⟩ (.bool true)).alloc (.cells #[.int .i64 op, .int .i64 xx, .int .i64 yy, .int .i64 arg, .slice B m c'] 60)) b mg (some ad) Ar c cr is.length st caps (bs.set pc true) row := by
      refine ⟨(hR.box.far _ _ hne).alloc _, ?_, (own_far hR.row _ _ hrm).alloc _, (hR.upd.setCell _ _ (fun h => absurd (hR.met.lt mg rfl).1 (by simp at h; omega))).alloc _⟩
      have h3 := ((hR.met.stored pc (.bool true)).1.alloc (.cells #[.int .i64 op, .int .i64 xx, .int .i64 yy, .int .i64 arg, .slice B m c'] 60))
      have e3 : (boolv bs).set pc (.bool true) = boolv (bs.set pc true) := by simp [boolv, List.map_set]
      rwa [e3] at h3
    have hRR2 := hRR.upd (((Upd.refl Nob _).alloc (.cells #[.int .i64 op, .int .i64 xx, .int .i64 yy, .int .i64 arg, .slice B m c'] 60))) (fun _ _ => not_nob)
    have HX := hideP hx
    have HMY := hideP hmy
    have HBM := hideP hm
    have HPF := hideP hpf
    have HI := hideP hI
    clear hx hmy hm hpf hI hRR hR hcm
    go_upto_region 11 with fail
    generalize (wr.setCell ⟨mg, pc, none⟩ (.bool true)).alloc (.cells #[.int .i64 op, .int .i64 xx, .int .i64 yy, .int .i64 arg, .slice B m c'] 60) = w6 at *
    generalize wr.heap.size = xb at *
    have l0 : w6.cell? ⟨xb, 0, none⟩ = some (.int .i64 op) := CX.cellv rfl
    have l1 : w6.cell? ⟨xb, 0 + 1, none⟩ = some (.int .i64 xx) := CX.cellv rfl
    have l4 : w6.cell? ⟨xb, 0 + 4, none⟩ = some (.slice B m c') := CX.cellv rfl
    have HP2 := hideP P2
    have HCX := hideP CX
    have HRR := hideP hRR2
    clear P2 CX hRR2 b0 fz cm c0 c1 c2 c3 c4 hadd hg
    by_cases o5 : op = 5
    · subst o5
      have HF := hideP (HPF.out.trans (prefix_match HBM.out HX.out rfl))
      go_wp2_with fail
      go_ret2
      unfold RefPrefixPost
      rw [HF.out]
      exact ⟨Ar, cr, rfl, .of_own HP2.out.row, HP2.out.upd⟩
    by_cases o7 : op = 7
    · subst o7
      have hgo := may_goes HMY.out (.inr (.inr rfl))
      obtain ⟨pc', rfl⟩ : ∃ j : Nat, xx = (j : Int) := Int.eq_ofNat_of_zero_le hgo.1
      have hgo2 : pc' < is.length := by have h2 := hgo.2; simp only at h2; omega
      have HF := hideP (HPF.out.trans (prefix_goes HBM.out HX.out (.inl rfl)))
      have hcnt := count_met HBM.out
      have HN := hideP hcnt
      clear hcnt hgo
      go_wp2_with fail
      have hcnt := HN.out
      go_roundg ((bs.set pc true).count false)
      case measure => omega
      case rel =>
        refine ⟨bs.set pc true, pc', Ar, cr, row, rfl, by simp [hbl], rfl, rfl, hgo2, by omega, ?_, HP2.out⟩
        have e : gk = (bs.set pc true).count false + 1 := by omega
        have h2 := HF.out
        rw [e] at h2
        exact h2
    by_cases o3 : op = 3
    · subst o3
      have hgo := may_goes HMY.out (.inr (.inl rfl))
      obtain ⟨pc', rfl⟩ : ∃ j : Nat, xx = (j : Int) := Int.eq_ofNat_of_zero_le hgo.1
      have hgo2 : pc' < is.length := by have h2 := hgo.2; simp only at h2; omega
      have HF := hideP (HPF.out.trans (prefix_goes HBM.out HX.out (.inr rfl)))
      have hcnt := count_met HBM.out
      have HN := hideP hcnt
      clear hcnt hgo
      go_wp2_with fail
      have hcnt := HN.out
      go_roundg ((bs.set pc true).count false)
      case measure => omega
      case rel =>
        refine ⟨bs.set pc true, pc', Ar, cr, row, rfl, by simp [hbl], rfl, rfl, hgo2, by omega, ?_, HP2.out⟩
        have e : gk = (bs.set pc true).count false + 1 := by omega
        have h2 := HF.out
        rw [e] at h2
        exact h2
    by_cases o1 : op = 1
    · subst o1
      obtain rfl : rs.length = m := HRR.out.len
      by_cases hl : rs.length = 1
      rotate_left
      · have HF := hideP (HPF.out.trans (prefix_wide HBM.out HX.out rfl hl))
        have hlb : ((rs.length : Int) == 1) = false := beq_eq_false_iff_ne.2 (by omega)
        go_wp2_with fail
        go_quiet (fail)
        go_wp2_with fail
        go_ret2
        unfold RefPrefixPost
        rw [HF.out]
        exact ⟨Ar, cr, rfl, .of_own (HP2.out.drewN _).row, (HP2.out.drewN _).upd⟩
      obtain ⟨⟨lo, hi⟩, rfl⟩ := List.length_eq_one_iff.1 hl
      obtain ⟨ad2, x2, g2, o2, rfl, hx2, -, -, hadd2, d0, d1, -⟩ := HRR.out.at1 (k := 0) (by omega)
      obtain rfl : (lo, hi) = x2 := by injection hx2
      rw [Nat.zero_mul, add_zero_] at hadd2
      subst hadd2
      simp only at d0 d1
      by_cases he : lo = hi
      rotate_left
      · have HF := hideP (HPF.out.trans (prefix_two HBM.out HX.out rfl rfl he))
        have heb : (lo == hi) = false := by simpa using he
        go_wp2_with fail
        go_quiet (fail)
        go_wp2_with fail
        go_ret2
        unfold RefPrefixPost
        rw [HF.out]
        exact ⟨Ar, cr, rfl, .of_own (HP2.out.drewN _).row, (HP2.out.drewN _).upd⟩
      subst he
      have hgo := may_goes HMY.out (.inl rfl)
      obtain ⟨pc', rfl⟩ : ∃ j : Nat, xx = (j : Int) := Int.eq_ofNat_of_zero_le hgo.1
      have hgo2 : pc' < is.length := by have h2 := hgo.2; simp only at h2; omega
      have HF := hideP (HPF.out.trans (prefix_rune HBM.out HX.out rfl rfl rfl))
      have hcnt := count_met HBM.out
      have HN := hideP hcnt
      have hbase := HP2.out.upd.size
      clear hcnt hgo
      go_wp2_with fail
      go_quiet (fail)
      go_wp2_with (at_builtin; refine wpList_append_own_at _ rfl _ _ 29 rfl w.heap.size 3 i0 (.int .i64 0) 1 8 Try.underlying29 hi0 hz0 hz1 hz2 rfl (by decide) _ _ _ rfl ((HP2.out.drewN _).row.alloc _) ⟨w6.heap.size, 0, none⟩ 1 1 [.int .i64 lo] rfl rfl ?c1 ?c2 ?c3 ?c4 ?c5 ?_)
      case c1 => exact World.news_of_block (cs := #[.int .i64 lo]) (t := 3) (fr := (0, 0)) (heap_alloc_new (w6.drewN _) _)
      case c2 => intro u hu; simp at hu; subst hu; rfl
      case c3 => unfold maxLen; omega
      case c4 => omega
      case c5 => simp; omega
      intro v' w7 hown' hg7 _ hat
      obtain ⟨rg', cr', rfl, -, -⟩ := hown'.form (by omega)
      have hUa : Upd (fun k => (Value.slice Ar row.length cr).ownBlock = some k) w6 w7 := (((Upd.refl (fun k => (Value.slice Ar row.length cr).ownBlock = some k) w6).drewN _).alloc (.cells #[.int .i64 lo] 3)).grown hg7 (fun k hk _ => hk)
      obtain ⟨curm, hcm, -⟩ := own_cells HP2.out.met rfl
      have hnm := own_ne HP2.out.row hcm (by decide)
      have hnb := own_ne HP2.out.row HP2.out.box (by decide)
      have hnx := own_ne HP2.out.row HCX.out (by decide)
      have l1 : w7.cell? ⟨xb, 0 + 1, none⟩ = some (.int .i64 (pc' : Int)) := (HCX.out.upd hUa hnx).cellv rfl
      have P7 : PreR w w7 b mg (some ad) (some ⟨rg', 0, none⟩) c cr' is.length st caps (bs.set pc true) (row ++ [lo]) := by
        refine ⟨HP2.out.box.upd hUa hnb, own_upd HP2.out.met hUa (fun k hk => by simp [Value.ownBlock] at hk; subst hk; exact hnm), ?_, HP2.out.upd.trans hUa (fun k hk h => absurd (HP2.out.row.lt k h).1 (by omega))⟩
        rw [intv_append, List.length_append]
        have h3 := hown'
        rw [← hbw] at h3
        exact h3
      have HP7 := hideP P7
      have hle : (row ++ [lo]).length = row.length + 1 := by simp
      clear P7 hUa hcm hown' hg7 hat l0 l4 d0 d1
      go_wp2_with fail
      have hcnt := HN.out
      go_roundg ((bs.set pc true).count false)
      case measure => omega
      case rel =>
        refine ⟨bs.set pc true, pc', _, cr', row ++ [lo], rfl, by simp [hbl], by rw [hle], rfl, hgo2, by omega, ?_, HP7.out⟩
        have e : gk = (bs.set pc true).count false + 1 := by omega
        have h2 := HF.out
        rw [e] at h2
        exact h2
    have o5b : (op == 5) = false := by simpa using o5
    have o1b : (op == 1) = false := by simpa using o1
    have o7b : (op == 7) = false := by simpa using o7
    have o3b : (op == 3) = false := by simpa using o3
    have HF := hideP (HPF.out.trans (prefix_other HBM.out HX.out o5 o1 o7 o3))
    go_wp2_with fail
    go_quiet (fail)
    go_wp2_with fail
    go_ret2
    unfold RefPrefixPost
    rw [HF.out]
    exact ⟨Ar, cr, rfl, .of_own (HP2.out.drewN _).row, (HP2.out.drewN _).upd⟩
end Go.Proofs.Ytebbnjbgmcdbcaa
