/-
  The walk of pike's step.
-/
import Derived.Test.YtnkefclbchpafaaPkVisit
import Derived.Test.YtnkefclbchpafaaPkI
import Derived.Deep.RegionHeld3
namespace Go.Proofs.Ytnkefclbchpafaa
open Go.RowKit
set_option linter.unusedVariables false

/-- what step leaves: the place is over -/
def StepPost (w : World) (e0 b sb sg : Nat) (O : Option Nat) (A : Option Addr) (c : Nat) (is : List PInst) (st : Int) (m : Nat) (T : Option Addr) (tc : Nat) (text : List Int) (j : Nat) (s9 : VSt) (e : Ending) (w' : World) : Prop :=
  ∃ O' NO' N nc xs FA fn fc wh, e = .returned (.slice N s9.next.length nc) ∧ PkR w' w.heap.size e0 b sb sg O' NO' A c is st m T tc text j s9 ∧ PkUpd b sb sg O O' none NO' w w' ∧
    Cells w' b 73 (pikeCells A is.length c st m T text.length tc j (part text j 6) sb N s9.next.length nc s9.found.isSome FA fn fc wh s9.steps) ∧
    w'.ownsRow w.heap.size 108 2 (.slice N s9.next.length nc) s9.next.length xs ∧ ThQ w' sg O' is.length m s9.next xs ∧ FoundQ w' sg O' m s9.found FA fn wh

set_option maxRecDepth 100000 in
set_option maxHeartbeats 8000000 in
theorem pkstep_any (w : World) (e0 b sb sg : Nat) (O : Option Nat) (A : Option Addr) (c : Nat) (is : List PInst) (st : Nat) (m : Nat) (T : Option Addr) (tc : Nat) (text : List Int) (j : Nat) (fo : Option (List Int × Int)) (steps : Nat) (N : Option Addr) (nc : Nat) (ths : List (Nat × List Int)) (bg : Bool)
    (h : PkI w e0 b sb sg O A c is st m T tc text j fo steps N ths) (hj : j ≤ text.length) (hn : is.length ≤ 20000) (hst : st < is.length) (hm1 : 1 ≤ m) (hm2 : m ≤ 1002) (hstp : steps + is.length ≤ 1099511627776) (hthl : ths.length ≤ 20000)
    (hmay : ∀ (i : Nat) (x : PInst), is[i]? = some x → mayB x is.length m = true) :
    Calls Try.prog 31 #[.pointer (some ⟨b, 0, none⟩), .slice N ths.length nc, .bool bg, .func (.func 32) #[.pointer (some ⟨b, 0, none⟩)] #[]] w
      (StepPost w e0 b sb sg O A c is st m T tc text j (visitAll is text j (ths ++ if bg then [(st, List.replicate m (-1))] else []) (fresh is.length fo steps))) := by
  obtain ⟨SA, sc, ats, L, hSt, hO⟩ := h.set_
  obtain ⟨bits, nv, FA, fn, fc, wh, hC, -⟩ := h.run
  obtain ⟨xs, hxs, hth⟩ := h.now
  obtain ⟨i0, hi0, hz0, hz1, hz2⟩ := info_parts vinfo_int
  have l6 : w.cell? ⟨b, 0 + 6, none⟩ = some (.pointer (some ⟨sb, 0, none⟩)) := hC.cellv rfl
  have hCb : ¬ (b = sb ∨ b = sg ∨ (Value.slice SA L.length sc).ownBlock = some b) := by
    rintro (e | e | e)
    · exact Cells.ne_ hC hSt.blk (by decide) e
    · have := own_ne hSt.at_ hC (by decide)
      simp [Value.ownBlock] at this
      omega
    · exact own_ne hSt.own hC (by decide) e
  have H := hideP h
  have HSt := hideP hSt
  have HC := hideP hC
  have HMAY := hideP hmay
  have HXS := hideP hxs
  have HTH := hideP hth
  clear h hSt hC hmay hxs hth
  generalize hs9 : visitAll is text j (ths ++ if bg then [(st, List.replicate m (-1))] else []) (fresh is.length fo steps) = s9
  have HS9 := hideP hs9
  clear hs9
  go_enter Try.func31, Try.ntmps31
  go_wp2_with fail
  refine (setClear_any w e0 sb sg is.length SA sc ats L HSt.out).mono ?_
  rintro e w1 ⟨rfl, hP⟩
  have hC1 := HC.out.upd hP.upd hCb
  have l7 : w1.cell? ⟨b, 0 + 7, none⟩ = some nv := hC1.cellv rfl
  have f7 : w1.frozen? ⟨b, 0 + 7, none⟩ = false := hC1.frozen 7
  have HC2 := hideP (hC1.set_ (0 + 7) (.slice none 0 0))
  have HP := hideP hP
  clear hP hC1
  go_upto_region 3 with fail
  have hw1 := HP.out.upd.size
  have hsl : ∀ (w' : World) (bt : Value), Cells w' b 73 #[.slice A is.length c, .int .i64 st, .int .i64 m, .slice T text.length tc, .int .i64 (j : Int), bt, .pointer (some ⟨sb, 0, none⟩), .slice none 0 0, .bool fo.isSome, .slice FA fn fc, .int .i64 wh, .int .i64 0, .int .i64 (steps : Int)] →
      (w'.cell? ⟨b, 0 + 3, none⟩ = some (.slice T text.length tc) ∧ w'.cell? ⟨b, 0 + 4, none⟩ = some (.int .i64 (j : Int))) := fun w' bt hC => ⟨hC.cellv rfl, hC.cellv rfl⟩
  have HSL := hideP hsl
  have hU2 : Upd (fun k => k = b) w1 (w1.setCell ⟨b, 0 + 7, none⟩ (.slice none 0 0)) := setCell_upd _ _ _ rfl
  have htx : TextR (w1.setCell ⟨b, 0 + 7, none⟩ (.slice none 0 0)) (· < e0) T text.length text := by
    refine (H.out.txt.upd HP.out.upd (fun k hk e => ?_)).upd hU2 (fun k hk e => by have := H.out.eb; omega)
    rcases e with e | e | e
    · have := HSt.out.low; omega
    · have := (HSt.out.at_.lt sg rfl).1; omega
    · have := (HSt.out.own.lt k e).1; omega
  have HTX := hideP htx
  clear htx hsl hU2 l7 f7
  generalize hw2 : w1.setCell ⟨b, 0 + 7, none⟩ (.slice none 0 0) = w2 at *
  have HW2 := hideP hw2
  clear hw2
  go_region_held3 (fun w' => w'.cell? ⟨b, 0 + 3, none⟩ = some (.slice T text.length tc) ∧ w'.cell? ⟨b, 0 + 4, none⟩ = some (.int .i64 (j : Int)))
    (first | exact HSL.out _ _ HC2.out | exact HSL.out _ _ HC4.out | exact HSL.out _ _ HC3.out)
    (first
    | (go_at_call 49; refine (at_in _ _ T text.length tc j text (HTX.out.upd ((Upd.refl Nob w2).drew) (fun _ _ => not_nob)) hj).mono ?_; rintro e w3 ⟨rfl, hU3⟩; have hU3' := ((Upd.refl Nob w2).drew).trans hU3 (fun _ _ h => h); have HC3 := hideP (HC2.out.upd hU3' not_nob); have HU3 := hideP hU3'; have f5 : w3.frozen? ⟨b, 0 + 5, none⟩ = false := HC3.out.frozen 5; have l5 : w3.cell? ⟨b, 0 + 5, none⟩ = some bits := HC3.out.cellv rfl; have HC4 := hideP (HC3.out.set_ (0 + 5) (.int .i64 (part text j 6))); clear hU3 hU3'))
  obtain ⟨O4, hPK4, hUP4⟩ := H.out.begin_ hn hstp hO HSt.out HP.out (by rw [HW2.out]; exact HU3.out)
  have HPK4 := hideP hPK4
  have HUP4 := hideP hUP4
  clear hPK4 hUP4 l5 f5 HC2 HC3 HC4 HSL HC l6 HU3 HW2 HTX hw1
  generalize w3.setCell ⟨b, 0 + 5, none⟩ (.int .i64 (part text j 6)) = w4 at *
  obtain ⟨sN, hsN⟩ : ∃ x : VSt, x = visitAll is text j ths (fresh is.length fo steps) := ⟨_, rfl⟩
  have HSN := hideP hsN
  clear hsN
  go_wp2_with fail
  go_loopg [11, 38] ths.length (fun gk v11 v38 wr => ∃ (i : Nat) (s : VSt) (O1 NO1 : Option Nat), i + gk = ths.length ∧ v38 = .int .i64 (i : Int) ∧ visitAll is text j (ths.drop i) s = sN ∧ s.over = false ∧
    PkR wr w.heap.size e0 b sb sg O1 NO1 A c is st m T tc text j s ∧ PkUpd b sb sg O O1 none NO1 w wr)
  case atStart => exact ⟨0, _, O4, none, by omega, rfl, HSN.out.symm, rfl, HPK4.out, HUP4.out⟩
  case round =>
    obtain ⟨i, s, O1, NO1, hi, rfl, hva, hov, hpk, hup⟩ := hrel
    have hthr : ∀ k, (∃ cs, Cells w k 108 cs) → ¬ Fp b sb sg O none k := fun k hk => by obtain ⟨cs, hk⟩ := hk; exact H.out.thr hk
    by_cases hil : i < ths.length
    · obtain ⟨⟨pc, caps⟩, hx⟩ : ∃ x, ths[i]? = some x := ⟨_, List.getElem?_eq_getElem hil⟩
      have hkp := H.out.keep hup
      obtain ⟨hpc, hcl, CA, cc, x0, x1, hcap⟩ := (HTH.out.keep hkp).2 i pc caps hx
      have hxsi := HXS.out.upd hup.upd hthr
      obtain ⟨ad, had, hadb, -, hat⟩ := hxsi.2 (by omega)
      obtain ⟨gN, hgN⟩ := H.out.lit (by omega)
      obtain rfl : ad = ⟨gN, 0, none⟩ := by rw [hgN] at had; injection had with had; exact had.symm
      have y0 : wr.cell? ⟨gN, i * 2, none⟩ = some (.int .i64 (pc : Int)) := by have := hat _ _ x0; rwa [add_lit_, Nat.zero_add] at this
      have y1 : wr.cell? ⟨gN, i * 2 + 1, none⟩ = some (.slice CA m cc) := by have := hat _ _ x1; rwa [add_lit_, Nat.zero_add] at this
      obtain ⟨ad, hadl⟩ : ∃ ad : Addr, ad = ⟨gN, 0, none⟩ := ⟨_, rfl⟩
      have hadd : ad.add (i * 2) = ⟨gN, i * 2, none⟩ := by rw [hadl, add_lit_, Nat.zero_add]
      rw [← hadl] at hgN
      clear hadl hat had
      subst hgN
      have g2 : (i : Int) < (ths.length : Int) := by omega
      have hU5 := (Upd.refl Nob wr).alloc (.cells #[.int .i64 (pc : Int), .slice CA m cc] 108)
      have CX := Cells.new wr 108 #[.int .i64 (pc : Int), .slice CA m cc]
      have z0 : (wr.alloc (.cells #[.int .i64 (pc : Int), .slice CA m cc] 108)).cell? ⟨wr.heap.size, 0, none⟩ = some (.int .i64 (pc : Int)) := CX.cellv rfl
      have z1 : (wr.alloc (.cells #[.int .i64 (pc : Int), .slice CA m cc] 108)).cell? ⟨wr.heap.size, 0 + 1, none⟩ = some (.slice CA m cc) := CX.cellv rfl
      have HPK5 := hideP (hpk.still hU5)
      have HUP5 := hideP (hup.trans (.still hU5))
      have HCAP5 := hideP (hcap.keep (CapKeep.still hU5))
      have HVA := hideP hva
      have HX := hideP hx
      have HOV := hideP hov
      clear hpk hup hcap hva hx hov hkp hxsi x0 x1 hU5 CX hthr
      go_wp2_with fail
      refine (pkvisit_any _ w.heap.size e0 b sb sg O1 NO1 A c is st m T tc text j s HPK5.out HOV.out pc CA cc caps hpc hcl HCAP5.out hj hn hm1 hm2 HMAY.out).mono ?_
      rintro e w6 ⟨rfl, O6, NO6, hPK6, hUP6⟩
      have hd : ths.drop i = (pc, caps) :: ths.drop (i + 1) := by
        obtain ⟨hl, hx⟩ := List.getElem?_eq_some_iff.1 HX.out
        rw [List.drop_eq_getElem_cons hl, hx]
      have hva2 : visitAll is text j (ths.drop (i + 1)) (visitAll is text j [(pc, caps)] s) = sN := by
        rw [← HVA.out, hd]
        rfl
      generalize visitAll is text j [(pc, caps)] s = s6 at *
      have HPK6 := hideP hPK6
      have HUP6 := hideP (HUP5.out.trans hUP6)
      have HVA2 := hideP hva2
      clear hPK6 hUP6 hva2 hd z0 z1 y0 y1 hadd
      rcases hov6 : s6.over with _ | _
      · go_wp2_with fail
        go_roundg (ths.length - (i + 1))
        case measure => omega
        case rel => exact ⟨i + 1, s6, O6, NO6, by omega, by go_num, HVA2.out, hov6, HPK6.out, HUP6.out⟩
      · have he : s6 = s9 := by
          rw [← HS9.out, all_append, ← HSN.out, ← HVA2.out, stack_over _ hov6, stack_over _ hov6]
        subst he
        obtain ⟨N9, nc9, xs9, FA9, fn9, fc9, wh9, hC9, hN9, hNO9, hT9, hF9⟩ := HPK6.out.rest
        have l7 : w6.cell? ⟨b, 0 + 7, none⟩ = some (.slice N9 s6.next.length nc9) := hC9.cellv rfl
        have HPOST := hideP (⟨O6, NO6, N9, nc9, xs9, FA9, fn9, fc9, wh9, rfl, HPK6.out, HUP6.out, hC9, hN9, hT9, hF9⟩ : StepPost w e0 b sb sg O A c is st m T tc text j s6 (.returned (.slice N9 s6.next.length nc9)) w6)
        clear hC9 hN9 hNO9 hT9 hF9
        go_wp2_with fail
        go_ret
        exact HPOST.out
    · have hil2 : i = ths.length := by omega
      subst hil2
      rw [List.drop_length] at hva
      have hva2 : s = sN := hva
      subst hva2
      have g2 : ¬ (ths.length : Int) < (ths.length : Int) := by omega
      rcases bg with _ | _
      · have he : s = s9 := by
          rw [← HS9.out, HSN.out]
          simp
        subst he
        obtain ⟨N9, nc9, xs9, FA9, fn9, fc9, wh9, hC9, hN9, hNO9, hT9, hF9⟩ := hpk.rest
        have l7 : wr.cell? ⟨b, 0 + 7, none⟩ = some (.slice N9 s.next.length nc9) := hC9.cellv rfl
        have HPOST := hideP (⟨O1, NO1, N9, nc9, xs9, FA9, fn9, fc9, wh9, rfl, hpk, hup, hC9, hN9, hT9, hF9⟩ : StepPost w e0 b sb sg O A c is st m T tc text j s (.returned (.slice N9 s.next.length nc9)) wr)
        clear hC9 hN9 hNO9 hT9 hF9 hpk hup hva hthr
        go_wp2_with fail
        go_ret
        exact HPOST.out
      · have hs9 : visitAll is text j [(st, List.replicate m (-1))] s = s9 := by
          rw [← HS9.out, all_append, ← HSN.out]
          rfl
        obtain ⟨N5, nc5, xs5, FA5, fn5, fc5, wh5, hC5, -⟩ := hpk.rest
        have l2 : wr.cell? ⟨b, 0 + 2, none⟩ = some (.int .i64 (m : Int)) := hC5.cellv rfl
        have hz : (madeCells (Value.int .i64 0).cells (m * 1)).toList = intv (List.replicate m 0) := by
          have : (Value.int .i64 0).cells = #[Value.int .i64 0] := rfl
          rw [this, toList_madeCells_one, Nat.mul_one]
          simp [intv]
        obtain ⟨SA5, sc5, ats5, L5, hS5, hO5, -⟩ := hpk.set_
        have hsg5 : sg < wr.heap.size := (hS5.at_.lt sg rfl).2
        have hO1 : ∀ k, O1 = some k → k < wr.heap.size := fun k hk => (hS5.own.lt k (hO5.trans hk)).2
        have HZ := hideP hz
        have HPK5 := hideP hpk
        have HUP5 := hideP hup
        have HC5 := hideP hC5
        have HS := hideP hs9
        have HOV := hideP hov
        obtain ⟨w5, hw5⟩ : ∃ x : World, x = wr := ⟨_, rfl⟩
        subst hw5
        clear hz hpk hup hC5 hs9 hov hva hthr hS5 hO5 HSN
        go_wp2_with (at_make; refine wpList_make_full w5 rfl (.tmp 56) (.tmp 56) 28 rfl w5.heap.size 3 i0 (.int .i64 0) 1 Try.underlying28 hi0 hz0 hz1 .i64 .i64 (m : Int) (m : Int) m rfl rfl rfl rfl (by rw [hz2]; omega) (by unfold maxLen; omega) (Nat.le_refl _) ?_; intro w6 o6 hg6; rw [HZ.out] at o6)
        have hU6 := (Upd.refl Nob w5).grown hg6 (by simp)
        have HO6 := hideP o6
        have HU6 := hideP hU6
        have hN1 : ∀ k, NO1 = some k → k < w5.heap.size := fun k hk => HPK5.out.nlt hk
        clear o6 hg6 hU6 l2
        generalize hgg : w5.heap.size = g at *
        have HGG := hideP hgg
        clear hgg
        go_loopg [13, 60] m (fun gk v13 v60 wq => ∃ k : Nat, k + gk = m ∧ v60 = .int .i64 (k : Int) ∧ wq.ownsRow g 3 1 (.slice (some ⟨g, 0, none⟩) m m) m (intv (List.replicate k (-1) ++ List.replicate (m - k) 0)) ∧ Upd Nob w5 wq)
        case atStart => exact ⟨0, by omega, rfl, by simpa using HO6.out, HU6.out⟩
        case round =>
          obtain ⟨k, hk, rfl, ho, hUk⟩ := hrel
          by_cases hkm : k < m
          · have fz : wr.frozen? ⟨g, k, none⟩ = false := ho.frozenAt k
            obtain ⟨u, cu⟩ : ∃ u, wr.cell? ⟨g, k, none⟩ = some u := by
              have h1 := ho.cellAt k (by omega)
              rw [List.getElem?_eq_getElem (by have := ho.1; omega)] at h1
              exact ⟨_, h1⟩
            have g1 : (k : Int) < (m : Int) := by omega
            have HO := hideP ho
            have HUk := hideP hUk
            clear ho hUk
            go_wp2_with fail
            go_roundg (m - (k + 1))
            case measure => omega
            case rel =>
              refine ⟨k + 1, by omega, by go_num, ?_, HUk.out.setCell _ _ (fun hlt => absurd hlt (by show ¬ g < w5.heap.size; rw [HGG.out]; exact Nat.lt_irrefl g))⟩
              have h3 := (HO.out.stored k (.int .i64 (-1))).1
              have e3 : (intv (List.replicate k (-1) ++ List.replicate (m - k) 0)).set k (.int .i64 (-1)) = intv (List.replicate (k + 1) (-1) ++ List.replicate (m - (k + 1)) 0) := by
                have e4 : m - k = (m - (k + 1)) + 1 := by omega
                rw [e4, List.replicate_succ, List.replicate_succ']
                simp [intv]
              rwa [e3] at h3
          have hke : k = m := by omega
          subst hke
          have g1 : ¬ (k : Int) < (k : Int) := by omega
          have ho2 : wr.ownsRow g 3 1 (.slice (some ⟨g, 0, none⟩) k k) k (intv (List.replicate k (-1))) := by simpa using ho
          have hcap : CapQ wr sg O1 (some ⟨g, 0, none⟩) k (List.replicate k (-1)) := CapQ.of_own ho2 (by omega) (fun e => by have := hO1 _ e; omega)
          have l1 : wr.cell? ⟨b, 0 + 1, none⟩ = some (.int .i64 (st : Int)) := (HC5.out.upd hUk not_nob).cellv rfl
          have HPK6 := hideP (HPK5.out.still hUk)
          have HUP6 := hideP (HUP5.out.trans (.still hUk))
          have HCAP := hideP hcap
          clear ho ho2 hUk hcap
          go_wp2_with fail
          refine (pkvisit_any wr w.heap.size e0 b sb sg O1 NO1 A c is st k T tc text j s HPK6.out HOV.out st (some ⟨g, 0, none⟩) k (List.replicate k (-1)) hst (by simp) HCAP.out hj hn hm1 hm2 HMAY.out).mono ?_
          rw [HS.out]
          rintro e w7 ⟨rfl, O7, NO7, hPK7, hUP7⟩
          have hup7 := HUP6.out.trans hUP7
          obtain ⟨N9, nc9, xs9, FA9, fn9, fc9, wh9, hC9, hN9, hNO9, hT9, hF9⟩ := hPK7.rest
          have l7 : w7.cell? ⟨b, 0 + 7, none⟩ = some (.slice N9 s9.next.length nc9) := hC9.cellv rfl
          have HPOST := hideP (⟨O7, NO7, N9, nc9, xs9, FA9, fn9, fc9, wh9, rfl, hPK7, hup7, hC9, hN9, hT9, hF9⟩ : StepPost w e0 b sb sg O A c is st k T tc text j s9 (.returned (.slice N9 s9.next.length nc9)) w7)
          clear hC9 hN9 hNO9 hT9 hF9 hPK7 hUP7 hup7 l1
          go_wp2_with fail
          go_ret
          exact HPOST.out
end Go.Proofs.Ytnkefclbchpafaa
