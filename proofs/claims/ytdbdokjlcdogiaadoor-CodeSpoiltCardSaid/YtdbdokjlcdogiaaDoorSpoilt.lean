/-
  The walk of heronlaw10.CodeSpoilt.
-/
import Derived.Test.YtdbdokjlcdogiaaDoorLoadX
import Derived.Test.YtdbdokjlcdogiaaDoorSpoiltP
import Derived.Test.YtdbdokjlcdogiaaDoorAwake
import Derived.Test.YtdbdokjlcdogiaaDoorWide
namespace Go.Proofs.YtdbdokjlcdogiaaDoor
open Go.RowKit
set_option linter.unusedVariables false

/-- the error that Load tells -/
def codeOf (bs : List Int) : Int := match loadX bs with | none => loadC bs | some _ => 0
theorem load_code (w : World) (S : Nat → Prop) (A : Option Addr) (n c : Nat) (bs : List Int) (h : Reads w S 1 A n (bytv bs)) (h8 : ∀ x ∈ bs, 0 ≤ x ∧ x ≤ 255) (hS : ∀ b, S b → b < w.heap.size) (hc : n ≤ c) :
    Calls Tryd.prog 15 #[.slice A n c] w fun e w' => (∃ A' n' c' s t, e = .returned (.tuple #[.agg #[.slice A' n' c', .int .i64 s, .int .i64 t], .int .i64 (codeOf bs)])) ∧ Upd Nob w w' :=
  (load_any w S A n c bs h h8 hS hc).mono (fun e w' h => by
    unfold codeOf
    cases hx : loadX bs with
    | none =>
      rw [hx] at h
      exact ⟨⟨_, _, _, _, _, h.1⟩, h.2⟩
    | some p =>
      rw [hx] at h
      obtain ⟨is, start, caps⟩ := p
      obtain ⟨A', c', gs, h1, -, h2⟩ := h
      exact ⟨⟨_, _, _, _, _, h1⟩, h2⟩)
theorem bytes_len {is : List PInst} {start caps : Int} {bs : List Int} (h : bytesOf is start caps = (bs, 0)) : bs.length ≤ 8388608 := by
  have := bytesOf_len is start caps
  rw [h] at this
  exact this
theorem bytes_some {is : List PInst} {start caps : Int} {bs : List Int} (h : bytesOf is start caps = (bs, 0)) : 8 ≤ bs.length ∧ ∀ x ∈ bs, 0 ≤ x ∧ x ≤ 255 := by
  obtain ⟨body, e, -, -, -, hB, hl4⟩ := bytes_parts h
  have hs := sumV_range ([72, 82, 80, 71] ++ body)
  have hT := tail4_byte hs.1 hs.2
  have h4 : (tail4 (sumV ([72, 82, 80, 71] ++ body))).length = 4 := rfl
  generalize tail4 (sumV ([72, 82, 80, 71] ++ body)) = T at *
  refine ⟨by rw [e, List.length_append, h4]; simp, fun x hx => ?_⟩
  rw [e] at hx
  simp only [List.mem_append] at hx
  rcases hx with (hx | hx) | hx
  · simp at hx
    rcases hx with rfl | rfl | rfl | rfl <;> omega
  · exact hB x hx
  · exact hT x hx
theorem code_same {is : List PInst} {start caps : Int} {bs : List Int} (h : bytesOf is start caps = (bs, 0)) {k : Nat} {y : Int} (hk : bs[k]? = some y) : codeOf (bs.set k y) = 0 := by
  obtain ⟨hl, hv⟩ := List.getElem?_eq_some_iff.1 hk
  have := bytes_len h
  rw [← hv, List.set_getElem_self]
  unfold codeOf loadX
  rw [if_neg (by omega), load_bytes h]
theorem code_turn {is : List PInst} {start caps : Int} {bs : List Int} (h : bytesOf is start caps = (bs, 0)) {k : Nat} {x y : Int} (hk : bs[k]? = some x) (hy : 0 ≤ y ∧ y ≤ 255) (hne : ¬ x = y) : codeOf (bs.set k y) = 101 := by
  obtain ⟨hl, hv⟩ := List.getElem?_eq_some_iff.1 hk
  have := bytes_len h
  unfold codeOf loadX loadC
  rw [if_neg (by rw [List.length_set]; omega), load_turn h hl hy (by rw [hv]; exact hne)]
  simp only
  rw [if_neg (by rw [List.length_set]; omega)]
theorem code_cut {is : List PInst} {start caps : Int} {bs : List Int} (h : bytesOf is start caps = (bs, 0)) {k : Nat} (hk : k < bs.length) : codeOf (bs.take k) = 101 := by
  have := bytes_len h
  unfold codeOf loadX loadC
  rw [if_neg (by rw [List.length_take]; omega), load_cut h hk]
  simp only
  rw [if_neg (by rw [List.length_take]; omega)]
theorem code_more {is : List PInst} {start caps : Int} {bs more : List Int} (h : bytesOf is start caps = (bs, 0)) (hm : more ≠ []) : codeOf (bs ++ more) = if 8388608 < (bs ++ more).length then 2 else 101 := by
  unfold codeOf loadX loadC
  by_cases hl : 8388608 < (bs ++ more).length
  · simp only [if_pos hl]
  · simp only [if_neg hl, load_long h hm]
theorem code_all {is : List PInst} {start caps : Int} {bs : List Int} (h : bytesOf is start caps = (bs, 0)) : codeOf (bs ++ []) = 0 := by
  have := bytes_len h
  rw [List.append_nil]
  unfold codeOf loadX
  rw [if_neg (by omega), load_bytes h]
theorem bytv_one (xs : List Int) : ∀ u ∈ bytv xs, u.oneCell' = true := by
  intro u hu
  simp only [bytv, List.mem_map] at hu
  obtain ⟨_, _, rfl⟩ := hu
  rfl
theorem emod_nat {x : Int} {L : Nat} (h0 : 0 ≤ x) : x % (L : Int) = ((x.toNat % L : Nat) : Int) := by
  obtain ⟨a, rfl⟩ := Int.eq_ofNat_of_zero_le h0
  simp

theorem OwnT.cap_ {w : World} {base n c : Nat} {e : TypeId} {A : Option Addr} {xs : List Value} (h : OwnT w base e (.slice A n c) n xs) : n ≤ c := by
  rcases h.2 with ⟨h1, h2⟩ | ⟨g, cap, cur, fz, hv, hb, hg, hfz, h1, -⟩
  · injection h1 with _ _ h3
    omega
  · injection hv with _ _ h3
    omega
theorem bytv_set (xs : List Int) (k : Nat) (y : Int) : (bytv xs).set k (.int .u8 y) = bytv (xs.set k y) := by simp [bytv, List.map_set]
theorem set_byte {xs : List Int} {k : Nat} {y : Int} (h : ∀ x ∈ xs, 0 ≤ x ∧ x ≤ 255) (hy : 0 ≤ y ∧ y ≤ 255) : ∀ x ∈ xs.set k y, 0 ≤ x ∧ x ≤ 255 := fun x hx => by
  rcases List.mem_or_eq_of_mem_set hx with hx | rfl
  · exact h x hx
  · exact hy
theorem load_codeR (w : World) (S : Nat → Prop) (A : Option Addr) (n c : Nat) (bs : List Int) (f : Int) (hf : codeOf bs = f) (h : Reads w S 1 A n (bytv bs)) (h8 : ∀ x ∈ bs, 0 ≤ x ∧ x ≤ 255) (hS : ∀ b, S b → b < w.heap.size) (hc : n ≤ c) :
    Calls Tryd.prog 15 #[.slice A n c] w fun e w' => (∃ A' n' c' s t, e = .returned (.tuple #[.agg #[.slice A' n' c', .int .i64 s, .int .i64 t], .int .i64 f])) ∧ Upd Nob w w' := by
  subst hf
  exact load_code w S A n c bs h h8 hS hc
theorem load_codeT (w : World) (base : Nat) (A : Option Addr) (n c : Nat) (bs : List Int) (f : Int) (hf : codeOf bs = f) (h : OwnT w base 5 (.slice A n c) n (bytv bs)) (h8 : ∀ x ∈ bs, 0 ≤ x ∧ x ≤ 255) :
    Calls Tryd.prog 15 #[.slice A n c] w fun e w' => (∃ A' n' c' s t, e = .returned (.tuple #[.agg #[.slice A' n' c', .int .i64 s, .int .i64 t], .int .i64 f])) ∧ Upd Nob w w' := by
  subst hf
  exact load_code w _ A n c bs (Reads.of_ownT h) h8 (fun b hb => h.lt hb) h.cap_

set_option maxRecDepth 100000 in
set_option maxHeartbeats 4000000 in
theorem spoilt_any (w : World) (A0 : Option Addr) (n0 c0 : Nat) (is0 : List PInst) (st0 cp0 : Int) (S0 : Nat → Prop) (h0 : InstsR w S0 A0 n0 is0) (hst0 : In64 st0) (hcp0 : In64 cp0) (hn0 : n0 * 56 ≤ 140737488351232)
    (at_ tb cut : Int) (hat : In64 at_) (hto : 0 ≤ tb ∧ tb ≤ 255) (hcut : In64 cut) (A4 : Option Addr) (n4 c4 : Nat) (bh : List Int) (S4 : Nat → Prop) (h4 : Reads w S4 1 A4 n4 (bytv bh)) (h48 : ∀ x ∈ bh, 0 ≤ x ∧ x ≤ 255) (hn4 : n4 ≤ 140737488351232) (hpt : PowTab w) (hwt : WordTab w) :
    Calls Tryd.prog 5 #[.agg #[.slice A0 n0 c0, .int .i64 st0, .int .i64 cp0], .int .i64 at_, .int .u8 tb, .int .i64 cut, .slice A4 n4 c4] w fun e w' => e = .returned (.bool true) ∧ Upd Nob w w' := by
  have HPT := hideP (show ∀ w', Upd Nob w w' → PowTab w' ∧ WordTab w' from fun w' hv => ⟨hpt.upd hv, hwt.upd hv⟩)
  have H0 := hideP h0
  have H4 := hideP h4
  have H48 := hideP h48
  have C1 := Cells.new w 24 #[.slice A0 n0 c0, .int .i64 st0, .int .i64 cp0]
  have hU : Upd Nob w (w.alloc (.cells #[.slice A0 n0 c0, .int .i64 st0, .int .i64 cp0] 24)) := (Upd.refl Nob w).alloc _
  clear h0 hpt hwt h4 h48
  obtain ⟨i0, hi0, hz0, hz1, hz2⟩ := info_parts cinfo_u8
  go_enter Tryd.func5, Tryd.ntmps5
  go_upto_region 1 with fail
  generalize (w.alloc (.cells #[.slice A0 n0 c0, .int .i64 st0, .int .i64 cp0] 24)) = w2 at *
  have HC1 := hideP C1
  have HU2 := hideP hU
  have hw2 := C1.lt
  clear C1 hU
  go_upto_region 2 with (go_at_call 7; refine (awake_any _ (HPT.out _ HU2.out).1 (HPT.out _ HU2.out).2).mono ?_; rintro e w3 ⟨rfl, hU3⟩)
  have HC3 := hideP (HC1.out.upd hU3 not_nob)
  have HU3 := hideP (HU2.out.trans hU3 (fun _ _ h => h))
  have hw3 := hU3.size
  clear hU3
  have a0 := HC3.out.cellv (i := 0) rfl
  have a1 := HC3.out.cellv (i := 1) rfl
  have a2 := HC3.out.cellv (i := 2) rfl
  obtain ⟨bs, ec, hR⟩ : ∃ bs ec, bytesOf is0 st0 cp0 = (bs, ec) := ⟨_, _, rfl⟩
  go_upto_region 3 with (go_at_call 18; refine (bytes_any _ S0 A0 n0 c0 is0 st0 cp0 (H0.out.upd HU3.out (fun _ _ => not_nob)) hst0 hcp0 (by omega)).mono ?_; rw [hR]; rintro e w4 ⟨AB, cB, rfl, hoB, hU4⟩)
  have HR := hideP hR
  have HOB := hideP hoB
  have HU4 := hideP (HU3.out.trans hU4 (fun _ _ h => h))
  have hw4 := hU4.size
  clear hoB hU4 a0 a1 a2 hR
  by_cases hbad : ¬ ec = 0
  · go_wp2_with fail
    go_ret
    exact ⟨rfl, HU4.out⟩
  obtain rfl : ec = 0 := Classical.not_not.1 hbad
  by_cases hb2 : at_ < 0
  · go_wp2_with fail
    go_ret
    exact ⟨rfl, HU4.out⟩
  by_cases hb3 : cut < 0
  · go_wp2_with fail
    go_ret
    exact ⟨rfl, HU4.out⟩
  obtain ⟨hL8, hB8⟩ := bytes_some HR.out
  have hLm := bytes_len HR.out
  have HB8 := hideP hB8
  clear hB8 hbad
  obtain ⟨gB, rfl, -⟩ := HOB.out.form (by omega)
  have hlenb : (bytv bs).length = bs.length := by simp [bytv]
  obtain ⟨k, hk⟩ : ∃ k : Nat, k = at_.toNat % bs.length := ⟨_, rfl⟩
  have hkl : k < bs.length := by rw [hk]; exact Nat.mod_lt _ (by omega)
  have hk1 : at_ % (bs.length : Int) = (k : Int) := by rw [hk]; exact emod_nat (by omega)
  obtain ⟨j, hj⟩ : ∃ j : Nat, j = cut.toNat % bs.length := ⟨_, rfl⟩
  have hjl : j < bs.length := by rw [hj]; exact Nat.mod_lt _ (by omega)
  have hj1 : cut % (bs.length : Int) = (j : Int) := by rw [hj]; exact emod_nat (by omega)
  clear hk hj
  have hL0 : ¬ (bs.length : Int) = 0 := by omega
  go_upto_region 7 with (at_builtin; refine wpList_append_T rfl _ _ 30 rfl w4.heap.size 5 i0 (.int .u8 0) Tryd.underlying30 hi0 hz0 hz1 hz2 rfl (.slice none 0 0) 0 [] rfl (OwnT.nil_ w4 _ _) ⟨gB, 0, none⟩ bs.length cB (bytv bs) rfl hlenb (HOB.out.cells rfl) (bytv_one bs) (by unfold maxLen; omega) (by omega) (Nat.le_refl _) ?_; intro A5 c5 w5 oN gr hat5; simp only [Nat.zero_add, List.nil_append] at oN ⊢)
  obtain ⟨g5, rfl, hc5⟩ := oN.form (by omega)
  have hg5 := oN.lo (g := g5) rfl
  have HO5 := hideP oN
  have HV5 := hideP ((Upd.refl Nob w4).grown gr (by simp [Value.ownBlock]))
  have hs5 := HV5.out.size
  clear oN gr hat5
  obtain ⟨⟨u, hu⟩, hfz⟩ := hc5 k hkl
  clear hc5
  obtain ⟨x, hx⟩ : ∃ x, bs[k]? = some x := ⟨_, List.getElem?_eq_getElem hkl⟩
  have hcx := HO5.out.cells rfl k (.int .u8 x) (by simp [bytv, hx])
  rw [add_lit_, Nat.zero_add] at hcx
  obtain rfl : u = .int .u8 x := by rw [hcx] at hu; injection hu with hu; exact hu.symm
  go_upto_region 10 with fail
  have hO6 := HO5.out.stored (k := k) (.int .u8 tb)
  rw [bytv_set] at hO6
  have HO6 := hideP hO6
  have HV6 := hideP (HV5.out.setCell ⟨g5, k, none⟩ (.int .u8 tb) (fun h => absurd h (by show ¬ g5 < _; omega)))
  obtain ⟨f, hf⟩ : ∃ f, codeOf (bs.set k tb) = f := ⟨_, rfl⟩
  have HF := hideP hf
  clear hO6 HO5 HV5 hcx hu hfz hf
  generalize w5.setCell ⟨g5, k, none⟩ (.int .u8 tb) = w6 at *
  go_upto_region 11 with (go_at_call 15; refine (load_codeT w6 w4.heap.size (some ⟨g5, 0, none⟩) bs.length c5 (bs.set k tb) f HF.out HO6.out (set_byte HB8.out hto)).mono ?_; rintro e w7 ⟨⟨A7, n7, c7, s7, t7, rfl⟩, hU7⟩)
  have HV8 := hideP ((HV6.out.trans hU7 (fun _ _ h => h)).alloc (.cells #[.slice A7 n7 c7, .int .i64 s7, .int .i64 t7] 24))
  clear hU7
  generalize w7.alloc (.cells #[.slice A7 n7 c7, .int .i64 s7, .int .i64 t7] 24) = w8 at *
  have hs8 := HV8.out.size
  have hcB := HOB.out.cap_
  have hjc : (j : Int) ≤ (cB : Int) := by omega
  have HRB := hideP (Reads.of_ownT HOB.out)
  have HSB := hideP (show ∀ b, (Value.slice (some ⟨gB, 0, none⟩) bs.length cB).ownBlock = some b → b < w4.heap.size from fun b hb => HOB.out.lt hb)
  go_upto_region 12 with (go_at_call 15; refine (load_codeR w8 _ (some ⟨gB, 0, none⟩) j cB (bs.take j) 101 (code_cut HR.out hjl) ((reads_take HRB.out (by omega)).upd HV8.out (fun _ _ => not_nob)) (fun y hy => HB8.out y (List.mem_of_mem_take hy)) (fun b hb => by have := HSB.out b hb; omega) (by omega)).mono ?_; rintro e w9 ⟨⟨A9, n9, c9, s9, t9, rfl⟩, hU9⟩)
  have HVa := hideP ((HV8.out.trans hU9 (fun _ _ h => h)).alloc (.cells #[.slice A9 n9 c9, .int .i64 s9, .int .i64 t9] 24))
  clear hU9 HV8 HV6 HO6 hj1 hjc hs8
  generalize w9.alloc (.cells #[.slice A9 n9 c9, .int .i64 s9, .int .i64 t9] 24) = wa at *
  have hsa := HVa.out.size
  have HRBa := hideP (HRB.out.upd HVa.out (fun _ _ => not_nob))
  go_upto_region 14 with (at_builtin; refine wpList_append_reads rfl _ _ 30 rfl wa.heap.size 5 i0 (.int .u8 0) 1 1 Tryd.underlying30 hi0 hz0 hz1 hz2 rfl (by decide) (.slice none 0 0) 0 [] rfl (World.ownsRow_nil _ _ _ _) _ (some ⟨gB, 0, none⟩) bs.length cB (bytv bs) rfl HRBa.out (bytv_one bs) (by unfold maxLen; omega) (by omega) (Nat.le_refl _) ?_; intro vb wb ob gr hatb; simp only [Nat.zero_add, List.nil_append] at ob; obtain ⟨Ab, cb, rfl⟩ := own_shape ob)
  have HOb := hideP ob
  have HVb := hideP (HVa.out.trans ((Upd.refl Nob wa).grown gr (by simp [Value.ownBlock])) (fun _ _ h => h))
  have hsb := ((Upd.refl Nob wa).grown gr (by simp [Value.ownBlock])).size
  clear ob gr hatb
  have HR4 := hideP (H4.out.upd (HU4.out.trans HVb.out (fun _ _ h => h)) (fun _ _ => not_nob))
  go_upto_region 15 with (at_builtin; refine wpList_append_wide rfl _ _ 30 rfl wa.heap.size 5 i0 (.int .u8 0) 1 Tryd.underlying30 hi0 hz0 hz1 hz2 rfl (.slice Ab bs.length cb) bs.length (bytv bs) rfl HOb.out S4 A4 n4 c4 (bytv bh) rfl HR4.out (bytv_one bh) (by unfold maxLen; omega) (by omega) (by omega) ?_; intro vc wc oc gr hatc; obtain ⟨Ac, cc, rfl⟩ := own_shape oc)
  have HOc := hideP oc
  have HVc := hideP (HVb.out.grown gr (fun b hb h => by have := own_lo HOb.out hb; omega))
  clear oc gr hatc
  have hlh : bh.length = n4 := by have := H4.out.1; simpa [bytv] using this
  obtain ⟨h, hh⟩ : ∃ h, codeOf (bs ++ bh) = h := ⟨_, rfl⟩
  have hOd := OwnT.of HOc.out
  rw [← bytv_append] at hOd
  have HOd := hideP hOd
  have HH := hideP hh
  clear hOd hh
  go_upto_region 16 with (go_at_call 15; refine (load_codeT wc wa.heap.size Ac (bs.length + n4) cc (bs ++ bh) h HH.out HOd.out (fun y hy => by rcases List.mem_append.1 hy with hy | hy; exact HB8.out y hy; exact H48.out y hy)).mono ?_; rintro e wd ⟨⟨Ad, nd, cd, sd, td, rfl⟩, hUd⟩)
  have HVd := hideP (HU4.out.trans ((HVc.out.trans hUd (fun _ _ h => h)).alloc (.cells #[.slice Ad nd cd, .int .i64 sd, .int .i64 td] 24)) (fun _ _ h => h))
  clear hUd
  have hF := HF.out
  have hH := HH.out
  clear HF HH
  by_cases hxt : x = tb
  · subst hxt
    rw [code_same HR.out hx] at hF
    subst hF
    by_cases hz : n4 = 0
    · obtain rfl : bh = [] := List.eq_nil_of_length_eq_zero (by omega)
      rw [code_all HR.out] at hH
      subst hH hz
      go_wp2_with fail
      go_ret
      exact ⟨rfl, HVd.out⟩
    · have hne : bh ≠ [] := fun e => hz (by rw [← hlh, e]; rfl)
      rw [code_more HR.out hne, List.length_append, hlh] at hH
      by_cases hlong : 8388608 < bs.length + n4
      · rw [if_pos hlong] at hH
        subst hH
        go_wp2_with fail
        go_ret
        exact ⟨rfl, HVd.out⟩
      · rw [if_neg hlong] at hH
        subst hH
        go_wp2_with fail
        go_ret
        exact ⟨rfl, HVd.out⟩
  · rw [code_turn HR.out hx hto hxt] at hF
    subst hF
    have hxb : (x == tb) = false := by simp [hxt]
    rw [hxb]
    by_cases hz : n4 = 0
    · obtain rfl : bh = [] := List.eq_nil_of_length_eq_zero (by omega)
      rw [code_all HR.out] at hH
      subst hH hz
      go_wp2_with fail
      go_ret
      exact ⟨rfl, HVd.out⟩
    · have hne : bh ≠ [] := fun e => hz (by rw [← hlh, e]; rfl)
      rw [code_more HR.out hne, List.length_append, hlh] at hH
      by_cases hlong : 8388608 < bs.length + n4
      · rw [if_pos hlong] at hH
        subst hH
        go_wp2_with fail
        go_ret
        exact ⟨rfl, HVd.out⟩
      · rw [if_neg hlong] at hH
        subst hH
        go_wp2_with fail
        go_ret
        exact ⟨rfl, HVd.out⟩
end Go.Proofs.YtdbdokjlcdogiaaDoor
