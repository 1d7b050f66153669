/-
  RefJ, RefJT, put together.
-/
import Derived.Test.YtdbdokjlcdogiaaDoorZ18RefI
import Derived.Test.YtdbdokjlcdogiaaDoorZ17RefNT

/-
  The walk of (*heronref10.reader).inst over bytes.
-/
namespace Go.Proofs.YtdbdokjlcdogiaaDoor
open Go.RowKit
set_option linter.unusedVariables false

theorem refi_any (w : World) (S : Nat → Prop) (LA : Option Addr) (lc : Nat) (op : Int) (l : List Int) (h : Reads w S 1 LA l.length (intv l)) (hS : ∀ b, S b → b < w.heap.size) (hl8 : l.length ≤ 100000000) (h1 : 1 ≤ op) (h7 : op ≤ 7) (hm : manyI op ≤ l.length) :
    Calls Tryd.prog 55 #[.int .i64 op, .slice LA l.length lc] w (RefIAns w (mkI op l)) := by
  have hc : op = 1 ∨ op = 2 ∨ op = 3 ∨ op = 4 ∨ op = 5 ∨ op = 6 ∨ op = 7 := by omega
  have two : ∀ {l : List Int}, 2 ≤ l.length → ∃ a b r, l = a :: b :: r := fun {l} hl => by
    match l, hl with
    | a :: b :: r, _ => exact ⟨a, b, r, rfl⟩
  have one : ∀ {l : List Int}, 1 ≤ l.length → ∃ a r, l = a :: r := fun {l} hl => by
    match l, hl with
    | a :: r, _ => exact ⟨a, r, rfl⟩
  rcases hc with rfl | rfl | rfl | rfl | rfl | rfl | rfl
  · obtain ⟨a, b, r, rfl⟩ := two hm
    exact refi_1 w S LA _ lc a b r h hS hl8
  · obtain ⟨a, b, r, rfl⟩ := two hm
    exact refi_2 w S LA _ lc a b r h hS
  · obtain ⟨a, b, r, rfl⟩ := two hm
    exact refi_3 w S LA _ lc a b r h hS
  · obtain ⟨a, b, r, rfl⟩ := two hm
    exact refi_4 w S LA _ lc a b r h hS
  · obtain ⟨a, r, rfl⟩ := one hm
    exact refi_5 w S LA _ lc a r h hS
  · exact refi_6 w S LA _ lc l h hS
  · obtain ⟨a, r, rfl⟩ := one hm
    exact refi_7 w S LA _ lc a r h hS
/-- the answer of the reader's inst -/
def RdIAns (w : World) (S : Nat → Prop) (rb : Nat) (all : List Int) (R : PInst × List Int × Bool) (e : Ending) (w' : World) : Prop :=
  ∃ B c, e = .returned (.agg #[.int .i64 R.1.op, .int .i64 R.1.x, .int .i64 R.1.y, .int .i64 R.1.arg, .slice B R.1.rs.length c]) ∧ w'.ownsRow w.heap.size 50 2 (.slice B R.1.rs.length c) R.1.rs.length (pairv R.1.rs) ∧ RdR w' S rb all R.2.1 R.2.2 ∧ Upd (fun b => b = rb) w w'
theorem rinfo_int : (Tryd.prog.info? 3).map (fun i => (i.zero, i.size, i.bytes)) = some (some (.int .i64 0), 1, 8) := by kernel_rfl
theorem rdi_end (P : Ending → World → Prop) (w : World) (a : Act) (b : Nat) (v0 v1 v2 v3 v4 : Value) (hd : a.defers = []) (ht : a.tmps[4]? = some (.pointer (some ⟨b, 0, none⟩))) (hC : Cells w b 48 #[v0, v1, v2, v3, v4]) (hP : P (.returned (.agg #[v0, v1, v2, v3, v4])) w) :
    bodyPost Tryd.prog Tryd.f27 P .ret a w := by
  have c0 := hC.cellv (i := 0) rfl
  have c1 := hC.cellv (i := 1) rfl
  have c2 := hC.cellv (i := 2) rfl
  have c3 := hC.cellv (i := 3) rfl
  have c4 := hC.cellv (i := 4) rfl
  exact ⟨hd, _, by simp [results, Tryd.results27, go_sem, ht, c0, c1, c2, c3, c4], hP⟩
theorem RdR.alloc {w : World} {S : Nat → Prop} {rb : Nat} {all rest : List Int} {bad : Bool} (h : RdR w S rb all rest bad) (o : Obj) : RdR (w.alloc o) S rb all rest bad := h.upd ((Upd.refl Nob w).alloc o) not_nob (fun _ _ => not_nob)
theorem RdR.lt {w : World} {S : Nat → Prop} {rb : Nat} {all rest : List Int} {bad : Bool} (h : RdR w S rb all rest bad) : rb < w.heap.size := by
  obtain ⟨A, c, k, hc, -⟩ := h.at_
  exact hc.lt
theorem five_rd {w : World} {S : Nat → Prop} {rb b : Nat} {all rest : List Int} {bad : Bool} (h : RdR w S rb all rest bad) (hb : ¬ rb = b) (hS : ∀ k, S k → ¬ k = b) (v0 v1 v2 v3 v4 : Value) : RdR (five w b v0 v1 v2 v3 v4) S rb all rest bad :=
  h.upd (F := fun k => k = b) (((((Upd.refl (fun k => k = b) w).setCell ⟨b, 0, none⟩ v0 (fun _ => rfl)).setCell ⟨b, 1, none⟩ v1 (fun _ => rfl)).setCell ⟨b, 2, none⟩ v2 (fun _ => rfl)).setCell ⟨b, 3, none⟩ v3 (fun _ => rfl) |>.setCell ⟨b, 4, none⟩ v4 (fun _ => rfl)) hb hS
theorem five_updF {F : Nat → Prop} {w0 w : World} {b : Nat} (hU : Upd F w0 w) (hb : ¬ b < w0.heap.size) (v0 v1 v2 v3 v4 : Value) : Upd F w0 (five w b v0 v1 v2 v3 v4) :=
  ((((hU.setCell ⟨b, 0, none⟩ v0 (fun h => absurd h hb)).setCell ⟨b, 1, none⟩ v1 (fun h => absurd h hb)).setCell ⟨b, 2, none⟩ v2 (fun h => absurd h hb)).setCell ⟨b, 3, none⟩ v3 (fun h => absurd h hb)).setCell ⟨b, 4, none⟩ v4 (fun h => absurd h hb)

theorem own_blt {w : World} {base : Nat} {e : TypeId} {size : Nat} {v : Value} {n : Nat} {xs : List Value} (h : w.ownsRow base e size v n xs) {b : Nat} (hb : v.ownBlock = some b) : b < w.heap.size := by
  obtain ⟨cur, hc, -⟩ := own_cells h hb
  exact hc.lt
theorem rngR_bad : ∀ (n : Nat) (r : List Int), rngR n true r = ([], r, true)
  | 0, r => rfl
  | n + 1, r => by rw [rngR, if_pos rfl]
theorem numsR_step {n : Nat} {b b' : Bool} {r r' : List Int} {v : Int} (h : nxt b r = (v, r', b')) : numsR (n + 1) b r = (v :: (numsR n b' r').1, (numsR n b' r').2) := by rw [numsR, h]
theorem rngR_step {n : Nat} {b' : Bool} {r r' : List Int} {v : Int} (h : nxt false r = (v, r', b')) : rngR (n + 1) false r = (v :: (rngR n b' r').1, (rngR n b' r').2) := by
  have h2 : varB r = (v, r', b') := h
  rw [rngR, if_neg (by simp), h2]
theorem nxt_less {r r' : List Int} {v : Int} (h : nxt false r = (v, r', false)) : r'.length < r.length := by
  have h2 : varB r = (v, r', false) := h
  have := varF_less 5 0 1 true r (by show (varB r).2.2 = false; rw [h2])
  have e : varF 5 0 1 true r = (v, r', false) := h2
  rw [e] at this
  exact this
set_option maxRecDepth 100000 in
set_option maxHeartbeats 4000000 in
theorem rdInst_any (w : World) (S : Nat → Prop) (rb : Nat) (all rest : List Int) (bad : Bool) (h : RdR w S rb all rest bad) (hS : ∀ b, S b → b < w.heap.size) :
    Calls Tryd.prog 27 #[.pointer (some ⟨rb, 0, none⟩), .bool false] w (RdIAns w S rb all (instR bad rest)) := by
  have hrb := h.lt
  have C0 := Cells.new w 48 #[.int .i64 0, .int .i64 0, .int .i64 0, .int .i64 0, .slice none 0 0]
  have hU : Upd Nob w (w.alloc (.cells #[.int .i64 0, .int .i64 0, .int .i64 0, .int .i64 0, .slice none 0 0] 48)) := (Upd.refl Nob w).alloc _
  have H := hideP (h.alloc (.cells #[.int .i64 0, .int .i64 0, .int .i64 0, .int .i64 0, .slice none 0 0] 48))
  have hBy := h.rest_.1
  have HS := hideP hS
  obtain ⟨o1, o2, o3, o4⟩ := opR_in (b := bad) hBy
  have HO3 := hideP o3
  have hlen := h.rest_.2
  have hfew := h.few
  generalize hP : RdIAns w S rb all (instR bad rest) = P
  have HP := hideP hP
  clear hP h hS o3 hBy
  go_enter Tryd.func27, Tryd.ntmps27
  go_upto_region 1 with fail
  generalize w.alloc (.cells #[.int .i64 0, .int .i64 0, .int .i64 0, .int .i64 0, .slice none 0 0] 48) = w2 at *
  have HC0 := hideP C0
  have HU := hideP hU
  have hw2 := C0.lt
  clear C0 hU
  generalize hO : opR bad rest = O at *
  obtain ⟨ov, r0, b0⟩ := O
  simp only at o1 o2 HO3 o4
  have HO := hideP hO
  clear hO
  go_upto_region 2 with (go_at_call 53; refine (op_any w2 S rb all rest bad H.out).mono ?_; rw [HO.out]; rintro e w3 ⟨rfl, hR3, hU3⟩)
  have HR3 := hideP hR3
  have HU3 := hideP (HU.out.mono (G := fun b => b = rb) (fun _ _ h => absurd h not_nob) |>.trans hU3 (fun _ _ h => h))
  have HC3 := hideP (HC0.out.upd hU3 (by omega))
  have hw3 := HC3.out.lt
  clear hR3 hU3 HC0 HU H
  by_cases hbad : ov < 1 ∨ 7 < ov
  · obtain ⟨A, c, k, hc, -⟩ := HR3.out.at_
    have c3 := hc.cellv (i := 0 + 3) rfl
    have f3 := hc.frozen (0 + 3)
    have d0 := HC3.out.cellv (i := 0) rfl
    have d1 := HC3.out.cellv (i := 0 + 1) rfl
    have d2 := HC3.out.cellv (i := 0 + 2) rfl
    have d3 := HC3.out.cellv (i := 0 + 3) rfl
    have d4 := HC3.out.cellv (i := 0 + 4) rfl
    have g0 := HC3.out.frozen 0
    have g1 := HC3.out.frozen (0 + 1)
    have g2 := HC3.out.frozen (0 + 2)
    have g3 := HC3.out.frozen (0 + 3)
    have g4 := HC3.out.frozen (0 + 4)
    have hn : ¬ rb = w.heap.size := by omega
    have hn2 : ¬ w.heap.size = rb := by omega
    clear hc
    have eI : instR bad rest = (⟨0, 0, 0, 0, []⟩, r0, true) := by unfold instR; rw [HO.out]; simp only; rw [if_pos hbad]
    have EI := hideP eI
    clear eI
    have HRb := hideP (HR3.out.flag true)
    have HCb := hideP (HC3.out.far ⟨rb, 3, none⟩ (.bool true) hn2)
    have HUb := hideP (HU3.out.setCell ⟨rb, 3, none⟩ (.bool true) (fun _ => rfl))
    by_cases h1 : ov < 1
    · go_wp2_with fail
      refine rdi_end _ _ _ _ _ _ _ _ _ rfl rfl (five_cells HCb.out _ _ _ _ _) ?_
      rw [← HP.out, EI.out]
      exact ⟨none, 0, rfl, World.ownsRow_nil _ _ _ _, five_rd HRb.out hn (fun k hk e => by have := HS.out k hk; omega) _ _ _ _ _, five_updF HUb.out (Nat.lt_irrefl _) _ _ _ _ _⟩
    · have h7 : 7 < ov := by omega
      go_wp2_with fail
      refine rdi_end _ _ _ _ _ _ _ _ _ rfl rfl (five_cells HCb.out _ _ _ _ _) ?_
      rw [← HP.out, EI.out]
      exact ⟨none, 0, rfl, World.ownsRow_nil _ _ _ _, five_rd HRb.out hn (fun k hk e => by have := HS.out k hk; omega) _ _ _ _ _, five_updF HUb.out (Nat.lt_irrefl _) _ _ _ _ _⟩
  have p1 : 1 ≤ ov := by omega
  have p7 : ov ≤ 7 := by omega
  have hmm : manyI ov ≤ 2 := by unfold manyI; split; omega; split <;> omega
  have EI := hideP (show instR bad rest = if ov = 1 then
    (mkI 1 ((numsR 2 b0 r0).1 ++ (rngR (2 * ((numsR 2 b0 r0).1.getD 1 0).toNat) (numsR 2 b0 r0).2.2 (numsR 2 b0 r0).2.1).1), (rngR (2 * ((numsR 2 b0 r0).1.getD 1 0).toNat) (numsR 2 b0 r0).2.2 (numsR 2 b0 r0).2.1).2)
    else (mkI ov (numsR (manyI ov) b0 r0).1, (numsR (manyI ov) b0 r0).2) from by unfold instR; rw [HO.out]; simp only; rw [if_neg hbad])
  clear hbad
  obtain ⟨j0, hj0, hy0, hy1, hy2⟩ := info_parts rinfo_int
  obtain ⟨m, hm⟩ : ∃ m, manyI ov = m := ⟨_, rfl⟩
  have HM := hideP hm
  rw [hm] at hmm
  clear hm
  go_upto_region 7 with (go_at_call 54; refine (many_any w3 ov p1 p7).mono ?_; rw [HM.out]; rintro e w4 ⟨rfl, hw4⟩; subst hw4)
  go_wp2_with fail
  go_loopg [6, 8] m (fun gk v6 v8 wr => ∃ (i : Nat) (acc : List Int) (A : Option Addr) (c : Nat) (r : List Int) (b : Bool), i + gk = m ∧ v8 = .int .i64 (i : Int) ∧ v6 = .slice A i c ∧ acc.length = i ∧ wr.ownsRow (w.heap.size + 1) 3 1 (.slice A i c) i (intv acc) ∧ RdR wr S rb all r b ∧ numsR m b0 r0 = (acc ++ (numsR (m - i) b r).1, (numsR (m - i) b r).2) ∧ Cells wr w.heap.size 48 #[.int .i64 0, .int .i64 0, .int .i64 0, .int .i64 0, .slice none 0 0] ∧ Upd (fun b => b = rb) w wr)
  case atStart => exact ⟨0, [], none, 0, r0, b0, by omega, rfl, rfl, rfl, World.ownsRow_nil _ _ _ _, HR3.out, rfl, HC3.out, HU3.out⟩
  case round =>
    obtain ⟨i, acc, A, c, r, b, hk, rfl, rfl, hal, hO, hR, hN, hC, hU⟩ := hrel
    have HK := hideP hk
    have HOw := hideP hO
    have HR := hideP hR
    have HN := hideP hN
    have HC := hideP hC
    have HU := hideP hU
    have hs1 := hC.lt
    clear hk hO hR hN hC hU
    by_cases hlt : i < m
    · have q1 : (i : Int) < (m : Int) := by omega
      obtain ⟨v, r5, b5, hX⟩ : ∃ v r5 b5, nxt b r = (v, r5, b5) := ⟨_, _, _, rfl⟩
      have HX := hideP hX
      clear hX
      go_upto_region 11 with (go_at_call 26; refine (next_any wr S rb all r b HR.out).mono ?_; rw [HX.out]; rintro e w5 ⟨rfl, hR5, hU5⟩)
      have hrb0 : ¬ w.heap.size = rb := by omega
      have HR5 := hideP hR5
      have HU5 := hideP (HU.out.trans hU5 (fun _ _ h => h))
      have HC5 := hideP (HC.out.upd hU5 hrb0)
      have HO5 := hideP (own_upd HOw.out hU5 (fun b hb (e : b = rb) => by have := own_lo HOw.out hb; omega))
      have hs5 := HC5.out.lt
      clear hR5 hU5
      go_wp2_with (at_builtin; refine wpList_append_lies _ rfl _ _ 71 rfl (w.heap.size + 1) 3 j0 _ 1 8 Tryd.underlying71 hj0 hy0 hy1 hy2 rfl (by decide) (.slice A (i) c) (i) (intv acc) rfl (own_upd HO5.out ((Upd.refl Nob w5).alloc _) (fun _ _ => not_nob)) ⟨w5.heap.size, 0, none⟩ 1 1 [.int .i64 v] rfl rfl (World.news_of_block (cs := #[.int .i64 v]) (t := 3) (fr := (0, 0)) (heap_alloc_new w5 _)) (by intro u hu; simp at hu; rcases hu with rfl; rfl) (by decide) (by unfold maxLen; omega) (by omega) (by simp; omega) (w5.heap.size + 1) (by simp) ?_)
      intro gN cN wN oN gr hat hltN
      have OB := fun b (hb : (Value.slice A i c).ownBlock = some b) => own_lo HO5.out hb
      have UN := (HU5.out.alloc (.cells #[.int .i64 v] 3)).grown gr (fun b hb h => absurd h (by have := OB b hb; omega))
      have UB := ((Upd.refl (fun b => (Value.slice A i c).ownBlock = some b) w5).alloc (.cells #[.int .i64 v] 3)).grown gr (fun b hb _ => hb)
      have HCN := hideP (HC5.out.upd UB (fun h => by have := OB _ h; omega))
      have HRN := hideP (HR5.out.upd UB (fun h => by have := OB _ h; omega) (fun b hb h => by have h1 := OB b h; have h2 := HS.out b hb; omega))
      have e1 : intv acc ++ [.int .i64 v] = intv (acc ++ [v]) := by rw [intv_append]; rfl
      rw [e1] at oN
      have HON := hideP oN
      have HUN := hideP UN
      clear oN gr hat UN UB e1
      go_wp2_with fail
      go_roundg (m - (i + 1))
      case measure => have := HK.out; omega
      case rel => exact ⟨i + 1, acc ++ [v], some ⟨gN, 0, none⟩, cN, r5, b5, by have := HK.out; omega, by go_num, rfl, by simp [hal], HON.out, HRN.out, by rw [HN.out, show m - i = (m - (i + 1)) + 1 by omega, numsR_step HX.out]; simp, HCN.out, HUN.out⟩
    have him : i = m := by have := HK.out; omega
    subst him
    have hN2 := HN.out
    rw [Nat.sub_self] at hN2
    have HN2 := hideP (show numsR i b0 r0 = (acc, r, b) from by rw [hN2]; simp [numsR])
    clear hN2
    have q1 : ¬ (i : Int) < (i : Int) := by omega
    by_cases h1 : ov = 1
    · subst h1
      have hm2 : (2 : Nat) = i := HM.out
      obtain ⟨a0, a1, rfl⟩ : ∃ a0 a1, acc = [a0, a1] := by
        match acc, hal with
        | [a, b], _ => exact ⟨a, b, rfl⟩
        | [], h => simp at h; omega
        | [a], h => simp at h; omega
        | a :: b :: c :: r, h => simp at h; omega
      subst hm2
      have hNI := (numsR_in 2 b0 r0 HO3.out).1
      rw [HN2.out] at hNI
      have ha1 := hNI a1 (by simp)
      unfold Num36 at ha1
      have HE2 := hideP (show instR bad rest = (mkI 1 ([a0, a1] ++ (rngR (2 * a1.toNat) b r).1), (rngR (2 * a1.toNat) b r).2) from by rw [EI.out, if_pos rfl, HN2.out]; rfl)
      have hrl := HR.out.rest_.2
      have hrf := HR.out.few
      clear hNI EI HN HN2
      obtain ⟨m2, hm2⟩ : ∃ m2, m2 = 2 * a1.toNat := ⟨_, rfl⟩
      have hm2i : (m2 : Int) = 2 * a1 := by omega
      rw [← hm2] at HE2
      clear hm2
      obtain ⟨b1, hb1⟩ : ∃ b1, b1 = b := ⟨_, rfl⟩
      obtain ⟨r1, hr1⟩ : ∃ r1, r1 = r := ⟨_, rfl⟩
      rw [← hb1, ← hr1] at HE2
      have hb1 := hideP hb1
      have hr1 := hideP hr1
      go_wp2_with fail
      go_loopg [6, 10] m2 (fun gk v6 v10 wr => ∃ (i : Nat) (x : List Int) (A : Option Addr) (c : Nat) (r : List Int) (b : Bool), i + gk = m2 ∧ v10 = .int .i64 (i : Int) ∧ v6 = .slice A (2 + i) c ∧ x.length = i ∧ wr.ownsRow (w.heap.size + 1) 3 1 (.slice A (2 + i) c) (2 + i) (intv (a0 :: a1 :: x)) ∧ RdR wr S rb all r b ∧ rngR m2 b1 r1 = (x ++ (rngR (m2 - i) b r).1, (rngR (m2 - i) b r).2) ∧ Cells wr w.heap.size 48 #[.int .i64 0, .int .i64 0, .int .i64 0, .int .i64 0, .slice none 0 0] ∧ Upd (fun b => b = rb) w wr ∧ (b = false → i + r.length ≤ 8388608) ∧ i ≤ 8388609)
      case atStart => exact ⟨0, [], A, c, r, b, by omega, rfl, rfl, rfl, HOw.out, HR.out, by rw [hb1.out, hr1.out]; simp, HC.out, HU.out, fun _ => by omega, by omega⟩
      case round =>
        clear HOw HR HC HU hs1 hb1 hr1 hrl hrf
        obtain ⟨i, x, A, c, r, b, hk, rfl, rfl, hxl, hO, hR, hG, hC, hU, hbd, hi8⟩ := hrel
        have HK := hideP hk
        have HOw := hideP hO
        have HR := hideP hR
        have HG := hideP hG
        have HC := hideP hC
        have HU := hideP hU
        have HBD := hideP hbd
        have hs1 := hC.lt
        obtain ⟨gl, cap, hv, hbl, -⟩ := World.ownsRow.form hO (by omega)
        have hA : A = some ⟨gl, 0, none⟩ := by injection hv
        subst hA
        have l1 : wr.cell? ⟨gl, 1, none⟩ = some (.int .i64 a1) := by
          rw [World.ownsRow.cellAt hO 1 (by omega)]
          rfl
        obtain ⟨LA, Lc, Lk, hrc, -⟩ := hR.at_
        have c3 := hrc.cellv (i := 0 + 3) rfl
        have g2 : (1 : Int) < ((2 + i : Nat) : Int) := by omega
        have w1 : IntKind.i64.wrap (2 * a1) = 2 * a1 := by rw [IntKind.wrap_i64]; omega
        clear hk hO hR hG hC hU hbd hv hrc
        have hend : (i < m2 → b = true) → rngR m2 b1 r1 = (x, r, b) := fun h => by
          rw [HG.out]
          by_cases hlt : i < m2
          · rw [h hlt, rngR_bad]
            simp
          · rw [show m2 - i = 0 by omega]
            simp [rngR]
        have HEND := hideP hend
        clear hend
        obtain ⟨n2, hn2⟩ : ∃ n2, n2 = 2 + i := ⟨_, rfl⟩
        rw [← hn2] at HOw g2 ⊢
        have hlt2 : (a0 :: a1 :: x).length = n2 := by simp; omega
        by_cases hlt : i < m2
        · have q2 : (i : Int) < 2 * a1 := by omega
          cases b with
          | true =>
            have hE := HE2.out
            rw [HEND.out (fun _ => rfl)] at hE
            have HE3 := hideP (show instR bad rest = (mkI 1 (a0 :: a1 :: x), r, true) from hE)
            clear hE
            have HOx := hideP (show wr.ownsRow (w.heap.size + 1) 3 1 (.slice (some ⟨gl, 0, none⟩) (a0 :: a1 :: x).length c) (a0 :: a1 :: x).length (intv (a0 :: a1 :: x)) from by rw [hlt2]; exact HOw.out)
            rw [← hlt2]
            clear hlt2 hn2
            generalize hll : a0 :: a1 :: x = l at *
            have hl2 : 2 ≤ l.length := by rw [← hll]; simp
            have hl8 : l.length ≤ 100000000 := by rw [← hll]; simp; omega
            clear hll HOw
            go_upto_region 19 with (go_at_call 55; refine (refi_any wr _ (some ⟨gl, 0, none⟩) c 1 l (Reads.of_own HOx.out) (fun b hb => own_blt HOx.out hb) hl8 (by omega) (by omega) (by rw [show manyI 1 = 2 from rfl]; exact hl2)).mono ?_; rintro e w7 ⟨B, cc, rfl, hO7, hU7⟩; have C7 := HC.out.upd hU7 not_nob; have f0 := C7.frozen 0; have f1 := C7.frozen (0 + 1); have f2 := C7.frozen (0 + 2); have f3 := C7.frozen (0 + 3); have f4 := C7.frozen (0 + 4); have d0 := C7.cellv (i := 0) rfl; have d1 := C7.cellv (i := 0 + 1) rfl; have d2 := C7.cellv (i := 0 + 2) rfl; have d3 := C7.cellv (i := 0 + 3) rfl; have d4 := C7.cellv (i := 0 + 4) rfl)
            refine rdi_end _ _ _ _ _ _ _ _ _ rfl rfl (five_cells C7 _ _ _ _ _) ?_
            rw [← HP.out, HE3.out]
            exact ⟨B, cc, rfl, five_own (own_base hO7 (fun g hg => by have := own_lo hO7 hg; omega)) (own_ne hO7 C7 (by decide)) _ _ _ _ _, five_rd (HR.out.upd hU7 not_nob (fun _ _ => not_nob)) (by omega) (fun k hk e => by have := HS.out k hk; omega) _ _ _ _ _, five_updF (HU.out.trans hU7 (fun _ _ h => absurd h not_nob)) (Nat.lt_irrefl _) _ _ _ _ _⟩
          | false =>
            have hn28 : n2 ≤ 9000000 := by omega
            have HNN := hideP hn2
            have HLT := hideP hlt2
            clear hn2 hlt2
            obtain ⟨v, r5, b5, hX⟩ : ∃ v r5 b5, nxt false r = (v, r5, b5) := ⟨_, _, _, rfl⟩
            have HX := hideP hX
            clear hX
            go_upto_region 17 with (go_at_call 26; refine (next_any wr S rb all r false HR.out).mono ?_; rw [HX.out]; rintro e w5 ⟨rfl, hR5, hU5⟩)
            have hrb0 : ¬ w.heap.size = rb := by omega
            have HR5 := hideP hR5
            have HU5 := hideP (HU.out.trans hU5 (fun _ _ h => h))
            have HC5 := hideP (HC.out.upd hU5 hrb0)
            have HO5 := hideP (own_upd HOw.out hU5 (fun b hb (e : b = rb) => by have := own_lo HOw.out hb; omega))
            have hs5 := HC5.out.lt
            clear hR5 hU5
            go_wp2_with (at_builtin; refine wpList_append_lies _ rfl _ _ 71 rfl (w.heap.size + 1) 3 j0 _ 1 8 Tryd.underlying71 hj0 hy0 hy1 hy2 rfl (by decide) (.slice (some ⟨gl, 0, none⟩) (n2) c) (n2) (intv (a0 :: a1 :: x)) rfl (own_upd HO5.out ((Upd.refl Nob w5).alloc _) (fun _ _ => not_nob)) ⟨w5.heap.size, 0, none⟩ 1 1 [.int .i64 v] rfl rfl (World.news_of_block (cs := #[.int .i64 v]) (t := 3) (fr := (0, 0)) (heap_alloc_new w5 _)) (by intro u hu; simp at hu; rcases hu with rfl; rfl) (by decide) (by unfold maxLen; omega) (by omega) (by simp; omega) (w5.heap.size + 1) (by simp) ?_)
            intro gN cN wN oN gr hat hltN
            have OB := fun b (hb : (Value.slice (some ⟨gl, 0, none⟩) n2 c).ownBlock = some b) => own_lo HO5.out hb
            have UN := (HU5.out.alloc (.cells #[.int .i64 v] 3)).grown gr (fun b hb h => absurd h (by have := OB b hb; omega))
            have UB := ((Upd.refl (fun b => (Value.slice (some ⟨gl, 0, none⟩) n2 c).ownBlock = some b) w5).alloc (.cells #[.int .i64 v] 3)).grown gr (fun b hb _ => hb)
            have HCN := hideP (HC5.out.upd UB (fun h => by have := OB _ h; omega))
            have HRN := hideP (HR5.out.upd UB (fun h => by have := OB _ h; omega) (fun b hb h => by have h1 := OB b h; have h2 := HS.out b hb; omega))
            have e1 : intv (a0 :: a1 :: x) ++ [.int .i64 v] = intv (a0 :: a1 :: (x ++ [v])) := by simp [intv]
            rw [e1] at oN
            have e2 : n2 + 1 = 2 + (i + 1) := by have := HNN.out; omega
            rw [e2] at oN ⊢
            have HON := hideP oN
            have HUN := hideP UN
            have HBN := hideP (show b5 = false → (i + 1) + r5.length ≤ 8388608 from fun e => by subst e; have h1 := nxt_less HX.out; have h2 := HBD.out (by first | rfl | trivial); omega)
            have hi9 : i + 1 ≤ 8388609 := by have h2 := HBD.out (by first | rfl | trivial); omega
            clear oN gr hat UN UB e1 e2
            go_wp2_with fail
            go_roundg (m2 - (i + 1))
            case measure => have := HK.out; omega
            case rel => exact ⟨i + 1, x ++ [v], some ⟨gN, 0, none⟩, cN, r5, b5, by have := HK.out; omega, by go_num, rfl, by simp [hxl], HON.out, HRN.out, by rw [HG.out, show m2 - i = (m2 - (i + 1)) + 1 by omega, rngR_step HX.out]; simp, HCN.out, HUN.out, HBN.out, hi9⟩
        · have q2 : ¬ (i : Int) < 2 * a1 := by omega
          have hE := HE2.out
          rw [HEND.out (fun h => absurd h hlt)] at hE
          have HE3 := hideP (show instR bad rest = (mkI 1 (a0 :: a1 :: x), r, b) from hE)
          clear hE
          have HOx := hideP (show wr.ownsRow (w.heap.size + 1) 3 1 (.slice (some ⟨gl, 0, none⟩) (a0 :: a1 :: x).length c) (a0 :: a1 :: x).length (intv (a0 :: a1 :: x)) from by rw [hlt2]; exact HOw.out)
          rw [← hlt2]
          clear hlt2 hn2
          generalize hll : a0 :: a1 :: x = l at *
          have hl2 : 2 ≤ l.length := by rw [← hll]; simp
          have hl8 : l.length ≤ 100000000 := by rw [← hll]; simp; omega
          clear hll HOw
          go_upto_region 19 with (go_at_call 55; refine (refi_any wr _ (some ⟨gl, 0, none⟩) c 1 l (Reads.of_own HOx.out) (fun b hb => own_blt HOx.out hb) hl8 (by omega) (by omega) (by rw [show manyI 1 = 2 from rfl]; exact hl2)).mono ?_; rintro e w7 ⟨B, cc, rfl, hO7, hU7⟩; have C7 := HC.out.upd hU7 not_nob; have f0 := C7.frozen 0; have f1 := C7.frozen (0 + 1); have f2 := C7.frozen (0 + 2); have f3 := C7.frozen (0 + 3); have f4 := C7.frozen (0 + 4); have d0 := C7.cellv (i := 0) rfl; have d1 := C7.cellv (i := 0 + 1) rfl; have d2 := C7.cellv (i := 0 + 2) rfl; have d3 := C7.cellv (i := 0 + 3) rfl; have d4 := C7.cellv (i := 0 + 4) rfl)
          refine rdi_end _ _ _ _ _ _ _ _ _ rfl rfl (five_cells C7 _ _ _ _ _) ?_
          rw [← HP.out, HE3.out]
          exact ⟨B, cc, rfl, five_own (own_base hO7 (fun g hg => by have := own_lo hO7 hg; omega)) (own_ne hO7 C7 (by decide)) _ _ _ _ _, five_rd (HR.out.upd hU7 not_nob (fun _ _ => not_nob)) (by omega) (fun k hk e => by have := HS.out k hk; omega) _ _ _ _ _, five_updF (HU.out.trans hU7 (fun _ _ h => absurd h not_nob)) (Nat.lt_irrefl _) _ _ _ _ _⟩
    · have HE2 := hideP (show instR bad rest = (mkI ov acc, r, b) from by rw [EI.out, if_neg h1, HM.out, HN2.out])
      have hmle : manyI ov ≤ acc.length := by rw [HM.out]; omega
      have hl8 : acc.length ≤ 100000000 := by omega
      clear EI HN HN2 HM
      subst hal
      go_upto_region 19 with (go_at_call 55; refine (refi_any wr _ A c ov acc (Reads.of_own HOw.out) (fun b hb => own_blt HOw.out hb) hl8 (by omega) (by omega) hmle).mono ?_; rintro e w7 ⟨B, cc, rfl, hO7, hU7⟩; have C7 := HC.out.upd hU7 not_nob; have f0 := C7.frozen 0; have f1 := C7.frozen (0 + 1); have f2 := C7.frozen (0 + 2); have f3 := C7.frozen (0 + 3); have f4 := C7.frozen (0 + 4); have d0 := C7.cellv (i := 0) rfl; have d1 := C7.cellv (i := 0 + 1) rfl; have d2 := C7.cellv (i := 0 + 2) rfl; have d3 := C7.cellv (i := 0 + 3) rfl; have d4 := C7.cellv (i := 0 + 4) rfl)
      refine rdi_end _ _ _ _ _ _ _ _ _ rfl rfl (five_cells C7 _ _ _ _ _) ?_
      rw [← HP.out, HE2.out]
      exact ⟨B, cc, rfl, five_own (own_base hO7 (fun g hg => by have := own_lo hO7 hg; omega)) (own_ne hO7 C7 (by decide)) _ _ _ _ _, five_rd (HR.out.upd hU7 not_nob (fun _ _ => not_nob)) (by omega) (fun k hk e => by have := HS.out k hk; omega) _ _ _ _ _, five_updF (HU.out.trans hU7 (fun _ _ h => absurd h not_nob)) (Nat.lt_irrefl _) _ _ _ _ _⟩
end Go.Proofs.YtdbdokjlcdogiaaDoor

/-
  The walk of (*heronref10.reader).inst over words. Printed by tools/mkRefJT.py out of RefJ.
-/
namespace Go.Proofs.YtdbdokjlcdogiaaDoor
open Go.RowKit
set_option linter.unusedVariables false

/-- the answer of the reader's inst -/
def TdIAns (w : World) (S : Nat → Prop) (rb : Nat) (all : List ByteArray) (R : PInst × List ByteArray × Bool) (e : Ending) (w' : World) : Prop :=
  ∃ B c, e = .returned (.agg #[.int .i64 R.1.op, .int .i64 R.1.x, .int .i64 R.1.y, .int .i64 R.1.arg, .slice B R.1.rs.length c]) ∧ w'.ownsRow w.heap.size 50 2 (.slice B R.1.rs.length c) R.1.rs.length (pairv R.1.rs) ∧ TdR w' S rb all R.2.1 R.2.2 ∧ Upd (fun b => b = rb) w w'
theorem TdR.alloc {w : World} {S : Nat → Prop} {rb : Nat} {all rest : List ByteArray} {bad : Bool} (h : TdR w S rb all rest bad) (o : Obj) : TdR (w.alloc o) S rb all rest bad := h.upd ((Upd.refl Nob w).alloc o) not_nob (fun _ _ => not_nob)
theorem TdR.lt {w : World} {S : Nat → Prop} {rb : Nat} {all rest : List ByteArray} {bad : Bool} (h : TdR w S rb all rest bad) : rb < w.heap.size := by
  obtain ⟨A, c, k, hc, -⟩ := h.at_
  exact hc.lt
theorem five_td {w : World} {S : Nat → Prop} {rb b : Nat} {all rest : List ByteArray} {bad : Bool} (h : TdR w S rb all rest bad) (hb : ¬ rb = b) (hS : ∀ k, S k → ¬ k = b) (v0 v1 v2 v3 v4 : Value) : TdR (five w b v0 v1 v2 v3 v4) S rb all rest bad :=
  h.upd (F := fun k => k = b) (((((Upd.refl (fun k => k = b) w).setCell ⟨b, 0, none⟩ v0 (fun _ => rfl)).setCell ⟨b, 1, none⟩ v1 (fun _ => rfl)).setCell ⟨b, 2, none⟩ v2 (fun _ => rfl)).setCell ⟨b, 3, none⟩ v3 (fun _ => rfl) |>.setCell ⟨b, 4, none⟩ v4 (fun _ => rfl)) hb hS
set_option maxRecDepth 100000 in
set_option maxHeartbeats 4000000 in
theorem rdInst_t (w : World) (S : Nat → Prop) (rb : Nat) (all rest : List ByteArray) (bad : Bool) (h : TdR w S rb all rest bad) (hS : ∀ b, S b → b < w.heap.size) :
    Calls Tryd.prog 27 #[.pointer (some ⟨rb, 0, none⟩), .bool true] w (TdIAns w S rb all (instT bad rest)) := by
  have hrb := h.lt
  have C0 := Cells.new w 48 #[.int .i64 0, .int .i64 0, .int .i64 0, .int .i64 0, .slice none 0 0]
  have hU : Upd Nob w (w.alloc (.cells #[.int .i64 0, .int .i64 0, .int .i64 0, .int .i64 0, .slice none 0 0] 48)) := (Upd.refl Nob w).alloc _
  have H := hideP (h.alloc (.cells #[.int .i64 0, .int .i64 0, .int .i64 0, .int .i64 0, .slice none 0 0] 48))
  have HS := hideP hS
  obtain ⟨o1, o2, o4⟩ := opT_in (b := bad) (r := rest)
  have hlen := h.rest_
  have hfew := h.few
  generalize hP : TdIAns w S rb all (instT bad rest) = P
  have HP := hideP hP
  clear hP h hS
  go_enter Tryd.func27, Tryd.ntmps27
  go_upto_region 1 with fail
  generalize w.alloc (.cells #[.int .i64 0, .int .i64 0, .int .i64 0, .int .i64 0, .slice none 0 0] 48) = w2 at *
  have HC0 := hideP C0
  have HU := hideP hU
  have hw2 := C0.lt
  clear C0 hU
  generalize hO : opT bad rest = O at *
  obtain ⟨ov, r0, b0⟩ := O
  simp only at o1 o2 o4
  have HO := hideP hO
  clear hO
  go_upto_region 2 with (go_at_call 53; refine (op_t w2 S rb all rest bad H.out).mono ?_; rw [HO.out]; rintro e w3 ⟨rfl, hR3, hU3⟩)
  have HR3 := hideP hR3
  have HU3 := hideP (HU.out.mono (G := fun b => b = rb) (fun _ _ h => absurd h not_nob) |>.trans hU3 (fun _ _ h => h))
  have HC3 := hideP (HC0.out.upd hU3 (by omega))
  have hw3 := HC3.out.lt
  clear hR3 hU3 HC0 HU H
  by_cases hbad : ov < 1 ∨ 7 < ov
  · obtain ⟨A, c, k, hc, -⟩ := HR3.out.at_
    have c3 := hc.cellv (i := 0 + 3) rfl
    have f3 := hc.frozen (0 + 3)
    have d0 := HC3.out.cellv (i := 0) rfl
    have d1 := HC3.out.cellv (i := 0 + 1) rfl
    have d2 := HC3.out.cellv (i := 0 + 2) rfl
    have d3 := HC3.out.cellv (i := 0 + 3) rfl
    have d4 := HC3.out.cellv (i := 0 + 4) rfl
    have g0 := HC3.out.frozen 0
    have g1 := HC3.out.frozen (0 + 1)
    have g2 := HC3.out.frozen (0 + 2)
    have g3 := HC3.out.frozen (0 + 3)
    have g4 := HC3.out.frozen (0 + 4)
    have hn : ¬ rb = w.heap.size := by omega
    have hn2 : ¬ w.heap.size = rb := by omega
    clear hc
    have eI : instT bad rest = (⟨0, 0, 0, 0, []⟩, r0, true) := by unfold instT; rw [HO.out]; simp only; rw [if_pos hbad]
    have EI := hideP eI
    clear eI
    have HRb := hideP (HR3.out.flag true)
    have HCb := hideP (HC3.out.far ⟨rb, 3, none⟩ (.bool true) hn2)
    have HUb := hideP (HU3.out.setCell ⟨rb, 3, none⟩ (.bool true) (fun _ => rfl))
    by_cases h1 : ov < 1
    · go_wp2_with fail
      refine rdi_end _ _ _ _ _ _ _ _ _ rfl rfl (five_cells HCb.out _ _ _ _ _) ?_
      rw [← HP.out, EI.out]
      exact ⟨none, 0, rfl, World.ownsRow_nil _ _ _ _, five_td HRb.out hn (fun k hk e => by have := HS.out k hk; omega) _ _ _ _ _, five_updF HUb.out (Nat.lt_irrefl _) _ _ _ _ _⟩
    · have h7 : 7 < ov := by omega
      go_wp2_with fail
      refine rdi_end _ _ _ _ _ _ _ _ _ rfl rfl (five_cells HCb.out _ _ _ _ _) ?_
      rw [← HP.out, EI.out]
      exact ⟨none, 0, rfl, World.ownsRow_nil _ _ _ _, five_td HRb.out hn (fun k hk e => by have := HS.out k hk; omega) _ _ _ _ _, five_updF HUb.out (Nat.lt_irrefl _) _ _ _ _ _⟩
  have p1 : 1 ≤ ov := by omega
  have p7 : ov ≤ 7 := by omega
  have hmm : manyI ov ≤ 2 := by unfold manyI; split; omega; split <;> omega
  have EI := hideP (show instT bad rest = if ov = 1 then
    (mkI 1 ((numsT 2 b0 r0).1 ++ (rngT (2 * ((numsT 2 b0 r0).1.getD 1 0).toNat) (numsT 2 b0 r0).2.2 (numsT 2 b0 r0).2.1).1), (rngT (2 * ((numsT 2 b0 r0).1.getD 1 0).toNat) (numsT 2 b0 r0).2.2 (numsT 2 b0 r0).2.1).2)
    else (mkI ov (numsT (manyI ov) b0 r0).1, (numsT (manyI ov) b0 r0).2) from by unfold instT; rw [HO.out]; simp only; rw [if_neg hbad])
  clear hbad
  obtain ⟨j0, hj0, hy0, hy1, hy2⟩ := info_parts rinfo_int
  obtain ⟨m, hm⟩ : ∃ m, manyI ov = m := ⟨_, rfl⟩
  have HM := hideP hm
  rw [hm] at hmm
  clear hm
  go_upto_region 7 with (go_at_call 54; refine (many_any w3 ov p1 p7).mono ?_; rw [HM.out]; rintro e w4 ⟨rfl, hw4⟩; subst hw4)
  go_wp2_with fail
  go_loopg [6, 8] m (fun gk v6 v8 wr => ∃ (i : Nat) (acc : List Int) (A : Option Addr) (c : Nat) (r : List ByteArray) (b : Bool), i + gk = m ∧ v8 = .int .i64 (i : Int) ∧ v6 = .slice A i c ∧ acc.length = i ∧ wr.ownsRow (w.heap.size + 1) 3 1 (.slice A i c) i (intv acc) ∧ TdR wr S rb all r b ∧ numsT m b0 r0 = (acc ++ (numsT (m - i) b r).1, (numsT (m - i) b r).2) ∧ Cells wr w.heap.size 48 #[.int .i64 0, .int .i64 0, .int .i64 0, .int .i64 0, .slice none 0 0] ∧ Upd (fun b => b = rb) w wr)
  case atStart => exact ⟨0, [], none, 0, r0, b0, by omega, rfl, rfl, rfl, World.ownsRow_nil _ _ _ _, HR3.out, rfl, HC3.out, HU3.out⟩
  case round =>
    obtain ⟨i, acc, A, c, r, b, hk, rfl, rfl, hal, hO, hR, hN, hC, hU⟩ := hrel
    have HK := hideP hk
    have HOw := hideP hO
    have HR := hideP hR
    have HN := hideP hN
    have HC := hideP hC
    have HU := hideP hU
    have hs1 := hC.lt
    clear hk hO hR hN hC hU
    by_cases hlt : i < m
    · have q1 : (i : Int) < (m : Int) := by omega
      obtain ⟨v, r5, b5, hX⟩ : ∃ v r5 b5, nxtT b r = (v, r5, b5) := ⟨_, _, _, rfl⟩
      have HX := hideP hX
      clear hX
      go_upto_region 11 with (go_at_call 26; refine (next_t wr S rb all r b HR.out).mono ?_; rw [HX.out]; rintro e w5 ⟨rfl, hR5, hU5⟩)
      have hrb0 : ¬ w.heap.size = rb := by omega
      have HR5 := hideP hR5
      have HU5 := hideP (HU.out.trans hU5 (fun _ _ h => h))
      have HC5 := hideP (HC.out.upd hU5 hrb0)
      have HO5 := hideP (own_upd HOw.out hU5 (fun b hb (e : b = rb) => by have := own_lo HOw.out hb; omega))
      have hs5 := HC5.out.lt
      clear hR5 hU5
      go_wp2_with (at_builtin; refine wpList_append_lies _ rfl _ _ 71 rfl (w.heap.size + 1) 3 j0 _ 1 8 Tryd.underlying71 hj0 hy0 hy1 hy2 rfl (by decide) (.slice A (i) c) (i) (intv acc) rfl (own_upd HO5.out ((Upd.refl Nob w5).alloc _) (fun _ _ => not_nob)) ⟨w5.heap.size, 0, none⟩ 1 1 [.int .i64 v] rfl rfl (World.news_of_block (cs := #[.int .i64 v]) (t := 3) (fr := (0, 0)) (heap_alloc_new w5 _)) (by intro u hu; simp at hu; rcases hu with rfl; rfl) (by decide) (by unfold maxLen; omega) (by omega) (by simp; omega) (w5.heap.size + 1) (by simp) ?_)
      intro gN cN wN oN gr hat hltN
      have OB := fun b (hb : (Value.slice A i c).ownBlock = some b) => own_lo HO5.out hb
      have UN := (HU5.out.alloc (.cells #[.int .i64 v] 3)).grown gr (fun b hb h => absurd h (by have := OB b hb; omega))
      have UB := ((Upd.refl (fun b => (Value.slice A i c).ownBlock = some b) w5).alloc (.cells #[.int .i64 v] 3)).grown gr (fun b hb _ => hb)
      have HCN := hideP (HC5.out.upd UB (fun h => by have := OB _ h; omega))
      have HRN := hideP (HR5.out.upd UB (fun h => by have := OB _ h; omega) (fun b hb h => by have h1 := OB b h; have h2 := HS.out b hb; omega))
      have e1 : intv acc ++ [.int .i64 v] = intv (acc ++ [v]) := by rw [intv_append]; rfl
      rw [e1] at oN
      have HON := hideP oN
      have HUN := hideP UN
      clear oN gr hat UN UB e1
      go_wp2_with fail
      go_roundg (m - (i + 1))
      case measure => have := HK.out; omega
      case rel => exact ⟨i + 1, acc ++ [v], some ⟨gN, 0, none⟩, cN, r5, b5, by have := HK.out; omega, by go_num, rfl, by simp [hal], HON.out, HRN.out, by rw [HN.out, show m - i = (m - (i + 1)) + 1 by omega, numsT_step HX.out]; simp, HCN.out, HUN.out⟩
    have him : i = m := by have := HK.out; omega
    subst him
    have hN2 := HN.out
    rw [Nat.sub_self] at hN2
    have HN2 := hideP (show numsT i b0 r0 = (acc, r, b) from by rw [hN2]; simp [numsT])
    clear hN2
    have q1 : ¬ (i : Int) < (i : Int) := by omega
    by_cases h1 : ov = 1
    · subst h1
      have hm2 : (2 : Nat) = i := HM.out
      obtain ⟨a0, a1, rfl⟩ : ∃ a0 a1, acc = [a0, a1] := by
        match acc, hal with
        | [a, b], _ => exact ⟨a, b, rfl⟩
        | [], h => simp at h; omega
        | [a], h => simp at h; omega
        | a :: b :: c :: r, h => simp at h; omega
      subst hm2
      have hNI := (numsT_in 2 b0 r0).1
      rw [HN2.out] at hNI
      have ha1 := hNI a1 (by simp)
      unfold Num36 at ha1
      have HE2 := hideP (show instT bad rest = (mkI 1 ([a0, a1] ++ (rngT (2 * a1.toNat) b r).1), (rngT (2 * a1.toNat) b r).2) from by rw [EI.out, if_pos rfl, HN2.out]; rfl)
      have hrl := HR.out.rest_
      have hrf := HR.out.few
      clear hNI EI HN HN2
      obtain ⟨m2, hm2⟩ : ∃ m2, m2 = 2 * a1.toNat := ⟨_, rfl⟩
      have hm2i : (m2 : Int) = 2 * a1 := by omega
      rw [← hm2] at HE2
      clear hm2
      obtain ⟨b1, hb1⟩ : ∃ b1, b1 = b := ⟨_, rfl⟩
      obtain ⟨r1, hr1⟩ : ∃ r1, r1 = r := ⟨_, rfl⟩
      rw [← hb1, ← hr1] at HE2
      have hb1 := hideP hb1
      have hr1 := hideP hr1
      go_wp2_with fail
      go_loopg [6, 10] m2 (fun gk v6 v10 wr => ∃ (i : Nat) (x : List Int) (A : Option Addr) (c : Nat) (r : List ByteArray) (b : Bool), i + gk = m2 ∧ v10 = .int .i64 (i : Int) ∧ v6 = .slice A (2 + i) c ∧ x.length = i ∧ wr.ownsRow (w.heap.size + 1) 3 1 (.slice A (2 + i) c) (2 + i) (intv (a0 :: a1 :: x)) ∧ TdR wr S rb all r b ∧ rngT m2 b1 r1 = (x ++ (rngT (m2 - i) b r).1, (rngT (m2 - i) b r).2) ∧ Cells wr w.heap.size 48 #[.int .i64 0, .int .i64 0, .int .i64 0, .int .i64 0, .slice none 0 0] ∧ Upd (fun b => b = rb) w wr ∧ (b = false → i + r.length ≤ 8388608) ∧ i ≤ 8388609)
      case atStart => exact ⟨0, [], A, c, r, b, by omega, rfl, rfl, rfl, HOw.out, HR.out, by rw [hb1.out, hr1.out]; simp, HC.out, HU.out, fun _ => by omega, by omega⟩
      case round =>
        clear HOw HR HC HU hs1 hb1 hr1 hrl hrf
        obtain ⟨i, x, A, c, r, b, hk, rfl, rfl, hxl, hO, hR, hG, hC, hU, hbd, hi8⟩ := hrel
        have HK := hideP hk
        have HOw := hideP hO
        have HR := hideP hR
        have HG := hideP hG
        have HC := hideP hC
        have HU := hideP hU
        have HBD := hideP hbd
        have hs1 := hC.lt
        obtain ⟨gl, cap, hv, hbl, -⟩ := World.ownsRow.form hO (by omega)
        have hA : A = some ⟨gl, 0, none⟩ := by injection hv
        subst hA
        have l1 : wr.cell? ⟨gl, 1, none⟩ = some (.int .i64 a1) := by
          rw [World.ownsRow.cellAt hO 1 (by omega)]
          rfl
        obtain ⟨LA, Lc, Lk, hrc, -⟩ := hR.at_
        have c3 := hrc.cellv (i := 0 + 3) rfl
        have g2 : (1 : Int) < ((2 + i : Nat) : Int) := by omega
        have w1 : IntKind.i64.wrap (2 * a1) = 2 * a1 := by rw [IntKind.wrap_i64]; omega
        clear hk hO hR hG hC hU hbd hv hrc
        have hend : (i < m2 → b = true) → rngT m2 b1 r1 = (x, r, b) := fun h => by
          rw [HG.out]
          by_cases hlt : i < m2
          · rw [h hlt, rngT_bad]
            simp
          · rw [show m2 - i = 0 by omega]
            simp [rngT]
        have HEND := hideP hend
        clear hend
        obtain ⟨n2, hn2⟩ : ∃ n2, n2 = 2 + i := ⟨_, rfl⟩
        rw [← hn2] at HOw g2 ⊢
        have hlt2 : (a0 :: a1 :: x).length = n2 := by simp; omega
        by_cases hlt : i < m2
        · have q2 : (i : Int) < 2 * a1 := by omega
          cases b with
          | true =>
            have hE := HE2.out
            rw [HEND.out (fun _ => rfl)] at hE
            have HE3 := hideP (show instT bad rest = (mkI 1 (a0 :: a1 :: x), r, true) from hE)
            clear hE
            have HOx := hideP (show wr.ownsRow (w.heap.size + 1) 3 1 (.slice (some ⟨gl, 0, none⟩) (a0 :: a1 :: x).length c) (a0 :: a1 :: x).length (intv (a0 :: a1 :: x)) from by rw [hlt2]; exact HOw.out)
            rw [← hlt2]
            clear hlt2 hn2
            generalize hll : a0 :: a1 :: x = l at *
            have hl2 : 2 ≤ l.length := by rw [← hll]; simp
            have hl8 : l.length ≤ 100000000 := by rw [← hll]; simp; omega
            clear hll HOw
            go_upto_region 19 with (go_at_call 55; refine (refi_any wr _ (some ⟨gl, 0, none⟩) c 1 l (Reads.of_own HOx.out) (fun b hb => own_blt HOx.out hb) hl8 (by omega) (by omega) (by rw [show manyI 1 = 2 from rfl]; exact hl2)).mono ?_; rintro e w7 ⟨B, cc, rfl, hO7, hU7⟩; have C7 := HC.out.upd hU7 not_nob; have f0 := C7.frozen 0; have f1 := C7.frozen (0 + 1); have f2 := C7.frozen (0 + 2); have f3 := C7.frozen (0 + 3); have f4 := C7.frozen (0 + 4); have d0 := C7.cellv (i := 0) rfl; have d1 := C7.cellv (i := 0 + 1) rfl; have d2 := C7.cellv (i := 0 + 2) rfl; have d3 := C7.cellv (i := 0 + 3) rfl; have d4 := C7.cellv (i := 0 + 4) rfl)
            refine rdi_end _ _ _ _ _ _ _ _ _ rfl rfl (five_cells C7 _ _ _ _ _) ?_
            rw [← HP.out, HE3.out]
            exact ⟨B, cc, rfl, five_own (own_base hO7 (fun g hg => by have := own_lo hO7 hg; omega)) (own_ne hO7 C7 (by decide)) _ _ _ _ _, five_td (HR.out.upd hU7 not_nob (fun _ _ => not_nob)) (by omega) (fun k hk e => by have := HS.out k hk; omega) _ _ _ _ _, five_updF (HU.out.trans hU7 (fun _ _ h => absurd h not_nob)) (Nat.lt_irrefl _) _ _ _ _ _⟩
          | false =>
            have hn28 : n2 ≤ 9000000 := by omega
            have HNN := hideP hn2
            have HLT := hideP hlt2
            clear hn2 hlt2
            obtain ⟨v, r5, b5, hX⟩ : ∃ v r5 b5, nxtT false r = (v, r5, b5) := ⟨_, _, _, rfl⟩
            have HX := hideP hX
            clear hX
            go_upto_region 17 with (go_at_call 26; refine (next_t wr S rb all r false HR.out).mono ?_; rw [HX.out]; rintro e w5 ⟨rfl, hR5, hU5⟩)
            have hrb0 : ¬ w.heap.size = rb := by omega
            have HR5 := hideP hR5
            have HU5 := hideP (HU.out.trans hU5 (fun _ _ h => h))
            have HC5 := hideP (HC.out.upd hU5 hrb0)
            have HO5 := hideP (own_upd HOw.out hU5 (fun b hb (e : b = rb) => by have := own_lo HOw.out hb; omega))
            have hs5 := HC5.out.lt
            clear hR5 hU5
            go_wp2_with (at_builtin; refine wpList_append_lies _ rfl _ _ 71 rfl (w.heap.size + 1) 3 j0 _ 1 8 Tryd.underlying71 hj0 hy0 hy1 hy2 rfl (by decide) (.slice (some ⟨gl, 0, none⟩) (n2) c) (n2) (intv (a0 :: a1 :: x)) rfl (own_upd HO5.out ((Upd.refl Nob w5).alloc _) (fun _ _ => not_nob)) ⟨w5.heap.size, 0, none⟩ 1 1 [.int .i64 v] rfl rfl (World.news_of_block (cs := #[.int .i64 v]) (t := 3) (fr := (0, 0)) (heap_alloc_new w5 _)) (by intro u hu; simp at hu; rcases hu with rfl; rfl) (by decide) (by unfold maxLen; omega) (by omega) (by simp; omega) (w5.heap.size + 1) (by simp) ?_)
            intro gN cN wN oN gr hat hltN
            have OB := fun b (hb : (Value.slice (some ⟨gl, 0, none⟩) n2 c).ownBlock = some b) => own_lo HO5.out hb
            have UN := (HU5.out.alloc (.cells #[.int .i64 v] 3)).grown gr (fun b hb h => absurd h (by have := OB b hb; omega))
            have UB := ((Upd.refl (fun b => (Value.slice (some ⟨gl, 0, none⟩) n2 c).ownBlock = some b) w5).alloc (.cells #[.int .i64 v] 3)).grown gr (fun b hb _ => hb)
            have HCN := hideP (HC5.out.upd UB (fun h => by have := OB _ h; omega))
            have HRN := hideP (HR5.out.upd UB (fun h => by have := OB _ h; omega) (fun b hb h => by have h1 := OB b h; have h2 := HS.out b hb; omega))
            have e1 : intv (a0 :: a1 :: x) ++ [.int .i64 v] = intv (a0 :: a1 :: (x ++ [v])) := by simp [intv]
            rw [e1] at oN
            have e2 : n2 + 1 = 2 + (i + 1) := by have := HNN.out; omega
            rw [e2] at oN ⊢
            have HON := hideP oN
            have HUN := hideP UN
            have HBN := hideP (show b5 = false → (i + 1) + r5.length ≤ 8388608 from fun e => by subst e; have h1 := nxtT_less HX.out; have h2 := HBD.out (by first | rfl | trivial); omega)
            have hi9 : i + 1 ≤ 8388609 := by have h2 := HBD.out (by first | rfl | trivial); omega
            clear oN gr hat UN UB e1 e2
            go_wp2_with fail
            go_roundg (m2 - (i + 1))
            case measure => have := HK.out; omega
            case rel => exact ⟨i + 1, x ++ [v], some ⟨gN, 0, none⟩, cN, r5, b5, by have := HK.out; omega, by go_num, rfl, by simp [hxl], HON.out, HRN.out, by rw [HG.out, show m2 - i = (m2 - (i + 1)) + 1 by omega, rngT_step HX.out]; simp, HCN.out, HUN.out, HBN.out, hi9⟩
        · have q2 : ¬ (i : Int) < 2 * a1 := by omega
          have hE := HE2.out
          rw [HEND.out (fun h => absurd h hlt)] at hE
          have HE3 := hideP (show instT bad rest = (mkI 1 (a0 :: a1 :: x), r, b) from hE)
          clear hE
          have HOx := hideP (show wr.ownsRow (w.heap.size + 1) 3 1 (.slice (some ⟨gl, 0, none⟩) (a0 :: a1 :: x).length c) (a0 :: a1 :: x).length (intv (a0 :: a1 :: x)) from by rw [hlt2]; exact HOw.out)
          rw [← hlt2]
          clear hlt2 hn2
          generalize hll : a0 :: a1 :: x = l at *
          have hl2 : 2 ≤ l.length := by rw [← hll]; simp
          have hl8 : l.length ≤ 100000000 := by rw [← hll]; simp; omega
          clear hll HOw
          go_upto_region 19 with (go_at_call 55; refine (refi_any wr _ (some ⟨gl, 0, none⟩) c 1 l (Reads.of_own HOx.out) (fun b hb => own_blt HOx.out hb) hl8 (by omega) (by omega) (by rw [show manyI 1 = 2 from rfl]; exact hl2)).mono ?_; rintro e w7 ⟨B, cc, rfl, hO7, hU7⟩; have C7 := HC.out.upd hU7 not_nob; have f0 := C7.frozen 0; have f1 := C7.frozen (0 + 1); have f2 := C7.frozen (0 + 2); have f3 := C7.frozen (0 + 3); have f4 := C7.frozen (0 + 4); have d0 := C7.cellv (i := 0) rfl; have d1 := C7.cellv (i := 0 + 1) rfl; have d2 := C7.cellv (i := 0 + 2) rfl; have d3 := C7.cellv (i := 0 + 3) rfl; have d4 := C7.cellv (i := 0 + 4) rfl)
          refine rdi_end _ _ _ _ _ _ _ _ _ rfl rfl (five_cells C7 _ _ _ _ _) ?_
          rw [← HP.out, HE3.out]
          exact ⟨B, cc, rfl, five_own (own_base hO7 (fun g hg => by have := own_lo hO7 hg; omega)) (own_ne hO7 C7 (by decide)) _ _ _ _ _, five_td (HR.out.upd hU7 not_nob (fun _ _ => not_nob)) (by omega) (fun k hk e => by have := HS.out k hk; omega) _ _ _ _ _, five_updF (HU.out.trans hU7 (fun _ _ h => absurd h not_nob)) (Nat.lt_irrefl _) _ _ _ _ _⟩
    · have HE2 := hideP (show instT bad rest = (mkI ov acc, r, b) from by rw [EI.out, if_neg h1, HM.out, HN2.out])
      have hmle : manyI ov ≤ acc.length := by rw [HM.out]; omega
      have hl8 : acc.length ≤ 100000000 := by omega
      clear EI HN HN2 HM
      subst hal
      go_upto_region 19 with (go_at_call 55; refine (refi_any wr _ A c ov acc (Reads.of_own HOw.out) (fun b hb => own_blt HOw.out hb) hl8 (by omega) (by omega) hmle).mono ?_; rintro e w7 ⟨B, cc, rfl, hO7, hU7⟩; have C7 := HC.out.upd hU7 not_nob; have f0 := C7.frozen 0; have f1 := C7.frozen (0 + 1); have f2 := C7.frozen (0 + 2); have f3 := C7.frozen (0 + 3); have f4 := C7.frozen (0 + 4); have d0 := C7.cellv (i := 0) rfl; have d1 := C7.cellv (i := 0 + 1) rfl; have d2 := C7.cellv (i := 0 + 2) rfl; have d3 := C7.cellv (i := 0 + 3) rfl; have d4 := C7.cellv (i := 0 + 4) rfl)
      refine rdi_end _ _ _ _ _ _ _ _ _ rfl rfl (five_cells C7 _ _ _ _ _) ?_
      rw [← HP.out, HE2.out]
      exact ⟨B, cc, rfl, five_own (own_base hO7 (fun g hg => by have := own_lo hO7 hg; omega)) (own_ne hO7 C7 (by decide)) _ _ _ _ _, five_td (HR.out.upd hU7 not_nob (fun _ _ => not_nob)) (by omega) (fun k hk e => by have := HS.out k hk; omega) _ _ _ _ _, five_updF (HU.out.trans hU7 (fun _ _ h => absurd h not_nob)) (Nat.lt_irrefl _) _ _ _ _ _⟩
end Go.Proofs.YtdbdokjlcdogiaaDoor
