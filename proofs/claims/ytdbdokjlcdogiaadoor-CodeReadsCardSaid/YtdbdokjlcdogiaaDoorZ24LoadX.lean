/-
  LoadG, LoadX, put together.
-/
import Derived.Test.YtdbdokjlcdogiaaDoorZ23LoadW
import Derived.Test.YtdbdokjlcdogiaaDoorZ22Load7

/-
  code.Load: the way where the sum fits, and all ways together. Printed by tools/mkG.py.
-/
namespace Go.Proofs.YtdbdokjlcdogiaaDoor
open Go.RowKit
set_option linter.unusedVariables false

set_option maxRecDepth 100000 in
set_option maxHeartbeats 4000000 in
theorem load_good (w : World) (S : Nat → Prop) (ad : Addr) (n m c : Nat) (bs : List Int) (h : Reads w S 1 (some ad) n (bytv bs)) (h8 : ∀ x ∈ bs, 0 ≤ x ∧ x ≤ 255) (hS : ∀ b, S b → b < w.heap.size) (hn : n ≤ 8388608) (hc : n ≤ c) (hm : n = m + 4) (hm4 : 4 ≤ m) (hh : bs.take 4 = [72, 82, 80, 71]) (hs : sumV (bs.take m) = four (bs.drop m)) : Calls Tryd.prog 15 #[.slice (some ad) n c] w (LoadAns w (bodyB ((bs.take m).drop 4)) 101) := by
  have HS := hideP hs
  clear hs
  have k10 : ¬ c - 4 = 0 := by omega
  generalize hP : LoadAns w (bodyB ((bs.take m).drop 4)) 101 = P
  have HP := hideP hP
  clear hP
  have hl : ¬ (8388608 : Int) < (n : Int) := by omega
  have g8 : (8 : Int) ≤ (n : Int) := by omega
  have hce : (4 : Int) ≤ (c : Int) := by omega
  have k4 : IntKind.i64.wrap ((n : Int) - 4) = (m : Int) := by rw [IntKind.wrap_i64]; omega
  have k5 : (m : Int) ≤ (n : Int) := by omega
  have k6 : (m : Int) ≤ (c : Int) := by omega
  have k7 : ¬ c - m = 0 := by omega
  have k8 : n - m = 4 := by omega
  have HM := hideP hm
  have HH := hideP hh
  have H8 := hideP h8
  have HSS := hideP hS
  clear hm hh h8 hS
  have hmf : ∀ (fn : Fn) (first cap : Array Value) (w : World), (Instr.makeFunc fn first cap).run Tryd.prog w = .ok (.func fn first cap) w := fun _ _ _ _ => rfl
  have C0 : Cells ((w.alloc (.cells #[.slice none 0 0, .int .i64 0, .int .i64 0] 24)).alloc (.cells #[.int .i64 0] 31)) w.heap.size 24 #[.slice none 0 0, .int .i64 0, .int .i64 0] := (Cells.new _ _ _).alloc _
  have C1 := Cells.new (w.alloc (.cells #[.slice none 0 0, .int .i64 0, .int .i64 0] 24)) 31 #[.int .i64 0]
  rw [World.size_alloc] at C1
  have hU : Upd Nob w ((w.alloc (.cells #[.slice none 0 0, .int .i64 0, .int .i64 0] 24)).alloc (.cells #[.int .i64 0] 31)) := ((Upd.refl Nob w).alloc _).alloc _
  have HR := hideP (h.upd hU (fun _ _ => not_nob))
  clear h
  go_enter_defers Tryd.func15, Tryd.ntmps15
  go_upto_region 4 with fail
  generalize ((w.alloc (.cells #[.slice none 0 0, .int .i64 0, .int .i64 0] 24)).alloc (.cells #[.int .i64 0] 31)) = w2 at *
  have HC0 := hideP C0
  have HC1 := hideP C1
  have HU := hideP hU
  clear C0 C1 hU
  clear hmf
  have hcv := head_conv (c := c) HR.out H8.out (by omega)
  go_upto_region 5 with (go_at_call 31; refine (need_is _ _ (by simp [head_eq' bs H8.out, HH.out])).mono ?_; rintro e w3 ⟨rfl, hw3⟩; subst hw3)
  clear hcv
  go_region
  have HRT := hideP ((reads_take (m := m) HR.out (by omega)).upd ((Upd.refl Nob w3).drew) (fun _ _ => not_nob))
  have H8T := hideP (show ∀ x ∈ bs.take m, 0 ≤ x ∧ x ≤ 255 from fun x hx => H8.out x (List.mem_of_mem_take hx))
  go_upto_region 7 with (go_at_call 32; refine (sum_up _ S (some ad) m c (bs.take m) HRT.out H8T.out (by omega)).mono ?_; rintro e w5 ⟨rfl, hU5⟩)
  have HU5 := hideP (((Upd.refl Nob w3).drew).trans hU5 (fun _ _ h => h))
  clear hU5 HRT
  obtain ⟨t0, t1, t2, t3, ht, q0, q1, q2, q3⟩ := tail_cells (m := m) (by rw [← HM.out]; exact HR.out.upd HU5.out (fun _ _ => not_nob)) H8.out
  have HT := hideP ht
  clear ht
  refine load_reg7 _ w5 (ad.add m) (c - m) (sumV (bs.take m)) t0 t1 t2 t3 _ _ _ _ _ _ _ _ _ _ _ _ _ _ _ _ _ _ _ _ _ _ _ _ _ _ _ _ _ _ _ _ _ _ _ _ _ _ _ _ _ _ _ _ _ _ _ _ _ _ _ _ _ _ _ _ _ _ _ _ _ _ _ _ _ _ _ _ _ _ _ _ _ _ _ _ _ _ _ _ _ _ _ _ _ _ _ _ _ _ _ _ _ _ _ _ _ _ _ q0.1 q1.1 q2.1 q3.1 q0.2 q1.2 q2.2 q3.2 (fun h => absurd (by have := HS.out; rw [HT.out] at this; exact this) h) (fun _ => ?_)
  intros
  have HUW := hideP (HU.out.trans HU5.out.drew (fun _ _ h => h))
  have HC05 := hideP (HC0.out.upd HU5.out.drew not_nob)
  have HC15 := hideP (HC1.out.upd HU5.out.drew not_nob)
  have HRB := hideP ((reads_drop (reads_take (m := m) HR.out (by omega)) (k := 4) (by omega)).upd HU5.out.drew (fun _ _ => not_nob))
  clear q0 q1 q2 q3 HT HS HC0 HC1 HU HU5 HR
  generalize w5.drew = w6 at *
  refine (‹∀ (a : Act) (w : World), Code.wp _ _ _ a w → _›) _ _ (load_rest P w w6 S ad m c ((bs.take m).drop 4) _ _ _ _ _ _ _ _ _ _ _ _ _ _ _ _ _ _ _ _ _ _ _ _ _ _ _ _ _ _ _ _ _ _ _ _ _ _ _ _ _ _ _ _ _ _ _ _ _ _ _ _ _ _ _ _ _ _ _ _ _ _ _ _ _ _ _ _ _ _ _ _ _ _ _ _ _ _ _ _ _ _ _ _ _ _ _ _ _ _ _ _ _ _ _ _ _ _ rfl HRB.out (fun x hx => H8T.out x (List.mem_of_mem_drop hx)) (by omega) (by omega) (by omega) k10 HSS.out HC05.out HC15.out HUW.out (fun hb w' hv => by rw [← HP.out, hb]; exact ⟨rfl, hv⟩) (fun is start caps A c' gs w' hb hpw hv => by rw [← HP.out, hb]; exact ⟨A, c', gs, rfl, hpw, hv⟩))
end Go.Proofs.YtdbdokjlcdogiaaDoor

/-
  The walk of code.Load, whatever the bytes.
-/
namespace Go.Proofs.YtdbdokjlcdogiaaDoor
open Go.RowKit
set_option linter.unusedVariables false

/-- P10.3: the program, and the error where there is none -/
def loadX (bs : List Int) : Option (List PInst × Int × Int) := if 8388608 < bs.length then none else loadB bs
def loadC (bs : List Int) : Int := if 8388608 < bs.length then 2 else 101
set_option maxRecDepth 100000 in
set_option maxHeartbeats 1000000 in
theorem load_over (w : World) (A : Option Addr) (n c : Nat) (hn : 8388608 < n) : Calls Tryd.prog 15 #[.slice A n c] w (LoadAns w none 2) := by
  have hl : (8388608 : Int) < (n : Int) := by omega
  have C0 : Cells ((w.alloc (.cells #[.slice none 0 0, .int .i64 0, .int .i64 0] 24)).alloc (.cells #[.int .i64 0] 31)) w.heap.size 24 #[.slice none 0 0, .int .i64 0, .int .i64 0] := (Cells.new _ _ _).alloc _
  have C1 := Cells.new (w.alloc (.cells #[.slice none 0 0, .int .i64 0, .int .i64 0] 24)) 31 #[.int .i64 0]
  rw [World.size_alloc] at C1
  have c0 := C0.cellv (i := 0) rfl
  have c1 := C0.cellv (i := 1) rfl
  have c2 := C0.cellv (i := 2) rfl
  have d0 := C1.cellv (i := 0) rfl
  have f0 := C0.frozen 0
  have f1 := C0.frozen 1
  have f2 := C0.frozen 2
  have g0 := C1.frozen 0
  have hU : Upd Nob w ((w.alloc (.cells #[.slice none 0 0, .int .i64 0, .int .i64 0] 24)).alloc (.cells #[.int .i64 0] 31)) := ((Upd.refl Nob w).alloc _).alloc _
  go_enter_defers Tryd.func15, Tryd.ntmps15
  go_wp2_with fail
  have D0 : Cells ((w.alloc (.cells #[.slice none 0 0, .int .i64 0, .int .i64 0] 24)).alloc (.cells #[.int .i64 2] 31)) w.heap.size 24 #[.slice none 0 0, .int .i64 0, .int .i64 0] := (Cells.new _ _ _).alloc _
  have D1 := Cells.new (w.alloc (.cells #[.slice none 0 0, .int .i64 0, .int .i64 0] 24)) 31 #[.int .i64 2]
  rw [World.size_alloc] at D1
  have hV : Upd Nob w ((w.alloc (.cells #[.slice none 0 0, .int .i64 0, .int .i64 0] 24)).alloc (.cells #[.int .i64 2] 31)) := ((Upd.refl Nob w).alloc _).alloc _
  generalize (w.alloc (.cells #[.slice none 0 0, .int .i64 0, .int .i64 0] 24)).alloc (.cells #[.int .i64 2] 31) = w2 at *
  have e0 := D0.cellv (i := 0) rfl
  have e1 := D0.cellv (i := 1) rfl
  have e2 := D0.cellv (i := 2) rfl
  have e3 := D1.cellv (i := 0) rfl
  exact ⟨_, by simp [results, Tryd.results15, go_sem, e0, e1, e2, e3], rfl, hV⟩
theorem load_any (w : World) (S : Nat → Prop) (A : Option Addr) (n c : Nat) (bs : List Int) (h : Reads w S 1 A n (bytv bs)) (h8 : ∀ x ∈ bs, 0 ≤ x ∧ x ≤ 255) (hS : ∀ b, S b → b < w.heap.size) (hc : n ≤ c) :
    Calls Tryd.prog 15 #[.slice A n c] w (LoadAns w (loadX bs) (loadC bs)) := by
  have hl : bs.length = n := by have := h.1; simpa [bytv] using this
  unfold loadX loadC
  by_cases hn : 8388608 < n
  · rw [if_pos (by omega), if_pos (by omega)]
    exact load_over w A n c hn
  rw [if_neg (by omega), if_neg (by omega)]
  have hn : n ≤ 8388608 := by omega
  by_cases h0 : n < 8
  · have e : loadB bs = none := by unfold loadB; rw [if_neg (by omega)]
    rw [e]
    exact load_short w S A n c bs h h8 hS hn hc h0
  obtain ⟨ad, rfl, -⟩ := h.2 (by omega)
  by_cases hh : ¬ bs.take 4 = [72, 82, 80, 71]
  · have e : loadB bs = none := by unfold loadB; rw [if_neg (fun k => hh k.2.1)]
    rw [e]
    exact load_head w S ad n c bs h h8 hS hn hc (by omega) hh
  have hh := Classical.not_not.1 hh
  have hm : n = (n - 4) + 4 := by omega
  have e4 : bs.length - 4 = n - 4 := by omega
  by_cases hs : ¬ sumV (bs.take (n - 4)) = four (bs.drop (n - 4))
  · have e : loadB bs = none := by unfold loadB; rw [if_neg (fun k => hs (by rw [← e4]; exact k.2.2))]
    rw [e]
    exact load_sum w S ad n (n - 4) c bs h h8 hS hn hc hm (by omega) hh hs
  have hs := Classical.not_not.1 hs
  have e : loadB bs = bodyB ((bs.take (n - 4)).drop 4) := by unfold loadB; rw [e4, if_pos ⟨by omega, hh, hs⟩]
  rw [e]
  exact load_good w S ad n (n - 4) c bs h h8 hS hn hc hm (by omega) hh hs
end Go.Proofs.YtdbdokjlcdogiaaDoor
