/-
  The walk of heronref11.Run.
-/
import Derived.Test.YtnkefclbchpafaaRefVisit
namespace Go.Proofs.Ytnkefclbchpafaa
open Go.RowKit
set_option linter.unusedVariables false

theorem Reads.lower {w : World} {S : Nat → Prop} {size n : Nat} {A : Option Addr} {xs : List Value} (h : Reads w S size A n xs) : Reads w (fun k => k < w.heap.size) size A n xs :=
  ⟨h.1, fun hn => by obtain ⟨ad, e, hb, hs', hc⟩ := h.2 hn; exact ⟨ad, e, hb, hb, hc⟩⟩
theorem InstsR.lower {w : World} {S : Nat → Prop} {A : Option Addr} {n : Nat} {is : List PInst} (h : InstsR w S A n is) : InstsR w (fun k => k < w.heap.size) A n is :=
  ⟨h.len, fun i x hx => by
    obtain ⟨ad, g, o, B, m, c, e, e2, hs, hg, hr, hi, hc⟩ := h.at_ i x hx
    exact ⟨ad, g, o, B, m, c, e, e2, hg, hg, ⟨hr.r.lower, hr.i, hr.n⟩, hi, hc⟩⟩
theorem InstsR.weaken {w : World} {S S' : Nat → Prop} {A : Option Addr} {n : Nat} {is : List PInst} (h : InstsR w S A n is) (hS : ∀ k, S k → S' k) : InstsR w S' A n is :=
  ⟨h.len, fun i x hx => by
    obtain ⟨ad, g, o, B, m, c, e, e2, hs, hg, hr, hi, hc⟩ := h.at_ i x hx
    exact ⟨ad, g, o, B, m, c, e, e2, hS _ hs, hg, ⟨hr.r.weaken hS, hr.i, hr.n⟩, hi, hc⟩⟩
theorem TextR.lower {w : World} {S : Nat → Prop} {A : Option Addr} {n : Nat} {xs : List Int} (h : TextR w S A n xs) : TextR w (fun k => k < w.heap.size) A n xs := ⟨h.r.lower, h.i, h.n⟩
theorem TextR.weaken {w : World} {S S' : Nat → Prop} {A : Option Addr} {n : Nat} {xs : List Int} (h : TextR w S A n xs) (hS : ∀ k, S k → S' k) : TextR w S' A n xs := ⟨h.r.weaken hS, h.i, h.n⟩

/-- the document's answer: what is found and Steps; the number of the refusal -/
def ansF (is : List PInst) (start caps : Int) (text : List Int) (a : Int) (anchored : Bool) : (Option (List Int × Int) × Nat) × Int :=
  if 4194304 < text.length then ((none, 0), 2) else if checkB is start caps = false then ((none, 0), 90) else if a < 0 ∨ (text.length : Int) < a then ((none, 0), 1)
  else (runF is start.toNat caps.toNat text a.toNat anchored, 0)
def RunPost (w : World) (m : Nat) (a : (Option (List Int × Int) × Nat) × Int) (e : Ending) (w' : World) : Prop :=
  ∃ FA fn fc wh, e = .returned (.tuple #[.agg #[.bool a.1.1.isSome, .slice FA fn fc, .int .i64 wh, .int .i64 (a.1.2 : Int)], .int .i64 a.2]) ∧ FoundR w' m a.1.1 FA fn wh ∧ Upd Nob w w'

/-- what the search holds between two places: the program's box, the answer's, the row of -1, the run's block, the threads -/
structure RunI (w0 w : World) (b g : Nat) (A : Option Addr) (c : Nat) (is : List PInst) (st : Int) (m : Nat) (T : Option Addr) (tc : Nat) (text : List Int) (N : Option Addr) (ths : List (Nat × List Int)) (fo : Option (List Int × Int)) (steps : Nat) : Prop where
  upd : Upd Nob w0 w
  lo : w0.heap.size ≤ b
  box : Cells w w0.heap.size 27 #[.slice A is.length c, .int .i64 st, .int .i64 m]
  res : Cells w (w0.heap.size + 1) 33 #[.bool false, .slice none 0 0, .int .i64 0, .int .i64 0]
  nn : CapR w (some ⟨g, 0, none⟩) m (List.replicate m (-1))
  run : ∃ v4 v5 v6 FA fn fc wh v11, Cells w b 80 #[.slice A is.length c, .int .i64 st, .int .i64 m, .slice T text.length tc, v4, v5, v6, .bool fo.isSome, .slice FA fn fc, .int .i64 wh, .int .i64 (steps : Int), v11] ∧ FoundR w m fo FA fn wh
  row : ∃ xs, Reads w (· ≠ b) 2 N ths.length xs ∧ ThR w is.length m ths xs
  lit : 0 < ths.length → ∃ gN, N = some ⟨gN, 0, none⟩

section
variable {w0 wr : World} {b g : Nat} {A : Option Addr} {c : Nat} {is : List PInst} {st : Int} {m : Nat} {T : Option Addr} {tc : Nat} {text : List Int} {N : Option Addr} {ths : List (Nat × List Int)} {fo : Option (List Int × Int)} {steps : Nat}
theorem RunI.notint (h : RunI w0 wr b g A c is st m T tc text N ths fo steps) : ∀ k, IntB wr k → ¬ k = b := by
  rintro k ⟨cs, fr, hk⟩ rfl
  obtain ⟨v4, v5, v6, FA, fn, fc, wh, v11, hC, -⟩ := h.run
  unfold Cells at hC
  rw [hC] at hk
  injection hk with hk
  injection hk with _ hk
  revert hk
  decide
/-- a place begins -/
theorem RunI.begin_ (h : RunI w0 wr b g A c is st m T tc text N ths fo steps) (H : InstsR w0 (fun k => k < w0.heap.size) A is.length is) (HT : TextR w0 (fun k => k < w0.heap.size) T text.length text)
    (hn : is.length ≤ 20000) (hst : steps + is.length ≤ 1099511627776) {j mb mc : Nat} {w4 : World} (hg : (wr.setCell ⟨b, 0 + 4, none⟩ (.int .i64 (j : Int))).grownBy w4 none)
    (o : w4.ownsRow wr.heap.size 4 1 (.slice (some ⟨mb, 0, none⟩) is.length mc) is.length (bvs (List.replicate is.length false))) :
    VisR (((w4.setCell ⟨b, 0 + 5, none⟩ (.slice (some ⟨mb, 0, none⟩) is.length mc)).setCell ⟨b, 0 + 6, none⟩ (.slice none 0 0)).setCell ⟨b, 0 + 11, none⟩ (.bool false)) wr.heap.size b mb mc A c is st m T tc text j { met := List.replicate is.length false, next := [], found := fo, steps := steps, over := false } ∧
    Upd (fun k => k = b) wr (((w4.setCell ⟨b, 0 + 5, none⟩ (.slice (some ⟨mb, 0, none⟩) is.length mc)).setCell ⟨b, 0 + 6, none⟩ (.slice none 0 0)).setCell ⟨b, 0 + 11, none⟩ (.bool false)) := by
  obtain ⟨v4, v5, v6, FA, fn, fc, wh, v11, hC, hF⟩ := h.run
  have hU : Upd (fun k => k = b) wr (((w4.setCell ⟨b, 0 + 5, none⟩ (.slice (some ⟨mb, 0, none⟩) is.length mc)).setCell ⟨b, 0 + 6, none⟩ (.slice none 0 0)).setCell ⟨b, 0 + 11, none⟩ (.bool false)) :=
    ((((((Upd.refl (fun k => k = b) wr).setCell ⟨b, 0 + 4, none⟩ (.int .i64 (j : Int)) (fun _ => rfl))).grown hg (by simp)).setCell ⟨b, 0 + 5, none⟩ _ (fun _ => rfl)).setCell ⟨b, 0 + 6, none⟩ _ (fun _ => rfl)).setCell ⟨b, 0 + 11, none⟩ _ (fun _ => rfl)
  have hk := IntKeep.of hU h.notint
  have hbl := hC.lt
  have hsz := h.upd.size
  have hlo := h.lo
  have hmb := (o.lt mb rfl).1
  have hob : (Value.slice (some ⟨mb, 0, none⟩) is.length mc).ownBlock ≠ some b := by simp [Value.ownBlock]; omega
  have hS : ∀ k, k < w0.heap.size → ¬ k = b := fun k hk e => by omega
  have hw : ∀ k, k < w0.heap.size → k < wr.heap.size ∧ k ≠ b := fun k hk => ⟨by omega, by omega⟩
  refine ⟨⟨(((H.upd h.upd (fun _ _ => not_nob)).upd hU hS).weaken hw), (((HT.upd h.upd (fun _ _ => not_nob)).upd hU hS).weaken hw), hU.size, by simp, own_far (own_far (own_far o _ _ hob) _ _ hob) _ _ hob,
    ⟨none, 0, [], FA, fn, fc, wh, ?_, World.ownsRow_nil _ _ _ _, ⟨rfl, fun i pc caps hi => by simp at hi⟩, hF.keep hk⟩, ?_, ?_⟩, hU⟩
  · exact ((((hC.set_ (0 + 4) (.int .i64 (j : Int))).grown hg (by simp)).set_ (0 + 5) _).set_ (0 + 6) _).set_ (0 + 11) _
  · show steps + (List.replicate is.length false).count false ≤ _
    simp
    omega
  · show 0 + (List.replicate is.length false).count false ≤ _
    simp
    omega
/-- a place is over -/
theorem RunI.end_ (h : RunI w0 wr b g A c is st m T tc text N ths fo steps) {w5 w9 : World} {j mb mc : Nat} {s5 s9 : VSt} (hU : Upd (fun k => k = b) wr w5) (h5 : VisR w5 wr.heap.size b mb mc A c is st m T tc text j s5)
    (hV : Upd (Fr wr.heap.size b mb w5) w5 w9) (h9 : VisR w9 wr.heap.size b mb mc A c is st m T tc text j s9) :
    ∃ N' nc', w9.cell? ⟨b, 0 + 6, none⟩ = some (.slice N' s9.next.length nc') ∧ w9.cell? ⟨b, 0 + 7, none⟩ = some (.bool s9.found.isSome) ∧ RunI w0 w9 b g A c is st m T tc text N' s9.next s9.found s9.steps := by
  obtain ⟨N', nc', xs, FA, fn, fc, wh, hB, hN, hT, hF⟩ := h9.rest
  have hsz := h.upd.size
  have hlo := h.lo
  obtain ⟨v4, v5, v6, FA0, fn0, fc0, wh0, v11, hC, -⟩ := h.run
  have hpb : w0.heap.size ≠ b := Cells.ne_ h.box hC (by decide)
  have hrb : w0.heap.size + 1 ≠ b := Cells.ne_ h.res hC (by decide)
  have hpl := h.box.lt
  have hrl := h.res.lt
  have hS : ∀ k, k < wr.heap.size → k ≠ b → ¬ Fr wr.heap.size b mb w5 k := fun k h1 h2 hf => hf.elim h2 (fun h => absurd h.1 (by omega))
  have hbn : (Value.slice N' s9.next.length nc').ownBlock ≠ some b := own_ne hN hB (by decide)
  refine ⟨N', nc', hB.cellv rfl, hB.cellv rfl, ⟨(h.upd.trans hU (fun k hk e => absurd hk (by omega))).trans hV (fun k hk e => ?_), hlo, (h.box.upd hU hpb).upd hV (hS _ hpl hpb), (h.res.upd hU hrb).upd hV (hS _ hrl hrb), (h.nn.keep (IntKeep.of hU h.notint)).keep (IntKeep.of hV h5.notint), ⟨_, _, _, FA, fn, fc, wh, _, hB, hF⟩, ⟨xs, (Reads.of_own hN).weaken (fun k hk e => hbn (e ▸ hk)), hT⟩, fun hn => ?_⟩⟩
  · rcases e with e | ⟨e, -⟩
    · omega
    · omega
  · rcases hN.2 with ⟨-, h0⟩ | ⟨gN, cap, cur, hv, -⟩
    · omega
    · injection hv with hv
      exact ⟨gN, hv⟩
end

/-- the answer is laid in its block -/
theorem found_out {w0 wr : World} {b g : Nat} {A : Option Addr} {c : Nat} {is : List PInst} {st : Int} {m : Nat} {T : Option Addr} {tc : Nat} {text : List Int} {N : Option Addr} {ths : List (Nat × List Int)} {fo : Option (List Int × Int)} {steps : Nat} {FA : Option Addr} {fn : Nat} {wh : Int}
    (h : RunI w0 wr b g A c is st m T tc text N ths fo steps) (hF : FoundR wr m fo FA fn wh) (v0 v1 v2 v3 : Value) :
    FoundR ((((wr.setCell ⟨w0.heap.size + 1, 0, none⟩ v0).setCell ⟨w0.heap.size + 1, 0 + 1, none⟩ v1).setCell ⟨w0.heap.size + 1, 0 + 2, none⟩ v2).setCell ⟨w0.heap.size + 1, 0 + 3, none⟩ v3) m fo FA fn wh ∧
    Upd Nob w0 ((((wr.setCell ⟨w0.heap.size + 1, 0, none⟩ v0).setCell ⟨w0.heap.size + 1, 0 + 1, none⟩ v1).setCell ⟨w0.heap.size + 1, 0 + 2, none⟩ v2).setCell ⟨w0.heap.size + 1, 0 + 3, none⟩ v3) := by
  have hU : Upd (fun k => k = w0.heap.size + 1) wr ((((wr.setCell ⟨w0.heap.size + 1, 0, none⟩ v0).setCell ⟨w0.heap.size + 1, 0 + 1, none⟩ v1).setCell ⟨w0.heap.size + 1, 0 + 2, none⟩ v2).setCell ⟨w0.heap.size + 1, 0 + 3, none⟩ v3) :=
    (((((Upd.refl (fun k => k = w0.heap.size + 1) wr).setCell ⟨w0.heap.size + 1, 0, none⟩ v0 (fun _ => rfl))).setCell ⟨w0.heap.size + 1, 0 + 1, none⟩ v1 (fun _ => rfl)).setCell ⟨w0.heap.size + 1, 0 + 2, none⟩ v2 (fun _ => rfl)).setCell ⟨w0.heap.size + 1, 0 + 3, none⟩ v3 (fun _ => rfl)
  refine ⟨hF.keep (IntKeep.of hU ?_), h.upd.trans hU (fun k hk e => absurd hk (by omega))⟩
  rintro k ⟨cs, fr, hk⟩ rfl
  have hC := h.res
  unfold Cells at hC
  rw [hC] at hk
  injection hk with hk
  injection hk with _ hk
  revert hk
  decide

section
variable {is : List PInst} {text : List Int} {j : Nat}
theorem visitAll_work : ∀ (ths : List (Nat × List Int)) (s : VSt), (visitAll is text j ths s).steps + (visitAll is text j ths s).met.count false ≤ s.steps + s.met.count false ∧ (visitAll is text j ths s).next.length + (visitAll is text j ths s).met.count false ≤ s.next.length + s.met.count false
  | [], s => ⟨Nat.le_refl _, Nat.le_refl _⟩
  | x :: r, s => by
    have h1 := visitF_work (is := is) (text := text) (j := j) (is.length + 1) x.1 x.2 s
    have h2 := visitAll_work r (visitF is text j (is.length + 1) x.1 x.2 s)
    exact ⟨Nat.le_trans h2.1 h1.1, Nat.le_trans h2.2 h1.2⟩
theorem placeF_work (st : Nat) (none_ : List Int) (ours : Bool) (ths : List (Nat × List Int)) (fo : Option (List Int × Int)) (steps : Nat) :
    (placeF is st none_ text j ours ths fo steps).steps ≤ steps + is.length ∧ (placeF is st none_ text j ours ths fo steps).next.length ≤ is.length := by
  have h1 := visitAll_work (is := is) (text := text) (j := j) ths { met := List.replicate is.length false, next := [], found := fo, steps := steps, over := false }
  have h0 : (List.replicate is.length false).count false = is.length := by simp
  simp only [h0, List.length_nil, Nat.zero_add] at h1
  unfold placeF
  cases ours
  · exact ⟨by simp only [Bool.false_eq_true, if_false]; omega, by simp only [Bool.false_eq_true, if_false]; omega⟩
  · have h2 := visitF_work (is := is) (text := text) (j := j) (is.length + 1) st none_ (visitAll is text j ths { met := List.replicate is.length false, next := [], found := fo, steps := steps, over := false })
    simp only [if_true]
    exact ⟨by omega, by omega⟩
end

theorem search_stop {is : List PInst} {st : Nat} {nn : List Int} {text : List Int} {a0 f j : Nat} {anchored : Bool} {ths : List (Nat × List Int)} {fo : Option (List Int × Int)} {steps : Nat} {s9 : VSt}
    (h : placeF is st nn text j (decide (j = a0) || !anchored && fo.isNone) ths fo steps = s9) (h0 : s9.next.length = 0) (h1 : (s9.found.isSome || anchored) = true) :
    searchF is st nn text a0 anchored (f + 1) j ths fo steps = (s9.found, s9.steps) := by
  rw [searchF]
  simp only [h]
  rw [h1, List.isEmpty_iff.2 (List.eq_nil_of_length_eq_zero h0)]
  rfl
theorem search_on {is : List PInst} {st : Nat} {nn : List Int} {text : List Int} {a0 f j : Nat} {anchored : Bool} {ths : List (Nat × List Int)} {fo : Option (List Int × Int)} {steps : Nat} {s9 : VSt}
    (h : placeF is st nn text j (decide (j = a0) || !anchored && fo.isNone) ths fo steps = s9) (h0 : (s9.next.isEmpty && (s9.found.isSome || anchored)) = false) :
    searchF is st nn text a0 anchored (f + 1) j ths fo steps = searchF is st nn text a0 anchored f (j + 1) s9.next s9.found s9.steps := by
  rw [searchF]
  simp only [h]
  rw [h0]
  rfl

set_option maxRecDepth 100000 in
set_option maxHeartbeats 8000000 in
theorem ref_run (w : World) (S : Nat → Prop) (A : Option Addr) (n c : Nat) (is : List PInst) (start caps : Int) (T : Option Addr) (tn tc : Nat) (text : List Int) (a : Int) (anchored : Bool)
    (h : InstsR w S A n is) (hs : In64 start) (hc : In64 caps) (hn : n ≤ 140737488355328) (ht : TextR w S T tn text) (ha : In64 a) :
    Calls Try.prog 12 #[.agg #[.slice A n c, .int .i64 start, .int .i64 caps], .slice T tn tc, .int .i64 a, .bool anchored] w (RunPost w caps.toNat (ansF is start caps text a anchored)) := by
  obtain rfl : is.length = n := h.len
  obtain rfl : text.length = tn := ht.len
  have C0 : Cells (w.alloc (.cells #[.slice A is.length c, .int .i64 start, .int .i64 caps] 27)) w.heap.size 27 #[.slice A is.length c, .int .i64 start, .int .i64 caps] := Cells.new _ _ _
  have C1 : Cells ((w.alloc (.cells #[.slice A is.length c, .int .i64 start, .int .i64 caps] 27)).alloc (.cells #[.bool false, .slice none 0 0, .int .i64 0, .int .i64 0] 33)) (w.heap.size + 1) 33 #[.bool false, .slice none 0 0, .int .i64 0, .int .i64 0] := by
    have h := Cells.new (w.alloc (.cells #[.slice A is.length c, .int .i64 start, .int .i64 caps] 27)) 33 #[.bool false, .slice none 0 0, .int .i64 0, .int .i64 0]
    have e : (w.alloc (.cells #[.slice A is.length c, .int .i64 start, .int .i64 caps] 27)).heap.size = w.heap.size + 1 := by simp
    rwa [e] at h
  have C0' := C0.alloc (.cells #[.bool false, .slice none 0 0, .int .i64 0, .int .i64 0] 33)
  have hU := ((Upd.refl Nob w).alloc (.cells #[.slice A is.length c, .int .i64 start, .int .i64 caps] 27)).alloc (.cells #[.bool false, .slice none 0 0, .int .i64 0, .int .i64 0] 33)
  have H := hideP h.lower
  have HT := hideP ht.lower
  have h64 := ht.n
  clear h ht C0
  go_enter Try.func12, Try.ntmps12
  go_upto_region 1 with fail
  generalize (w.alloc (.cells #[.slice A is.length c, .int .i64 start, .int .i64 caps] 27)).alloc (.cells #[.bool false, .slice none 0 0, .int .i64 0, .int .i64 0] 33) = w2 at *
  have hpl := C0'.lt
  have hrl := C1.lt
  have hU2 := hideP hU
  clear hU
  have HC0 := hideP C0'
  have HC1 := hideP C1
  have e0 : w2.cell? ⟨w.heap.size, 0, none⟩ = some (.slice A is.length c) := C0'.cellv rfl
  have e1 : w2.cell? ⟨w.heap.size, 0 + 1, none⟩ = some (.int .i64 start) := C0'.cellv rfl
  have e2 : w2.cell? ⟨w.heap.size, 0 + 2, none⟩ = some (.int .i64 caps) := C0'.cellv rfl
  have r0 : w2.cell? ⟨w.heap.size + 1, 0, none⟩ = some (.bool false) := C1.cellv rfl
  have r1 : w2.cell? ⟨w.heap.size + 1, 0 + 1, none⟩ = some (.slice none 0 0) := C1.cellv rfl
  have r2 : w2.cell? ⟨w.heap.size + 1, 0 + 2, none⟩ = some (.int .i64 0) := C1.cellv rfl
  have r3 : w2.cell? ⟨w.heap.size + 1, 0 + 3, none⟩ = some (.int .i64 0) := C1.cellv rfl
  have f0 : w2.frozen? ⟨w.heap.size + 1, 0, none⟩ = false := C1.frozen 0
  have f1 : w2.frozen? ⟨w.heap.size + 1, 0 + 1, none⟩ = false := C1.frozen 1
  have f2 : w2.frozen? ⟨w.heap.size + 1, 0 + 2, none⟩ = false := C1.frozen 2
  have f3 : w2.frozen? ⟨w.heap.size + 1, 0 + 3, none⟩ = false := C1.frozen 3
  clear C0' C1
  by_cases hl : 4194304 < text.length
  · have hA : ansF is start caps text a anchored = ((none, 0), 2) := if_pos hl
    have HA := hideP hA
    clear hA
    have hl2 : (4194304 : Int) < (text.length : Int) := by omega
    have D := (((HC1.out.set_ 0 (.bool false)).set_ (0 + 1) (.slice none 0 0)).set_ (0 + 2) (.int .i64 0)).set_ (0 + 3) (.int .i64 0)
    have g0 := D.cellv (i := 0) (v := .bool false) rfl
    have g1 := D.cellv (i := 0 + 1) (v := .slice none 0 0) rfl
    have g2 := D.cellv (i := 0 + 2) (v := .int .i64 0) rfl
    have g3 := D.cellv (i := 0 + 3) (v := .int .i64 0) rfl
    go_wp2_with fail
    refine bodyPost_ret (by simp [results, Try.results12, go_sem, g0, g1, g2, g3]; try rfl) rfl ?_
    rw [HA.out]
    exact ⟨none, 0, 0, 0, rfl, .inl ⟨rfl, rfl, rfl⟩, ((((hU2.out.setCell _ _ (fun h => absurd h (by simp))).setCell _ _ (fun h => absurd h (by simp))).setCell _ _ (fun h => absurd h (by simp))).setCell _ _ (fun h => absurd h (by simp)))⟩
  have hl2 : ¬ (4194304 : Int) < (text.length : Int) := by omega
  go_wp2_with fail
  refine (ref_check _ _ A is.length c is start caps (H.out.upd hU2.out (fun _ _ => not_nob)) hs hc hn).mono ?_
  rintro e w3 ⟨rfl, hU3⟩
  have HCR := hideP (HC1.out.upd hU3 not_nob)
  have HCP := hideP (HC0.out.upd hU3 not_nob)
  have HUR := hideP (hU2.out.trans hU3 (fun _ _ h => h))
  have f0 : w3.frozen? ⟨w.heap.size + 1, 0, none⟩ = false := HCR.out.frozen 0
  have f1 : w3.frozen? ⟨w.heap.size + 1, 0 + 1, none⟩ = false := HCR.out.frozen 1
  have f2 : w3.frozen? ⟨w.heap.size + 1, 0 + 2, none⟩ = false := HCR.out.frozen 2
  have f3 : w3.frozen? ⟨w.heap.size + 1, 0 + 3, none⟩ = false := HCR.out.frozen 3
  have r0 : w3.cell? ⟨w.heap.size + 1, 0, none⟩ = some (.bool false) := HCR.out.cellv rfl
  have r1 : w3.cell? ⟨w.heap.size + 1, 0 + 1, none⟩ = some (.slice none 0 0) := HCR.out.cellv rfl
  have r2 : w3.cell? ⟨w.heap.size + 1, 0 + 2, none⟩ = some (.int .i64 0) := HCR.out.cellv rfl
  have r3 : w3.cell? ⟨w.heap.size + 1, 0 + 3, none⟩ = some (.int .i64 0) := HCR.out.cellv rfl
  have e0 : w3.cell? ⟨w.heap.size, 0, none⟩ = some (.slice A is.length c) := HCP.out.cellv rfl
  have e1 : w3.cell? ⟨w.heap.size, 0 + 1, none⟩ = some (.int .i64 start) := HCP.out.cellv rfl
  have e2 : w3.cell? ⟨w.heap.size, 0 + 2, none⟩ = some (.int .i64 caps) := HCP.out.cellv rfl
  have hle3 := HUR.out.size
  clear hU3
  rcases hv : checkB is start caps with _ | _
  · have hA : ansF is start caps text a anchored = ((none, 0), 90) := (if_neg hl).trans (if_pos hv)
    have HA := hideP hA
    have hE : errOf false = 90 := rfl
    clear hA hv
    have D := (((HCR.out.set_ 0 (.bool false)).set_ (0 + 1) (.slice none 0 0)).set_ (0 + 2) (.int .i64 0)).set_ (0 + 3) (.int .i64 0)
    have g0 := D.cellv (i := 0) (v := .bool false) rfl
    have g1 := D.cellv (i := 0 + 1) (v := .slice none 0 0) rfl
    have g2 := D.cellv (i := 0 + 2) (v := .int .i64 0) rfl
    have g3 := D.cellv (i := 0 + 3) (v := .int .i64 0) rfl
    go_wp2_with fail
    refine bodyPost_ret (by simp [results, Try.results12, go_sem, g0, g1, g2, g3]; try rfl) rfl ?_
    rw [HA.out]
    exact ⟨none, 0, 0, 0, rfl, .inl ⟨rfl, rfl, rfl⟩, ((((HUR.out.setCell _ _ (fun h => absurd h (by simp))).setCell _ _ (fun h => absurd h (by simp))).setCell _ _ (fun h => absurd h (by simp))).setCell _ _ (fun h => absurd h (by simp)))⟩
  have hE : errOf true = 0 := rfl
  by_cases har : a < 0 ∨ (text.length : Int) < a
  · have hA : ansF is start caps text a anchored = ((none, 0), 1) := (if_neg hl).trans ((if_neg (by rw [hv]; exact Bool.noConfusion)).trans (if_pos har))
    have HA := hideP hA
    clear hA hv
    have D := (((HCR.out.set_ 0 (.bool false)).set_ (0 + 1) (.slice none 0 0)).set_ (0 + 2) (.int .i64 0)).set_ (0 + 3) (.int .i64 0)
    have g0 := D.cellv (i := 0) (v := .bool false) rfl
    have g1 := D.cellv (i := 0 + 1) (v := .slice none 0 0) rfl
    have g2 := D.cellv (i := 0 + 2) (v := .int .i64 0) rfl
    have g3 := D.cellv (i := 0 + 3) (v := .int .i64 0) rfl
    rcases (by omega : a < 0 ∨ (¬ a < 0 ∧ (text.length : Int) < a)) with h1 | ⟨h1, h2⟩
    · have d1 : decide (a < 0) = true := decide_eq_true h1
      clear har
      go_wp2_with fail
      refine bodyPost_ret (by simp [results, Try.results12, go_sem, g0, g1, g2, g3]; try rfl) rfl ?_
      rw [HA.out]
      exact ⟨none, 0, 0, 0, rfl, .inl ⟨rfl, rfl, rfl⟩, ((((HUR.out.setCell _ _ (fun h => absurd h (by simp))).setCell _ _ (fun h => absurd h (by simp))).setCell _ _ (fun h => absurd h (by simp))).setCell _ _ (fun h => absurd h (by simp)))⟩
    · have d1 : decide (a < 0) = false := decide_eq_false h1
      have d2 : decide ((text.length : Int) < a) = true := decide_eq_true h2
      clear har
      go_wp2_with fail
      refine bodyPost_ret (by simp [results, Try.results12, go_sem, g0, g1, g2, g3]; try rfl) rfl ?_
      rw [HA.out]
      exact ⟨none, 0, 0, 0, rfl, .inl ⟨rfl, rfl, rfl⟩, ((((HUR.out.setCell _ _ (fun h => absurd h (by simp))).setCell _ _ (fun h => absurd h (by simp))).setCell _ _ (fun h => absurd h (by simp))).setCell _ _ (fun h => absurd h (by simp)))⟩
  have hA : ansF is start caps text a anchored = (runF is start.toNat caps.toNat text a.toNat anchored, 0) := (if_neg hl).trans ((if_neg (by rw [hv]; exact Bool.noConfusion)).trans (if_neg har))
  have HA := hideP hA
  clear hA
  obtain ⟨⟨n1, n2, s0, s1, k0, k1⟩, hmay⟩ := vcheck hv
  obtain ⟨st, rfl⟩ := Int.eq_ofNat_of_zero_le s0
  obtain ⟨m, rfl⟩ : ∃ k : Nat, caps = (k : Int) := Int.eq_ofNat_of_zero_le (by omega)
  obtain ⟨a0, rfl⟩ : ∃ k : Nat, a = (k : Int) := Int.eq_ofNat_of_zero_le (by omega)
  have HMAY := hideP hmay
  obtain ⟨i0, hi0, hz0, hz1, hz2⟩ := info_parts vinfo_int
  obtain ⟨j0, hj0, hy0, hy1, hy2⟩ := info_parts vinfo_bool
  have hzi : (madeCells (Value.int .i64 0).cells (m * 1)).toList = intv (List.replicate m 0) := by
    have : (Value.int .i64 0).cells = #[Value.int .i64 0] := rfl
    rw [this, toList_madeCells_one, Nat.mul_one]
    simp [intv]
  have hzb : (madeCells (Value.bool false).cells (is.length * 1)).toList = bvs (List.replicate is.length false) := by
    have : (Value.bool false).cells = #[Value.bool false] := rfl
    rw [this, toList_madeCells_one, Nat.mul_one]
    simp [bvs]
  have HZI := hideP hzi
  have HZB := hideP hzb
  have ha0 : a0 ≤ text.length := by omega
  have n2' : is.length ≤ 20000 := by omega
  have d1 : decide ((a0 : Int) < 0) = false := decide_eq_false (by omega)
  have d2 : decide ((text.length : Int) < (a0 : Int)) = false := decide_eq_false (by omega)
  clear hzi hzb hmay hv har f0 f1 f2 f3 r0 r1 r2 r3
  go_wp2_with (at_make; refine wpList_make_full w3 rfl (.tmp 37) (.tmp 37) 28 rfl w.heap.size 3 i0 (.int .i64 0) 1 Try.underlying28 hi0 hz0 hz1 .i64 .i64 (m : Int) (m : Int) m rfl rfl rfl rfl (by rw [hz2]; omega) (by unfold maxLen; omega) (by omega) ?_; intro w4 o4 hg4; rw [HZI.out] at o4)
  have HCP4 := hideP (HCP.out.grown hg4 (by simp))
  have HCR4 := hideP (HCR.out.grown hg4 (by simp))
  have HU4 := hideP (HUR.out.grown hg4 (by simp))
  have hg4l : w3.heap.size = w3.heap.size := rfl
  generalize w3.heap.size = g at *
  have HO4 := hideP o4
  clear o4 hg4 e0 e1 e2 hle3 HCP HCR HUR hg4l
  go_loopg [12] m (fun gk v12 wr => ∃ k : Nat, k + gk = m ∧ v12 = .int .i64 (k : Int) ∧ wr.ownsRow w.heap.size 3 1 (.slice (some ⟨g, 0, none⟩) m m) m (intv (List.replicate k (-1) ++ List.replicate (m - k) 0)) ∧ Upd (fun j => j = g) w4 wr)
  case atStart => exact ⟨0, by omega, rfl, by simpa using HO4.out, Upd.refl _ _⟩
  case round =>
    obtain ⟨k, hk, rfl, ho, hUk⟩ := hrel
    have hgl := (HO4.out.lt g rfl).1
    obtain ⟨cur4, hc4, -⟩ := own_cells HO4.out rfl
    have hpg : w.heap.size ≠ g := Cells.ne_ HCP4.out hc4 (by decide)
    have hrg : w.heap.size + 1 ≠ g := Cells.ne_ HCR4.out hc4 (by decide)
    have HCPk := hideP (HCP4.out.upd hUk hpg)
    have HCRk := hideP (HCR4.out.upd hUk hrg)
    have e2 : wr.cell? ⟨w.heap.size, 0 + 2, none⟩ = some (.int .i64 (m : Int)) := HCPk.out.cellv rfl
    clear hc4
    by_cases hkm : k < m
    · have fz : wr.frozen? ⟨g, k, none⟩ = false := ho.frozenAt k
      obtain ⟨u, cu⟩ : ∃ u, wr.cell? ⟨g, k, none⟩ = some u := by
        have h1 := ho.cellAt k (by omega)
        rw [List.getElem?_eq_getElem (by have := ho.1; omega)] at h1
        exact ⟨_, h1⟩
      have g1 : (k : Int) < (m : Int) := by omega
      have HO := hideP ho
      have HUk := hideP hUk
      clear ho hUk
      go_wp2_with fail
      go_roundg (m - (k + 1))
      case measure => omega
      case rel =>
        refine ⟨k + 1, by omega, by go_num, ?_, HUk.out.setCell _ _ (fun _ => rfl)⟩
        have h3 := (HO.out.stored k (.int .i64 (-1))).1
        have e3 : (intv (List.replicate k (-1) ++ List.replicate (m - k) 0)).set k (.int .i64 (-1)) = intv (List.replicate (k + 1) (-1) ++ List.replicate (m - (k + 1)) 0) := by
          have e4 : m - k = (m - (k + 1)) + 1 := by omega
          rw [e4, List.replicate_succ, List.replicate_succ']
          simp [intv]
        rwa [e3] at h3
    have hke : k = m := by omega
    subst hke
    have g1 : ¬ (k : Int) < (k : Int) := by omega
    have hnn : CapR wr (some ⟨g, 0, none⟩) k (List.replicate k (-1)) := by
      have := capR_own ho
      simpa using this
    have HUk := hideP (HU4.out.trans hUk (fun j hj e => absurd hj (by omega)))
    have e0 : wr.cell? ⟨w.heap.size, 0, none⟩ = some (.slice A is.length c) := HCPk.out.cellv rfl
    have e1 : wr.cell? ⟨w.heap.size, 0 + 1, none⟩ = some (.int .i64 (st : Int)) := HCPk.out.cellv rfl
    clear ho hUk
    go_upto_region 15 with fail
    have CB := Cells.new wr 80 #[.slice A is.length c, .int .i64 st, .int .i64 k, .slice T text.length tc, .int .i64 0, .slice none 0 0, .slice none 0 0, .bool false, .slice none 0 0, .int .i64 0, .int .i64 0, .bool false]
    have hlw := HUk.out.size
    have HI := hideP (⟨HUk.out.alloc _, hlw, HCPk.out.alloc _, HCRk.out.alloc _, hnn.keep (IntKeep.of ((Upd.refl Nob wr).alloc _) (fun _ _ => not_nob)), ⟨_, _, _, none, 0, 0, 0, _, CB, .inl ⟨rfl, rfl, rfl⟩⟩, ⟨[], .nil_, rfl, fun i pc caps hi => by simp at hi⟩, fun h => absurd h (by simp)⟩ :
      RunI w (wr.alloc (.cells #[.slice A is.length c, .int .i64 st, .int .i64 k, .slice T text.length tc, .int .i64 0, .slice none 0 0, .slice none 0 0, .bool false, .slice none 0 0, .int .i64 0, .int .i64 0, .bool false] 80)) wr.heap.size g A c is st k T tc text none [] none 0)
    generalize wr.alloc (.cells #[.slice A is.length c, .int .i64 st, .int .i64 k, .slice T text.length tc, .int .i64 0, .slice none 0 0, .slice none 0 0, .bool false, .slice none 0 0, .int .i64 0, .int .i64 0, .bool false] 80) = wB at *
    generalize wr.heap.size = b at *
    have hans : searchF is st (List.replicate k (-1)) text a0 anchored (text.length + 1 - a0) a0 [] none 0 = runF is st k text a0 anchored := rfl
    have HS := hideP hans
    clear CB hnn e0 e1 e2 hans hlw
    go_wp2_with fail
    go_loopg [14, 15, 16, 17] (text.length + 1 - a0) (fun gk v14 v15 v16 v17 wq => ∃ (j : Nat) (ths : List (Nat × List Int)) (fo : Option (List Int × Int)) (steps : Nat) (N : Option Addr) (nc : Nat), j + gk = text.length + 1 ∧ a0 ≤ j ∧ v14 = .slice N ths.length nc ∧ v15 = .int .i64 (j : Int) ∧ ths.length ≤ 20000 ∧ steps ≤ (j - a0) * 20000 ∧
      searchF is st (List.replicate k (-1)) text a0 anchored gk j ths fo steps = runF is st k text a0 anchored ∧ RunI w wq b g A c is st k T tc text N ths fo steps)
    case atStart => exact ⟨a0, [], none, 0, none, 0, by omega, Nat.le_refl _, rfl, rfl, by simp, by omega, HS.out, HI.out⟩
    case round =>
      obtain ⟨j, ths, fo, steps, N, nc, hj, haj, rfl, rfl, hthl, hst, hse, hR⟩ := hrel
      obtain ⟨v4, v5, v6, FA, fn, fc, wh, v11, hC, hF⟩ := hR.run
      by_cases hlt : j ≤ text.length
      rotate_left
      · have g1 : ¬ (j : Int) ≤ (text.length : Int) := by omega
        obtain rfl : gk = 0 := by omega
        have hrr : runF is st k text a0 anchored = (fo, steps) := hse.symm
        have HA2 := hideP (HA.out.trans (show _ = ((fo, steps), (0 : Int)) by show (runF is st k text a0 anchored, (0 : Int)) = _; rw [hrr]))
        have b7 : wr.cell? ⟨b, 0 + 7, none⟩ = some (.bool fo.isSome) := hC.cellv rfl
        have b8 : wr.cell? ⟨b, 0 + 7 + 1, none⟩ = some (.slice FA fn fc) := hC.cellv rfl
        have b9 : wr.cell? ⟨b, 0 + 7 + 2, none⟩ = some (.int .i64 wh) := hC.cellv rfl
        have b10 : wr.cell? ⟨b, 0 + 7 + 3, none⟩ = some (.int .i64 (steps : Int)) := hC.cellv rfl
        have f0 : wr.frozen? ⟨w.heap.size + 1, 0, none⟩ = false := hR.res.frozen 0
        have f1 : wr.frozen? ⟨w.heap.size + 1, 0 + 1, none⟩ = false := hR.res.frozen 1
        have f2 : wr.frozen? ⟨w.heap.size + 1, 0 + 2, none⟩ = false := hR.res.frozen 2
        have f3 : wr.frozen? ⟨w.heap.size + 1, 0 + 3, none⟩ = false := hR.res.frozen 3
        have r0 : wr.cell? ⟨w.heap.size + 1, 0, none⟩ = some (.bool false) := hR.res.cellv rfl
        have r1 : wr.cell? ⟨w.heap.size + 1, 0 + 1, none⟩ = some (.slice none 0 0) := hR.res.cellv rfl
        have r2 : wr.cell? ⟨w.heap.size + 1, 0 + 2, none⟩ = some (.int .i64 0) := hR.res.cellv rfl
        have r3 : wr.cell? ⟨w.heap.size + 1, 0 + 3, none⟩ = some (.int .i64 0) := hR.res.cellv rfl
        have D := (((hR.res.set_ 0 (.bool fo.isSome)).set_ (0 + 1) (.slice FA fn fc)).set_ (0 + 2) (.int .i64 wh)).set_ (0 + 3) (.int .i64 (steps : Int))
        have q0 := D.cellv (i := 0) (v := .bool fo.isSome) rfl
        have q1 := D.cellv (i := 0 + 1) (v := .slice FA fn fc) rfl
        have q2 := D.cellv (i := 0 + 2) (v := .int .i64 wh) rfl
        have q3 := D.cellv (i := 0 + 3) (v := .int .i64 (steps : Int)) rfl
        have HFin := hideP (found_out hR hF (.bool fo.isSome) (.slice FA fn fc) (.int .i64 wh) (.int .i64 (steps : Int)))
        clear hR hF hse hC D HS
        go_wp2_with fail
        refine bodyPost_ret (by simp [results, Try.results12, go_sem, q0, q1, q2, q3]; try rfl) rfl ?_
        rw [HA2.out]
        exact ⟨FA, fn, fc, wh, rfl, HFin.out⟩
      have g1 : (j : Int) ≤ (text.length : Int) := by omega
      obtain ⟨fz, rfl⟩ : ∃ fz, gk = fz + 1 := ⟨gk - 1, by omega⟩
      have hpb : w.heap.size ≠ b := Cells.ne_ hR.box hC (by decide)
      have hC1 := hC.set_ (0 + 4) (.int .i64 (j : Int))
      have fz4 : wr.frozen? ⟨b, 0 + 4, none⟩ = false := hC.frozen 4
      have c4 : wr.cell? ⟨b, 0 + 4, none⟩ = some v4 := hC.cellv rfl
      have hP1 := hR.box.far ⟨b, 0 + 4, none⟩ (.int .i64 (j : Int)) hpb
      have e0 : (wr.setCell ⟨b, 0 + 4, none⟩ (.int .i64 (j : Int))).cell? ⟨w.heap.size, 0, none⟩ = some (.slice A is.length c) := hP1.cellv rfl
      have hsz1 : (wr.setCell ⟨b, 0 + 4, none⟩ (.int .i64 (j : Int))).heap.size = wr.heap.size := by simp
      have HCb := hideP hC1
      have HSE := hideP hse
      have HR := hideP hR
      clear hC hC1 hse hR hF HS HI
      go_upto_region 19 with fail
      go_upto_region 20 with (at_make; refine wpList_make_full (wr.setCell ⟨b, 0 + 4, none⟩ (.int .i64 (j : Int))) rfl (.tmp 66) (.tmp 66) 77 rfl wr.heap.size 4 j0 (.bool false) 1 Try.underlying77 hj0 hy0 hy1 .i64 .i64 (is.length : Int) (is.length : Int) is.length rfl rfl rfl rfl (by rw [hy2]; omega) (by unfold maxLen; omega) (by rw [hsz1]; omega) ?_; intro w5 o5 hg5; rw [HZB.out] at o5; rw [hsz1] at o5; have hC5 := HCb.out.grown hg5 (by simp); have fz5 : w5.frozen? ⟨b, 0 + 5, none⟩ = false := hC5.frozen 5; have c5 : w5.cell? ⟨b, 0 + 5, none⟩ = some v5 := hC5.cellv rfl; have HC5 := hideP hC5; have HO5 := hideP o5; have HG5 := hideP hg5; clear hC5 o5 hg5)
      have hC6 := HC5.out.set_ (0 + 5) (.slice (some ⟨wr.heap.size, 0, none⟩) is.length is.length)
      have fz6 : (w5.setCell ⟨b, 0 + 5, none⟩ (.slice (some ⟨wr.heap.size, 0, none⟩) is.length is.length)).frozen? ⟨b, 0 + 6, none⟩ = false := hC6.frozen 6
      have c6 : (w5.setCell ⟨b, 0 + 5, none⟩ (.slice (some ⟨wr.heap.size, 0, none⟩) is.length is.length)).cell? ⟨b, 0 + 6, none⟩ = some v6 := hC6.cellv rfl
      have hC7 := hC6.set_ (0 + 6) (.slice none 0 0)
      have fz11 : ((w5.setCell ⟨b, 0 + 5, none⟩ (.slice (some ⟨wr.heap.size, 0, none⟩) is.length is.length)).setCell ⟨b, 0 + 6, none⟩ (.slice none 0 0)).frozen? ⟨b, 0 + 11, none⟩ = false := hC7.frozen 11
      have c11 : ((w5.setCell ⟨b, 0 + 5, none⟩ (.slice (some ⟨wr.heap.size, 0, none⟩) is.length is.length)).setCell ⟨b, 0 + 6, none⟩ (.slice none 0 0)).cell? ⟨b, 0 + 11, none⟩ = some v11 := hC7.cellv rfl
      obtain ⟨hV, hUV⟩ := HR.out.begin_ (j := j) H.out HT.out n2' (by omega) HG5.out HO5.out
      have HV := hideP hV
      have HUV := hideP hUV
      clear fz5 c5 hC6 hC7 hV hUV fz4 c4 e0
      go_upto_region 22 with fail
      generalize (((w5.setCell ⟨b, 0 + 5, none⟩ (.slice (some ⟨wr.heap.size, 0, none⟩) is.length is.length)).setCell ⟨b, 0 + 6, none⟩ (.slice none 0 0))).setCell ⟨b, 0 + 11, none⟩ (.bool false) = w6 at *
      have b7 : w6.cell? ⟨b, 0 + 7, none⟩ = some (.bool fo.isSome) := by
        obtain ⟨N', nc', xs', FA', fn', fc', wh', hB, -⟩ := HV.out.rest
        exact hB.cellv rfl
      clear fz6 c6 fz11 c11
      go_cut [16] from 76 to 90 (fun v16 wc => v16 = .bool (decide (j = a0) || !anchored && fo.isNone) ∧ w6 = wc)
      case first =>
        by_cases hja : j = a0
        · subst hja
          go_wp2_with fail
          go_meet
          exact ⟨by simp, rfl⟩
        · have q1 : ¬ (j : Int) = (a0 : Int) := by omega
          have q2 : ((j : Int) == (a0 : Int)) = false := beq_eq_false_iff_ne.2 (fun h => hja (by omega))
          rcases anchored with _ | _
          · rcases fo with _ | fo
            · go_wp2_with fail
              go_meet
              exact ⟨by simp, rfl⟩
            · go_wp2_with fail
              go_meet
              exact ⟨by simp [hja], rfl⟩
          · go_wp2_with fail
            go_meet
            exact ⟨by simp [hja], rfl⟩
      case rest =>
        obtain ⟨rfl, rfl⟩ := hcut
        generalize hou : (decide (j = a0) || !anchored && fo.isNone) = ours
        have HOU := hideP hou
        obtain ⟨xs, hxs, hth⟩ := HR.out.row
        have hS0 : ∀ q, q < wr.heap.size → q ≠ b → ¬ Fr wr.heap.size b wr.heap.size w6 q := fun q h1 h2 hf => hf.elim h2 (fun h => absurd h.1 (by omega))
        have hxs6 : Reads w6 (fun q => q < wr.heap.size ∧ q ≠ b) 2 N ths.length xs := by
          have h1 : Reads wr (fun q => q < wr.heap.size ∧ q ≠ b) 2 N ths.length xs := ⟨hxs.1, fun hn => by obtain ⟨ad, e, hb, hs', hc⟩ := hxs.2 hn; exact ⟨ad, e, hb, ⟨hb, hs'⟩, hc⟩⟩
          exact h1.upd HUV.out (fun q hq => hq.2)
        have hth6 := hth.keep (IntKeep.of HUV.out HR.out.notint)
        have hnn6 := HR.out.nn.keep (IntKeep.of HUV.out HR.out.notint)
        have HXS := hideP hxs6
        have HTH := hideP hth6
        have HNN := hideP hnn6
        obtain ⟨w1, hw1⟩ : ∃ x : World, x = wr := ⟨_, rfl⟩
        subst hw1
        generalize hn0 : w1.heap.size = n0 at *
        clear hou hxs hth hxs6 hth6 hnn6 b7 hS0
        go_wp2_with fail
        go_loopg [17] ths.length (fun gi v17 wq => ∃ (i : Nat) (s : VSt), i + gi = ths.length ∧ v17 = .int .i64 (i : Int) ∧ visitAll is text j (ths.drop i) s = visitAll is text j ths { met := List.replicate is.length false, next := [], found := fo, steps := steps, over := false } ∧
          VisR wq n0 b n0 is.length A c is st k T tc text j s ∧ Upd (Fr n0 b n0 w6) w6 wq ∧ s.met.count false ≤ is.length)
        case atStart => exact ⟨0, _, by omega, rfl, rfl, HV.out, Upd.refl _ _, by simp⟩
        case round =>
          obtain ⟨i, s, hi, rfl, hva, hVi, hUi, hcn⟩ := hrel
          by_cases hil : i < ths.length
          · obtain ⟨⟨pc, caps⟩, hx⟩ : ∃ x, ths[i]? = some x := ⟨_, List.getElem?_eq_getElem hil⟩
            have hkeep := IntKeep.of hUi HV.out.notint
            obtain ⟨hpc, hcl, CA, cc, x0, x1, hcap⟩ := (HTH.out.keep hkeep).2 i pc caps hx
            have hxsi := HXS.out.upd hUi (fun q hq hf => hf.elim hq.2 (fun h => absurd h.1 (by omega)))
            obtain ⟨ad, had, hadb, -, hat⟩ := hxsi.2 (by omega)
            obtain ⟨gN, hgN⟩ := HR.out.lit (by omega)
            obtain rfl : ad = ⟨gN, 0, none⟩ := by rw [hgN] at had; injection had with had; exact had.symm
            have y0 : wr.cell? ⟨gN, i * 2, none⟩ = some (.int .i64 (pc : Int)) := by have := hat _ _ x0; rwa [add_lit_, Nat.zero_add] at this
            have y1 : wr.cell? ⟨gN, i * 2 + 1, none⟩ = some (.slice CA k cc) := by have := hat _ _ x1; rwa [add_lit_, Nat.zero_add] at this
            obtain ⟨ad, hadl⟩ : ∃ ad : Addr, ad = ⟨gN, 0, none⟩ := ⟨_, rfl⟩
            have hadd : ad.add (i * 2) = ⟨gN, i * 2, none⟩ := by rw [hadl, add_lit_, Nat.zero_add]
            rw [← hadl] at hgN
            clear hadl hat had
            subst hgN
            have g2 : (i : Int) < (ths.length : Int) := by omega
            have HVi := hideP hVi
            have HUi := hideP hUi
            have HVA := hideP hva
            have HX := hideP hx
            have HCap := hideP hcap
            clear hVi hUi hva hx hcap hxsi hkeep x0 x1
            go_wp2_with fail
            go_still_tail 11, (by kernel_rfl)
            change wpList _ _ _ _ _ wr.drew
            have hnt : ∀ q, IntB wr.drew q → ¬ Fr n0 b n0 wr.drew q := HVi.out.notint
            clear y0 y1 hadd
            have HVd := hideP (HVi.out.still ((Upd.refl Nob wr).drew))
            have HUd := hideP (HUi.out.drew)
            have HCd := hideP (HCap.out.keep (IntKeep.of ((Upd.refl Nob wr).drew) (fun _ _ => not_nob)))
            generalize wr.drew = wd at *
            go_wp2_with fail
            refine (vis_any n0 b n0 is.length A c is st k T tc text j (by omega) (by omega) (by omega) HMAY.out (is.length + 1) wd pc caps CA cc s HVd.out hpc hcl HCd.out (by omega)).mono ?_
            rintro e w8 ⟨rfl, hV8, hU8⟩
            have HV8 := hideP hV8
            have HU8 := hideP (Fr.trans HUd.out hU8)
            clear hV8 hU8
            go_wp2_with fail
            go_roundg (ths.length - (i + 1))
            case measure => omega
            case rel =>
              refine ⟨i + 1, visitF is text j (is.length + 1) pc caps s, by omega, by go_num, ?_, HV8.out, HU8.out, Nat.le_trans (visitF_unmet _ _ _ _ _ _ _) hcn⟩
              have hd : ths.drop i = (pc, caps) :: ths.drop (i + 1) := by
                obtain ⟨hl, hx⟩ := List.getElem?_eq_some_iff.1 HX.out
                rw [List.drop_eq_getElem_cons hl, hx]
              rw [← HVA.out, hd]
              rfl
          · have hil2 : i = ths.length := by omega
            subst hil2
            rw [List.drop_length] at hva
            have hs0 : s = visitAll is text j ths { met := List.replicate is.length false, next := [], found := fo, steps := steps, over := false } := hva
            have g2 : ¬ (ths.length : Int) < (ths.length : Int) := by omega
            subst hn0
            have HVi := hideP hVi
            have HUi := hideP hUi
            have HS0 := hideP hs0
            clear hVi hUi hva hs0
            rcases ours with _ | _
            · obtain ⟨s9, hs9⟩ : ∃ x : VSt, x = s := ⟨_, rfl⟩
              have HPL := hideP (show placeF is st (List.replicate k (-1)) text j false ths fo steps = s9 by rw [hs9]; exact HS0.out.symm)
              have HVX := hideP (hs9.symm ▸ HVi.out : VisR wr w1.heap.size b w1.heap.size is.length A c is st k T tc text j s9)
              have HUX := HUi
              clear hs9
              obtain ⟨N', nc', b6, b7, hRn⟩ := HR.out.end_ HUV.out HV.out HUX.out HVX.out
              have HRn := hideP hRn
              have hwk := placeF_work (is := is) (text := text) (j := j) st (List.replicate k (-1)) false ths fo steps
              rw [HPL.out] at hwk
              have hnl := hwk.2
              have hsl := hwk.1
              have HPL2 := hideP (HOU.out.symm ▸ HPL.out : placeF is st (List.replicate k (-1)) text j (decide (j = a0) || !anchored && fo.isNone) ths fo steps = s9)
              clear hRn hwk
              by_cases hz : s9.next.length = 0
              rotate_left
              · have hz1 : ((s9.next.length : Int) == 0) = false := beq_eq_false_iff_ne.2 (fun h => hz (by omega))
                have hz2 : ¬ (s9.next.length : Int) = 0 := by omega
                go_wp2_with fail
                go_roundg fz
                case measure => omega
                case rel =>
                  refine ⟨j + 1, s9.next, s9.found, s9.steps, N', nc', by omega, by omega, rfl, by go_num, by omega, by omega, ?_, HRn.out⟩
                  rw [← HSE.out]
                  refine (search_on HPL2.out ?_).symm
                  rw [Bool.and_eq_false_iff]
                  exact .inl (by rw [Bool.eq_false_iff]; intro h; exact hz (by rw [List.isEmpty_iff.1 h]; rfl))
              have hz1 : ((s9.next.length : Int) == 0) = true := by rw [hz]; rfl
              rcases hfa : (s9.found.isSome || anchored) with _ | _
              · rw [Bool.or_eq_false_iff] at hfa
                obtain ⟨hf1, rfl⟩ := hfa
                rw [hf1] at b7
                go_wp2_with fail
                go_roundg fz
                case measure => omega
                case rel =>
                  refine ⟨j + 1, s9.next, s9.found, s9.steps, N', nc', by omega, by omega, by rw [hz], by go_num, by omega, by omega, ?_, HRn.out⟩
                  rw [← HSE.out]
                  refine (search_on HPL2.out ?_).symm
                  rw [hf1]
                  simp
              have HST := hideP ((HSE.out.symm).trans (search_stop HPL2.out hz hfa))
              obtain ⟨v4, v5, v6, FA, fn, fc, wh, v11, hC, hF⟩ := HRn.out.run
              have hR := HRn.out
              have HA2 := hideP (HA.out.trans (show _ = ((s9.found, s9.steps), (0 : Int)) by show (runF is st k text a0 anchored, (0 : Int)) = _; rw [HST.out]))
              have b7' : wr.cell? ⟨b, 0 + 7, none⟩ = some (.bool s9.found.isSome) := hC.cellv rfl
              have b8 : wr.cell? ⟨b, 0 + 7 + 1, none⟩ = some (.slice FA fn fc) := hC.cellv rfl
              have b9 : wr.cell? ⟨b, 0 + 7 + 2, none⟩ = some (.int .i64 wh) := hC.cellv rfl
              have b10 : wr.cell? ⟨b, 0 + 7 + 3, none⟩ = some (.int .i64 (s9.steps : Int)) := hC.cellv rfl
              have f0 : wr.frozen? ⟨w.heap.size + 1, 0, none⟩ = false := hR.res.frozen 0
              have f1 : wr.frozen? ⟨w.heap.size + 1, 0 + 1, none⟩ = false := hR.res.frozen 1
              have f2 : wr.frozen? ⟨w.heap.size + 1, 0 + 2, none⟩ = false := hR.res.frozen 2
              have f3 : wr.frozen? ⟨w.heap.size + 1, 0 + 3, none⟩ = false := hR.res.frozen 3
              have r0 : wr.cell? ⟨w.heap.size + 1, 0, none⟩ = some (.bool false) := hR.res.cellv rfl
              have r1 : wr.cell? ⟨w.heap.size + 1, 0 + 1, none⟩ = some (.slice none 0 0) := hR.res.cellv rfl
              have r2 : wr.cell? ⟨w.heap.size + 1, 0 + 2, none⟩ = some (.int .i64 0) := hR.res.cellv rfl
              have r3 : wr.cell? ⟨w.heap.size + 1, 0 + 3, none⟩ = some (.int .i64 0) := hR.res.cellv rfl
              have D := (((hR.res.set_ 0 (.bool s9.found.isSome)).set_ (0 + 1) (.slice FA fn fc)).set_ (0 + 2) (.int .i64 wh)).set_ (0 + 3) (.int .i64 (s9.steps : Int))
              have q0 := D.cellv (i := 0) (v := .bool s9.found.isSome) rfl
              have q1 := D.cellv (i := 0 + 1) (v := .slice FA fn fc) rfl
              have q2 := D.cellv (i := 0 + 2) (v := .int .i64 wh) rfl
              have q3 := D.cellv (i := 0 + 3) (v := .int .i64 (s9.steps : Int)) rfl
              have HFin := hideP (found_out hR hF (.bool s9.found.isSome) (.slice FA fn fc) (.int .i64 wh) (.int .i64 (s9.steps : Int)))
              clear hR hF hC D
              rw [hz] at b6
              clear hz hz1 HST
              rcases hsf : s9.found.isSome with _ | _
              · rw [hsf] at b7 b7' q0 q1 q2 q3
                obtain rfl : anchored = true := by rw [hsf] at hfa; exact hfa
                clear hfa
                go_wp2_with fail
                refine bodyPost_ret (by simp [results, Try.results12, go_sem, q0, q1, q2, q3]; try rfl) rfl ?_
                rw [HA2.out]
                exact ⟨FA, fn, fc, wh, by first | rfl | (simp only; rw [hsf]), by rw [hsf] at HFin; exact HFin.out⟩
              · rw [hsf] at b7 b7' q0 q1 q2 q3
                go_wp2_with fail
                refine bodyPost_ret (by simp [results, Try.results12, go_sem, q0, q1, q2, q3]; try rfl) rfl ?_
                rw [HA2.out]
                exact ⟨FA, fn, fc, wh, by first | rfl | (simp only; rw [hsf]), by rw [hsf] at HFin; exact HFin.out⟩
            · have hstl : st < is.length := by omega
              have hnnk := HNN.out.keep (IntKeep.of HUi.out HV.out.notint)
              have HNk := hideP hnnk
              have hpbx : wr.cell? ⟨w.heap.size, 0 + 1, none⟩ = some (.int .i64 (st : Int)) := by
                obtain ⟨N', nc', b6, b7, hRn⟩ := HR.out.end_ HUV.out HV.out HUi.out HVi.out
                exact hRn.box.cellv rfl
              clear hnnk
              go_wp2_with fail
              refine (vis_any w1.heap.size b w1.heap.size is.length A c is st k T tc text j (by omega) (by omega) (by omega) HMAY.out (is.length + 1) wr st (List.replicate k (-1)) (some ⟨g, 0, none⟩) k s HVi.out hstl (by simp) HNk.out (by omega)).mono ?_
              rintro e w8 ⟨rfl, hV8, hU8⟩
              obtain ⟨s9, hs9⟩ : ∃ x : VSt, x = visitF is text j (is.length + 1) st (List.replicate k (-1)) s := ⟨_, rfl⟩
              have HPL := hideP (show placeF is st (List.replicate k (-1)) text j true ths fo steps = s9 by rw [hs9, HS0.out]; rfl)
              have HVX := hideP (hs9.symm ▸ hV8 : VisR w8 w1.heap.size b w1.heap.size is.length A c is st k T tc text j s9)
              have HUX := hideP (Fr.trans HUi.out hU8)
              clear hs9 hV8 hU8 hpbx
              obtain ⟨N', nc', b6, b7, hRn⟩ := HR.out.end_ HUV.out HV.out HUX.out HVX.out
              have HRn := hideP hRn
              have hwk := placeF_work (is := is) (text := text) (j := j) st (List.replicate k (-1)) true ths fo steps
              rw [HPL.out] at hwk
              have hnl := hwk.2
              have hsl := hwk.1
              have HPL2 := hideP (HOU.out.symm ▸ HPL.out : placeF is st (List.replicate k (-1)) text j (decide (j = a0) || !anchored && fo.isNone) ths fo steps = s9)
              clear hRn hwk
              by_cases hz : s9.next.length = 0
              rotate_left
              · have hz1 : ((s9.next.length : Int) == 0) = false := beq_eq_false_iff_ne.2 (fun h => hz (by omega))
                have hz2 : ¬ (s9.next.length : Int) = 0 := by omega
                go_wp2_with fail
                go_roundg fz
                case measure => omega
                case rel =>
                  refine ⟨j + 1, s9.next, s9.found, s9.steps, N', nc', by omega, by omega, rfl, by go_num, by omega, by omega, ?_, HRn.out⟩
                  rw [← HSE.out]
                  refine (search_on HPL2.out ?_).symm
                  rw [Bool.and_eq_false_iff]
                  exact .inl (by rw [Bool.eq_false_iff]; intro h; exact hz (by rw [List.isEmpty_iff.1 h]; rfl))
              have hz1 : ((s9.next.length : Int) == 0) = true := by rw [hz]; rfl
              rcases hfa : (s9.found.isSome || anchored) with _ | _
              · rw [Bool.or_eq_false_iff] at hfa
                obtain ⟨hf1, rfl⟩ := hfa
                rw [hf1] at b7
                go_wp2_with fail
                go_roundg fz
                case measure => omega
                case rel =>
                  refine ⟨j + 1, s9.next, s9.found, s9.steps, N', nc', by omega, by omega, by rw [hz], by go_num, by omega, by omega, ?_, HRn.out⟩
                  rw [← HSE.out]
                  refine (search_on HPL2.out ?_).symm
                  rw [hf1]
                  simp
              have HST := hideP ((HSE.out.symm).trans (search_stop HPL2.out hz hfa))
              obtain ⟨v4, v5, v6, FA, fn, fc, wh, v11, hC, hF⟩ := HRn.out.run
              have hR := HRn.out
              have HA2 := hideP (HA.out.trans (show _ = ((s9.found, s9.steps), (0 : Int)) by show (runF is st k text a0 anchored, (0 : Int)) = _; rw [HST.out]))
              have b7' : w8.cell? ⟨b, 0 + 7, none⟩ = some (.bool s9.found.isSome) := hC.cellv rfl
              have b8 : w8.cell? ⟨b, 0 + 7 + 1, none⟩ = some (.slice FA fn fc) := hC.cellv rfl
              have b9 : w8.cell? ⟨b, 0 + 7 + 2, none⟩ = some (.int .i64 wh) := hC.cellv rfl
              have b10 : w8.cell? ⟨b, 0 + 7 + 3, none⟩ = some (.int .i64 (s9.steps : Int)) := hC.cellv rfl
              have f0 : w8.frozen? ⟨w.heap.size + 1, 0, none⟩ = false := hR.res.frozen 0
              have f1 : w8.frozen? ⟨w.heap.size + 1, 0 + 1, none⟩ = false := hR.res.frozen 1
              have f2 : w8.frozen? ⟨w.heap.size + 1, 0 + 2, none⟩ = false := hR.res.frozen 2
              have f3 : w8.frozen? ⟨w.heap.size + 1, 0 + 3, none⟩ = false := hR.res.frozen 3
              have r0 : w8.cell? ⟨w.heap.size + 1, 0, none⟩ = some (.bool false) := hR.res.cellv rfl
              have r1 : w8.cell? ⟨w.heap.size + 1, 0 + 1, none⟩ = some (.slice none 0 0) := hR.res.cellv rfl
              have r2 : w8.cell? ⟨w.heap.size + 1, 0 + 2, none⟩ = some (.int .i64 0) := hR.res.cellv rfl
              have r3 : w8.cell? ⟨w.heap.size + 1, 0 + 3, none⟩ = some (.int .i64 0) := hR.res.cellv rfl
              have D := (((hR.res.set_ 0 (.bool s9.found.isSome)).set_ (0 + 1) (.slice FA fn fc)).set_ (0 + 2) (.int .i64 wh)).set_ (0 + 3) (.int .i64 (s9.steps : Int))
              have q0 := D.cellv (i := 0) (v := .bool s9.found.isSome) rfl
              have q1 := D.cellv (i := 0 + 1) (v := .slice FA fn fc) rfl
              have q2 := D.cellv (i := 0 + 2) (v := .int .i64 wh) rfl
              have q3 := D.cellv (i := 0 + 3) (v := .int .i64 (s9.steps : Int)) rfl
              have HFin := hideP (found_out hR hF (.bool s9.found.isSome) (.slice FA fn fc) (.int .i64 wh) (.int .i64 (s9.steps : Int)))
              clear hR hF hC D
              rw [hz] at b6
              clear hz hz1 HST
              rcases hsf : s9.found.isSome with _ | _
              · rw [hsf] at b7 b7' q0 q1 q2 q3
                obtain rfl : anchored = true := by rw [hsf] at hfa; exact hfa
                clear hfa
                go_wp2_with fail
                refine bodyPost_ret (by simp [results, Try.results12, go_sem, q0, q1, q2, q3]; try rfl) rfl ?_
                rw [HA2.out]
                exact ⟨FA, fn, fc, wh, by first | rfl | (simp only; rw [hsf]), by rw [hsf] at HFin; exact HFin.out⟩
              · rw [hsf] at b7 b7' q0 q1 q2 q3
                go_wp2_with fail
                refine bodyPost_ret (by simp [results, Try.results12, go_sem, q0, q1, q2, q3]; try rfl) rfl ?_
                rw [HA2.out]
                exact ⟨FA, fn, fc, wh, by first | rfl | (simp only; rw [hsf]), by rw [hsf] at HFin; exact HFin.out⟩
end Go.Proofs.Ytnkefclbchpafaa
