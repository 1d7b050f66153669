/-
  ReadW, RefRT, RefRS, put together.
-/
import Derived.Test.YtdbdokjlcdogiaaDoorZ26ReadA
import Derived.Test.YtdbdokjlcdogiaaDoorZ24LoadX
import Derived.Test.YtdbdokjlcdogiaaDoorZ19RefJT
import Derived.Test.YtdbdokjlcdogiaaDoorZ25WordW

/-
  The walk of code.Read. Printed by tools/mkReadW.py.
-/
namespace Go.Proofs.YtdbdokjlcdogiaaDoor
open Go.RowKit
set_option linter.unusedVariables false

theorem wordsAt_pos (s : ByteArray) : ∀ (n k : Nat), s.size - k ≤ n → k ≤ s.size → ∀ v ∈ wordsAt s k, 0 < v.size
  | n, k, hn, hk, v, hv => by
    rw [wordsAt_step hk] at hv
    by_cases h : wordAt s k < s.size
    · have a := wordAt_le hk
      have b := wordEnd_gt hk h
      rw [if_pos h] at hv
      match n, hn with
      | 0, hn => omega
      | n + 1, hn =>
        rcases List.mem_cons.1 hv with rfl | hv
        · exact wordV_some hk h
        · exact wordsAt_pos s n (wordEnd s (wordAt s k)) (by omega) b.2 v hv
    · rw [if_neg h] at hv
      cases hv
/-- the same, stage by stage -/
def readS (ws : List ByteArray) : Option (List PInst × Int × Int) :=
  if headW ws = capsW then match wnumT ws.tail with
    | none => none
    | some (caps, r) => if headW r = startW then match wnumT r.tail with
      | none => none
      | some (start, r2) => match instsT 20000 r2 with
        | none => none
        | some is => if checkB is start caps = true then some (is, start, caps) else none
    else none
  else none
theorem empty_caps : ¬ (⟨#[]⟩ : ByteArray) = capsW := by
  intro h
  have := congrArg ByteArray.size h
  revert this
  decide
theorem empty_start : ¬ (⟨#[]⟩ : ByteArray) = startW := by
  intro h
  have := congrArg ByteArray.size h
  revert this
  decide
theorem readS_eq (ws : List ByteArray) : readS ws = readT ws := by
  match ws with
  | [] => unfold readS; rw [if_neg (show ¬ headW [] = capsW from empty_caps)]; rfl
  | [a] =>
    unfold readS
    split <;> rfl
  | [a, b] =>
    unfold readS
    split
    · show (match wnumT [b] with | none => _ | some (caps, r) => _) = _
      rw [wnumT_cons]
      cases numV b with
      | none => rfl
      | some n =>
        simp only
        rw [if_neg (show ¬ headW [] = startW from empty_start)]
        rfl
    · rfl
  | [a, b, c] =>
    unfold readS
    split
    · show (match wnumT [b, c] with | none => _ | some (caps, r) => _) = _
      rw [wnumT_cons]
      cases numV b with
      | none => rfl
      | some n =>
        simp only
        split <;> rfl
    · rfl
  | a :: b :: c :: d :: r =>
    rw [readT_cons]
    unfold readS
    have e1 : headW (a :: b :: c :: d :: r) = a := rfl
    have e2 : (a :: b :: c :: d :: r).tail = b :: c :: d :: r := rfl
    rw [e1, e2, wnumT_cons]
    by_cases h1 : a = capsW
    · rw [if_pos h1]
      cases hb : numV b with
      | none =>
        simp only
        split <;> rfl
      | some n =>
        simp only
        have e3 : headW (c :: d :: r) = c := rfl
        have e4 : (c :: d :: r).tail = d :: r := rfl
        rw [e3, e4, wnumT_cons]
        by_cases h2 : c = startW
        · rw [if_pos h2, if_pos ⟨h1, h2⟩]
          cases hd : numV d with
          | none => rfl
          | some m => rfl
        · rw [if_neg h2, if_neg (fun h => h2 h.2)]
    · rw [if_neg h1, if_neg (fun h => h1 h.1)]
theorem eqB_yes {a b : ByteArray} (h : a = b) : (a.toList == b.toList) = true := by rw [h]; simp
theorem eqB_no {a b : ByteArray} (h : ¬ a = b) : (a.toList == b.toList) = false := by
  cases hq : (a.toList == b.toList) with
  | false => rfl
  | true =>
    have h2 := LawfulBEq.eq_of_beq hq
    rw [ByteArray.toList_eq, ByteArray.toList_eq] at h2
    exact absurd (Go.WideShapes.bytes_inj h2) h
theorem capsL : capsW.toList = [99, 97, 112, 115] := by rw [ByteArray.toList_eq]; rfl
theorem startL : startW.toList = [115, 116, 97, 114, 116] := by rw [ByteArray.toList_eq]; rfl
theorem caps_yes {a : ByteArray} (h : a = capsW) : (a.toList == [99, 97, 112, 115]) = true := by rw [← capsL]; exact eqB_yes h
theorem caps_no {a : ByteArray} (h : ¬ a = capsW) : (a.toList == [99, 97, 112, 115]) = false := by rw [← capsL]; exact eqB_no h
theorem start_yes {a : ByteArray} (h : a = startW) : (a.toList == [115, 116, 97, 114, 116]) = true := by rw [← startL]; exact eqB_yes h
theorem start_no {a : ByteArray} (h : ¬ a = startW) : (a.toList == [115, 116, 97, 114, 116]) = false := by rw [← startL]; exact eqB_no h
theorem wnumT_mem {ws r : List ByteArray} {n : Int} (h : wnumT ws = some (n, r)) {v : ByteArray} (hv : v ∈ r) : v ∈ ws := by
  cases ws with
  | nil => cases h
  | cons u q =>
    rw [wnumT_cons] at h
    cases hu : numV u with
    | none => rw [hu] at h; cases h
    | some m =>
      rw [hu] at h
      simp only [Option.some.injEq, Prod.mk.injEq] at h
      rw [h.2]
      exact List.mem_cons_of_mem _ hv
theorem rangesT_mem : ∀ (n : Nat) (ws : List ByteArray) (rs : List (Int × Int)) (q : List ByteArray), rangesT n ws = some (rs, q) → ∀ v ∈ q, v ∈ ws
  | 0, ws, rs, q, h, v, hv => by
    unfold rangesT at h
    injection h with h
    injection h with h1 h2
    rw [h2]
    exact hv
  | n + 1, ws, rs, q, h, v, hv => by
    rw [rangesT_more] at h
    cases h1 : wnumT ws with
    | none => rw [h1] at h; cases h
    | some a =>
      obtain ⟨lo, r1⟩ := a
      rw [h1] at h
      simp only at h
      cases h2 : wnumT r1 with
      | none => rw [h2] at h; cases h
      | some c =>
        obtain ⟨hi, r2⟩ := c
        rw [h2] at h
        simp only at h
        cases h3 : rangesT n r2 with
        | none => rw [h3] at h; cases h
        | some d =>
          obtain ⟨rs', r3⟩ := d
          rw [h3] at h
          simp only at h
          injection h with h
          injection h with e1 e2
          subst e2
          exact wnumT_mem h1 (wnumT_mem h2 (rangesT_mem n r2 rs' r3 h3 v hv))
theorem fieldsT_mem {op : Int} {ws q : List ByteArray} {x : PInst} (h : fieldsT op ws = some (x, q)) {v : ByteArray} (hv : v ∈ q) : v ∈ ws := by
  have one : ∀ {f : Int → PInst}, (match wnumT ws with | none => none | some (a, r) => some (f a, r)) = some (x, q) → v ∈ ws := fun {f} h => by
    cases h1 : wnumT ws with
    | none => rw [h1] at h; cases h
    | some a =>
      obtain ⟨a, r⟩ := a
      rw [h1] at h
      simp only [Option.some.injEq, Prod.mk.injEq] at h
      exact wnumT_mem h1 (by rw [h.2]; exact hv)
  have two : ∀ {f : Int → Int → PInst}, (match wnumT ws with | none => none | some (a, r) => match wnumT r with | none => none | some (b, r2) => some (f a b, r2)) = some (x, q) → v ∈ ws := fun {f} h => by
    cases h1 : wnumT ws with
    | none => rw [h1] at h; cases h
    | some a =>
      obtain ⟨a, r⟩ := a
      rw [h1] at h
      simp only at h
      cases h2 : wnumT r with
      | none => rw [h2] at h; cases h
      | some b =>
        obtain ⟨b, r2⟩ := b
        rw [h2] at h
        simp only [Option.some.injEq, Prod.mk.injEq] at h
        exact wnumT_mem h1 (wnumT_mem h2 (by rw [h.2]; exact hv))
  unfold fieldsT at h
  split at h
  · cases h1 : wnumT ws with
    | none => rw [h1] at h; cases h
    | some a =>
      obtain ⟨a, r⟩ := a
      rw [h1] at h
      simp only at h
      cases h2 : wnumT r with
      | none => rw [h2] at h; cases h
      | some b =>
        obtain ⟨n, r2⟩ := b
        rw [h2] at h
        simp only at h
        cases h3 : rangesT n.toNat r2 with
        | none => rw [h3] at h; cases h
        | some c =>
          obtain ⟨rs, r3⟩ := c
          rw [h3] at h
          simp only [Option.some.injEq, Prod.mk.injEq] at h
          exact wnumT_mem h1 (wnumT_mem h2 (rangesT_mem _ _ _ _ h3 v (by rw [h.2]; exact hv)))
  split at h
  · exact two (f := fun a b => ⟨2, a, b, 0, []⟩) h
  split at h
  · exact two (f := fun a b => ⟨op, b, 0, a, []⟩) h
  split at h
  · exact one (f := fun a => ⟨7, a, 0, 0, []⟩) h
  split at h
  · exact one (f := fun a => ⟨5, 0, 0, a, []⟩) h
  split at h
  · injection h with h
    injection h with h1 h2
    rw [h2]
    exact hv
  · cases h
theorem instsT_step (n : Nat) (v : ByteArray) (r : List ByteArray) : instsT (n + 1) (v :: r) = match fieldsT (nameOf v : Nat) r with
    | none => none
    | some (x, q) => match instsT n q with
      | none => none
      | some is => some (x :: is) := rfl
theorem not_empty {v : ByteArray} (h : 0 < v.size) : (v.toList == []) = false := by
  rw [ByteArray.toList_eq]
  cases hq : v.data.toList with
  | nil =>
    have := congrArg List.length hq
    rw [Array.length_toList] at this
    have h2 : v.size = v.data.size := rfl
    simp only [List.length_nil] at this
    omega
  | cons a l => rfl
theorem fieldsT_in {v : ByteArray} {r q : List ByteArray} {x : PInst} (hl : r.length ≤ 8388607) (h : fieldsT (nameOf v : Nat) r = some (x, q)) : NumI x := by
  have e := (instT_fields v r).1 x q h
  have := (instT_in (b := false) (r := v :: r) (by simp only [List.length_cons]; omega)).1
  rw [e] at this
  exact this
set_option maxRecDepth 100000 in
set_option maxHeartbeats 8000000 in
theorem read_main (w : World) (s : ByteArray) (hs : s.size ≤ 8388608) (hwt : WordTab w) : Calls Tryd.prog 20 #[.string s] w (LoadAns w (readS (wordsAt s 0)) 100) := by
  generalize hP : LoadAns w (readS (wordsAt s 0)) 100 = P
  have HNO := hideP (show readS (wordsAt s 0) = none → ∀ w', Upd Nob w w' → P (.returned (.tuple #[.agg #[.slice none 0 0, .int .i64 0, .int .i64 0], .int .i64 100])) w' from fun h w' hv => by rw [← hP, h]; exact ⟨rfl, hv⟩)
  have HYES := hideP (show ∀ is start caps A c gs w', readS (wordsAt s 0) = some (is, start, caps) → ProgW w' w.heap.size A c is gs → Upd Nob w w' → P (.returned (.tuple #[.agg #[.slice A is.length c, .int .i64 start, .int .i64 caps], .int .i64 0])) w' from fun is start caps A c gs w' h hp hv => by rw [← hP, h]; exact ⟨A, c, gs, rfl, hp, hv⟩)
  clear hP
  have hl : ¬ (8388608 : Int) < (s.size : Int) := by omega
  have HWT0 := hideP hwt
  have hmf : ∀ (fn : Fn) (first cap : Array Value) (w : World), (Instr.makeFunc fn first cap).run Tryd.prog w = .ok (.func fn first cap) w := fun _ _ _ _ => rfl
  have C0 : Cells ((w.alloc (.cells #[.slice none 0 0, .int .i64 0, .int .i64 0] 24)).alloc (.cells #[.int .i64 0] 31)) w.heap.size 24 #[.slice none 0 0, .int .i64 0, .int .i64 0] := (Cells.new _ _ _).alloc _
  have C1 := Cells.new (w.alloc (.cells #[.slice none 0 0, .int .i64 0, .int .i64 0] 24)) 31 #[.int .i64 0]
  rw [World.size_alloc] at C1
  have hU : Upd Nob w ((w.alloc (.cells #[.slice none 0 0, .int .i64 0, .int .i64 0] 24)).alloc (.cells #[.int .i64 0] 31)) := ((Upd.refl Nob w).alloc _).alloc _
  clear hwt
  go_enter_defers Tryd.func20, Tryd.ntmps20
  go_upto_region 4 with fail
  generalize ((w.alloc (.cells #[.slice none 0 0, .int .i64 0, .int .i64 0] 24)).alloc (.cells #[.int .i64 0] 31)) = w2 at *
  have hlb := C1.lt
  have HT := hideP (show WordR (w2.alloc (.cells #[.string s, .int .i64 0] 77)) Nob w2.heap.size (wordsAt s 0) from ⟨⟨s, 0, ⟨Cells.new w2 _ _, Nat.zero_le _, hs⟩, rfl⟩⟩)
  have HC0 := hideP (C0.alloc (.cells #[.string s, .int .i64 0] 77))
  have HC1 := hideP (C1.alloc (.cells #[.string s, .int .i64 0] 77))
  have HU := hideP (hU.alloc (.cells #[.string s, .int .i64 0] 77))
  have HPOS := hideP (wordsAt_pos s _ 0 (Nat.le_refl _) (Nat.zero_le _))
  clear C0 C1 hU hmf
  go_upto_region 5 with fail
  change Code.wp _ _ _ _ (w2.alloc (.cells #[.string s, .int .i64 0] 77))
  generalize w2.alloc (.cells #[.string s, .int .i64 0] 77) = w8 at *
  generalize w2.heap.size = lb at *
  generalize wordsAt s 0 = ws at *
  have hfew := HT.out.few
  have hn1 : ¬ w.heap.size = lb := by omega
  have hn2 : ¬ w.heap.size + 1 = lb := by omega
  clear hl hs
  by_cases hcap : headW ws = capsW
  case neg =>
    have HQ := hideP (caps_no hcap)
    have HR := hideP (show readS ws = none from by unfold readS; rw [if_neg hcap])
    clear hcap
    go_wp2_with (first | (go_at_call 43; refine (tword_w _ Nob lb ws HT.out).mono ?_; rintro e w9 ⟨rfl, hT9, hU9⟩) | (go_at_call 31; refine (need_not _ _ (by first | rfl | exact HQ.out)).mono ?_; rintro e w7 ⟨rfl, hw7⟩; subst hw7))
    exact read_no _ _ _ _ _ _ _ _ _ ⟨rfl, rfl, rfl⟩ (HC0.out.upd hU9 hn1) (HC1.out.upd hU9 hn2) (by omega) (fun w' hv => HNO.out (HR.out) w' ((HU.out.trans hU9 (fun b hb (h : b = lb) => by omega)).trans hv (fun b hb h => by rcases h with h | h <;> omega)))
  have HQ := hideP (caps_yes hcap)
  have HR := hideP (show readS ws = match wnumT ws.tail with
    | none => none
    | some (caps, r) => if headW r = startW then match wnumT r.tail with
      | none => none
      | some (start, r2) => match instsT 20000 r2 with
        | none => none
        | some is => if checkB is start caps = true then some (is, start, caps) else none
    else none from by unfold readS; rw [if_pos hcap])
  clear hcap
  go_upto_region 6 with (first | (go_at_call 43; refine (tword_w _ Nob lb ws HT.out).mono ?_; rintro e w9 ⟨rfl, hT9, hU9⟩) | (go_at_call 31; refine (need_is _ _ (by first | rfl | exact HQ.out)).mono ?_; rintro e w7 ⟨rfl, hw7⟩; subst hw7))
  have HT := hideP hT9
  have HC0 := hideP (HC0.out.upd hU9 hn1)
  have HC1 := hideP (HC1.out.upd hU9 hn2)
  have HU := hideP (HU.out.trans hU9 (fun b hb (h : b = lb) => by omega))
  clear hT9 hU9 HQ
  generalize hN : wnumT ws.tail = N at *
  have HN := hideP hN
  clear hN
  cases N with
  | none =>
    go_wp2_with (go_at_call 44; refine (tnum_w _ Nob lb ws.tail HT.out).mono ?_; rw [HN.out]; rintro e w9 ⟨rfl, hU9⟩)
    exact read_no _ _ _ _ _ _ _ _ _ ⟨rfl, rfl, rfl⟩ (HC0.out.upd hU9 hn1) (HC1.out.upd hU9 hn2) (by omega) (fun w' hv => HNO.out (HR.out) w' ((HU.out.trans hU9 (fun b hb (h : b = lb) => by omega)).trans hv (fun b hb h => by rcases h with h | h <;> omega)))
  | some xr =>
  obtain ⟨caps, r1⟩ := xr
  have ci := wnumT_in HN.out
  simp only at HR
  go_upto_region 7 with (go_at_call 44; refine (tnum_w _ Nob lb ws.tail HT.out).mono ?_; rw [HN.out]; rintro e w9 ⟨rfl, hL9, hU9⟩; have cx9 := (HC0.out).upd hU9 hn1; have z9 := cx9.cellv (i := 0 + 2) rfl; have f9 := cx9.frozen (0 + 2))
  have HT := hideP (hL9.upd ((Upd.refl (fun b => b = w.heap.size) w9).setCell ⟨w.heap.size, 0 + 2, none⟩ (.int .i64 caps) (fun _ => rfl)) (fun e => hn1 e.symm) (fun b hb => absurd hb not_nob))
  have HC1 := hideP ((HC1.out.upd hU9 hn2).far ⟨w.heap.size, 0 + 2, none⟩ (.int .i64 caps) (by simp))
  have HC0 := hideP (cx9.set_ (0 + 2) (.int .i64 caps))
  have HU := hideP ((HU.out.trans hU9 (fun b hb (h : b = lb) => by omega)).setCell ⟨w.heap.size, 0 + 2, none⟩ (.int .i64 caps) (fun h => absurd h (Nat.lt_irrefl _)))
  clear hL9 hU9 cx9 z9 f9
  generalize w9.setCell ⟨w.heap.size, 0 + 2, none⟩ (.int .i64 caps) = wa at *
  by_cases hst : headW r1 = startW
  case neg =>
    have HQ := hideP (start_no hst)
    rw [if_neg hst] at HR
    clear hst
    go_wp2_with (first | (go_at_call 43; refine (tword_w _ Nob lb r1 HT.out).mono ?_; rintro e w9 ⟨rfl, hT9, hU9⟩) | (go_at_call 31; refine (need_not _ _ (by first | rfl | exact HQ.out)).mono ?_; rintro e w7 ⟨rfl, hw7⟩; subst hw7))
    exact read_no _ _ _ _ _ _ _ _ _ ⟨rfl, rfl, rfl⟩ (HC0.out.upd hU9 hn1) (HC1.out.upd hU9 hn2) (by omega) (fun w' hv => HNO.out (HR.out) w' ((HU.out.trans hU9 (fun b hb (h : b = lb) => by omega)).trans hv (fun b hb h => by rcases h with h | h <;> omega)))
  have HQ := hideP (start_yes hst)
  rw [if_pos hst] at HR
  clear hst
  go_upto_region 8 with (first | (go_at_call 43; refine (tword_w _ Nob lb r1 HT.out).mono ?_; rintro e w9 ⟨rfl, hT9, hU9⟩) | (go_at_call 31; refine (need_is _ _ (by first | rfl | exact HQ.out)).mono ?_; rintro e w7 ⟨rfl, hw7⟩; subst hw7))
  have HT := hideP hT9
  have HC0 := hideP (HC0.out.upd hU9 hn1)
  have HC1 := hideP (HC1.out.upd hU9 hn2)
  have HU := hideP (HU.out.trans hU9 (fun b hb (h : b = lb) => by omega))
  clear hT9 hU9 HQ
  generalize hN2 : wnumT r1.tail = N2 at *
  have HN2 := hideP hN2
  clear hN2
  cases N2 with
  | none =>
    go_wp2_with (go_at_call 44; refine (tnum_w _ Nob lb r1.tail HT.out).mono ?_; rw [HN2.out]; rintro e w9 ⟨rfl, hU9⟩)
    exact read_no _ _ _ _ _ _ _ _ _ ⟨rfl, rfl, rfl⟩ (HC0.out.upd hU9 hn1) (HC1.out.upd hU9 hn2) (by omega) (fun w' hv => HNO.out (HR.out) w' ((HU.out.trans hU9 (fun b hb (h : b = lb) => by omega)).trans hv (fun b hb h => by rcases h with h | h <;> omega)))
  | some xr =>
  obtain ⟨start, r2⟩ := xr
  have si := wnumT_in HN2.out
  simp only at HR
  go_upto_region 9 with (go_at_call 44; refine (tnum_w _ Nob lb r1.tail HT.out).mono ?_; rw [HN2.out]; rintro e w9 ⟨rfl, hL9, hU9⟩; have cx9 := (HC0.out).upd hU9 hn1; have z9 := cx9.cellv (i := 0 + 1) rfl; have f9 := cx9.frozen (0 + 1))
  have HT := hideP (hL9.upd ((Upd.refl (fun b => b = w.heap.size) w9).setCell ⟨w.heap.size, 0 + 1, none⟩ (.int .i64 start) (fun _ => rfl)) (fun e => hn1 e.symm) (fun b hb => absurd hb not_nob))
  have HC1 := hideP ((HC1.out.upd hU9 hn2).far ⟨w.heap.size, 0 + 1, none⟩ (.int .i64 start) (by simp))
  have HC0 := hideP (cx9.set_ (0 + 1) (.int .i64 start))
  have HU := hideP ((HU.out.trans hU9 (fun b hb (h : b = lb) => by omega)).setCell ⟨w.heap.size, 0 + 1, none⟩ (.int .i64 start) (fun h => absurd h (Nat.lt_irrefl _)))
  clear hL9 hU9 cx9 z9 f9
  generalize w9.setCell ⟨w.heap.size, 0 + 1, none⟩ (.int .i64 start) = wb at *
  have HP2 := hideP (show ∀ v ∈ r2, 0 < v.size from fun v hv => HPOS.out v (List.mem_of_mem_tail (wnumT_mem HN.out (List.mem_of_mem_tail (wnumT_mem HN2.out hv)))))
  have hrl : r2.length ≤ 8388607 := by
    have h1 := nxtT_less (nxtT_some HN2.out)
    have h2 := nxtT_less (nxtT_some HN.out)
    rw [List.length_tail] at h1 h2
    omega
  clear HPOS HN HN2
  go_wp2_with (go_at_call 43; refine (tword_w _ Nob lb r2 HT.out).mono ?_; rintro e w9 ⟨rfl, hT9, hU9⟩)
  have HT := hideP hT9
  have HC0 := hideP (HC0.out.upd hU9 hn1)
  have HC1 := hideP (HC1.out.upd hU9 hn2)
  have HU := hideP (HU.out.trans hU9 (fun b hb (h : b = lb) => by omega))
  clear hT9 hU9
  go_loopg [5] r2.length (fun gk v5 wr => ∃ (q : List ByteArray) (is : List PInst) (gs : List (Option Addr × Nat)) (A : Option Addr) (c : Nat), q.length = gk ∧ v5 = .string (headW q) ∧ is.length ≤ 20000 ∧ Cells wr w.heap.size 24 #[.slice A is.length c, .int .i64 start, .int .i64 caps] ∧ Cells wr (w.heap.size + 1) 31 #[.int .i64 0] ∧ ProgW wr (lb + 1) A c is gs ∧ (∀ x ∈ is, NumI x) ∧ WordR wr Nob lb q.tail ∧ (∀ v ∈ q, 0 < v.size) ∧ q.length ≤ 8388607 ∧ instsT 20000 r2 = (instsT (20000 - is.length) q).map (fun p => is ++ p) ∧ Upd Nob w wr)
  case atStart => exact ⟨r2, [], [], none, 0, rfl, rfl, by simp, HC0.out, HC1.out, ProgW.none_ _ _, fun x hx => by simp at hx, HT.out, HP2.out, hrl, by simp, HU.out⟩
  case round =>
    clear HC0 HC1 HT HU HP2 hrl
    obtain ⟨q, is, gs, A, c, hk, rfl, hlen, hC0, hC1, hP, hNI, hL, hq, hql, hI, hU⟩ := hrel
    have HC0 := hideP hC0
    have HC1 := hideP hC1
    have HP := hideP hP
    have HNI := hideP hNI
    have HL := hideP hL
    have HI := hideP hI
    have HU := hideP hU
    have HK := hideP hk
    cases q with
    | nil =>
      have c0 := hC0.cellv (i := 0) rfl
      have c1 := hC0.cellv (i := 1) rfl
      have c2 := hC0.cellv (i := 2) rfl
      have d0 := hC1.cellv (i := 0) rfl
      have f0 := hC0.frozen 0
      have f1 := hC0.frozen 1
      have f2 := hC0.frozen 2
      have g0 := hC1.frozen 0
      clear hC0 hC1 hP hNI hL hI hU hk hq hql
      have HB3 := hideP (show readS ws = if checkB is start caps = true then some (is, start, caps) else none from by
        rw [HR.out, HI.out, show instsT (20000 - is.length) [] = some [] by cases 20000 - is.length <;> rfl]
        simp)
      have hin : In64 caps := by unfold In64; omega
      have hst : In64 start := by unfold In64; omega
      have he : headW [] = (⟨#[]⟩ : ByteArray) := rfl
      rw [he]
      clear he
      have he : (⟨#[]⟩ : ByteArray).toList = [] := by rw [ByteArray.toList_eq]
      by_cases hb : ¬ checkB is start caps = true
      · go_wp2_with (first | (go_at_call 37; refine (check_not HP.out HNI.out hst hin hlen hb).mono ?_; rintro e w9 ⟨rfl, hU9⟩) | (go_at_call 31; refine (need_not _ _ (by first | rfl | exact decide_eq_false (by omega))).mono ?_; rintro e w7 ⟨rfl, hw7⟩; subst hw7))
        exact read_no _ _ _ _ _ _ _ _ _ ⟨rfl, rfl, rfl⟩ (HC0.out.upd hU9 not_nob) (HC1.out.upd hU9 not_nob) (by omega) (fun w' hv => HNO.out (by rw [HB3.out, if_neg hb]) w' ((HU.out.trans hU9 (fun _ _ h => h)).trans hv (fun b hb h => by rcases h with h | h <;> omega)))
      have hb := Classical.not_not.1 hb
      go_upto_region 15 with (first | (go_at_call 37; refine (check_yes HP.out HNI.out hst hin hlen hb).mono ?_; rintro e w9 ⟨rfl, hU9⟩) | (go_at_call 31; refine (need_is _ _ (by first | rfl | exact decide_eq_true (by omega))).mono ?_; rintro e w7 ⟨rfl, hw7⟩; subst hw7))
      have cy := HC0.out.upd hU9 not_nob
      have cz := HC1.out.upd hU9 not_nob
      have y0 := cy.cellv (i := 0) rfl
      have y1 := cy.cellv (i := 1) rfl
      have y2 := cy.cellv (i := 2) rfl
      have z0 := cz.cellv (i := 0) rfl
      have fy0 := cy.frozen 0
      have fy1 := cy.frozen 1
      have fy2 := cy.frozen 2
      have fz0 := cz.frozen 0
      clear c0 c1 c2 d0 f0 f1 f2 g0
      go_wp2_with fail
      have cp := (((cy.set_ 0 (.slice A is.length c)).set_ 1 (.int .i64 start)).set_ 2 (.int .i64 caps)).far ⟨w.heap.size + 1, 0, none⟩ (.int .i64 0) (by simp)
      have ce := (((cz.far ⟨w.heap.size, 0, none⟩ (.slice A is.length c) (by simp)).far ⟨w.heap.size, 1, none⟩ (.int .i64 start) (by simp)).far ⟨w.heap.size, 2, none⟩ (.int .i64 caps) (by simp)).set_ 0 (.int .i64 0)
      exact read_yes _ _ _ _ _ _ _ _ _ ⟨rfl, rfl, rfl⟩ cp ce (HYES.out is start caps A c gs _ (by rw [HB3.out]; simp [hb]) (((HP.out.upd hU9 (fun _ _ => not_nob)).upd (upd_four _ _ _ _ _ _ _) (fun b hb h => by rcases h with h | h <;> omega)).base_ (by omega)) ((HU.out.trans hU9 (fun _ _ h => h)).trans (upd_four _ _ _ _ _ _ _) (fun b hb h => by rcases h with h | h <;> omega)))
    | cons v r =>
      have HV := hideP (not_empty (hq v (by simp)))
      have HQ := hideP (show ∀ u ∈ r, 0 < u.size from fun u hu => hq u (by simp [hu]))
      have c0 := hC0.cellv (i := 0) rfl
      have hrl : r.length ≤ 8388606 := by simp only [List.length_cons] at hql; omega
      have hv := HV.out
      have he : headW (v :: r) = v := rfl
      rw [he]
      have he2 : (v :: r).tail = r := rfl
      rw [he2] at HL
      clear hC0 hC1 hP hNI hL hI hU hk hq hql he he2
      by_cases hlt : ¬ is.length < 20000
      · have h20 : is.length = 20000 := by omega
        have HB := hideP (show readS ws = none from by
          rw [HR.out, HI.out, h20]
          rfl)
        have g1 : ¬ (is.length : Int) < 20000 := by omega
        clear h20
        go_wp2_with (go_at_call 31; refine (need_not _ _ (by first | rfl | exact decide_eq_false (by omega))).mono ?_; rintro e w7 ⟨rfl, hw7⟩; subst hw7)
        exact read_no _ _ _ _ _ _ _ _ _ ⟨rfl, rfl, rfl⟩ (HC0.out) (HC1.out) (by omega) (fun w' hv => HNO.out (HB.out) w' ((HU.out).trans hv (fun b hb h => by rcases h with h | h <;> omega)))
      have hlt : is.length < 20000 := by omega
      have hms : 20000 - is.length = (20000 - (is.length + 1)) + 1 := by omega
      have g1 : (is.length : Int) < 20000 := by omega
      have HMS := hideP hms
      clear hms
      go_upto_region 13 with (go_at_call 31; refine (need_is _ _ (by first | rfl | exact decide_eq_true (by omega))).mono ?_; rintro e w7 ⟨rfl, hw7⟩; subst hw7)
      clear c0 hv
      refine read_reg13 _ w7 Nob _ _ lb (lb + 1) c A is gs v r _ _ _ _ _ _ _ _ _ _ _ _ _ _ _ _ _ _ _ _ _ _ _ _ _ _ _ _ _ _ _ _ _ _ _ _ _ _ _ _ _ _ _ _ _ _ _ _ _ _ _ _ (HWT0.out.upd HU.out) HL.out HC0.out HP.out (fun b hb => absurd hb not_nob) hn1 (by omega) (by omega) (by have := HL.out.lt; omega) hlt (fun hop a w' hd hU2 => ?_) (fun x r' hop _ _ _ _ _ _ _ _ _ _ A' c' gs' w' hC2 hP2 hL2 hU2 => ?_)
      · exact read_no _ a _ _ _ _ _ _ w' hd (HC0.out.upd hU2 hn1) (HC1.out.upd hU2 hn2) (by omega) (fun w2 hv => HNO.out (by rw [HR.out, HI.out, HMS.out, instsT_step, hop]; rfl) w2 ((HU.out.trans hU2 (fun b hb (h : b = lb) => by omega)).trans hv (fun b hb h => by rcases h with h | h <;> omega)))
      · have HL2 := hideP hL2
        have HC2 := hideP hC2
        have HP2 := hideP hP2
        have HU2 := hideP hU2
        have HOP := hideP hop
        clear hL2 hC2 hP2 hU2 hop
        go_wp2_with (go_at_call 43; refine (tword_w _ Nob lb r' HL2.out).mono ?_; rintro e w9 ⟨rfl, hT9, hU9⟩)
        go_roundg r'.length
        case measure => have h1 := fieldsT_len (o := 0) HOP.out; have h2 := HK.out; simp only [List.length_cons] at h2; omega
        case rel => exact ⟨r', is ++ [x], gs', A', c', rfl, rfl, by simp; omega, by rw [List.length_append]; exact HC2.out.upd hU9 hn1, (HC1.out.upd HU2.out (by omega)).upd hU9 hn2, HP2.out.upd hU9 (fun b hb (e : b = lb) => by omega), fun y hy => by
            rcases List.mem_append.1 hy with hy | hy
            · exact HNI.out y hy
            · obtain rfl : y = x := by simpa using hy
              exact fieldsT_in (by omega) HOP.out, hT9, fun u hu => HQ.out u (fieldsT_mem HOP.out hu), by have h1 := fieldsT_len (o := 0) HOP.out; omega, by
            rw [HI.out, HMS.out, instsT_step, HOP.out, List.length_append]
            simp only [List.length_cons, List.length_nil]
            cases instsT (20000 - (is.length + (0 + 1))) r' with
            | none => rfl
            | some p => simp, (HU.out.trans HU2.out (fun b hb h => by rcases h with h | h | h <;> omega)).trans hU9 (fun b hb (h : b = lb) => by omega)⟩
set_option maxRecDepth 100000 in
set_option maxHeartbeats 1000000 in
theorem read_over (w : World) (s : ByteArray) (hn : 8388608 < s.size) : Calls Tryd.prog 20 #[.string s] w (LoadAns w none 2) := by
  have hl : (8388608 : Int) < (s.size : Int) := by omega
  have C0 : Cells ((w.alloc (.cells #[.slice none 0 0, .int .i64 0, .int .i64 0] 24)).alloc (.cells #[.int .i64 0] 31)) w.heap.size 24 #[.slice none 0 0, .int .i64 0, .int .i64 0] := (Cells.new _ _ _).alloc _
  have C1 := Cells.new (w.alloc (.cells #[.slice none 0 0, .int .i64 0, .int .i64 0] 24)) 31 #[.int .i64 0]
  rw [World.size_alloc] at C1
  have c0 := C0.cellv (i := 0) rfl
  have c1 := C0.cellv (i := 1) rfl
  have c2 := C0.cellv (i := 2) rfl
  have d0 := C1.cellv (i := 0) rfl
  have f0 := C0.frozen 0
  have f1 := C0.frozen 1
  have f2 := C0.frozen 2
  have g0 := C1.frozen 0
  have hU : Upd Nob w ((w.alloc (.cells #[.slice none 0 0, .int .i64 0, .int .i64 0] 24)).alloc (.cells #[.int .i64 0] 31)) := ((Upd.refl Nob w).alloc _).alloc _
  go_enter_defers Tryd.func20, Tryd.ntmps20
  go_wp2_with fail
  have D0 : Cells ((w.alloc (.cells #[.slice none 0 0, .int .i64 0, .int .i64 0] 24)).alloc (.cells #[.int .i64 2] 31)) w.heap.size 24 #[.slice none 0 0, .int .i64 0, .int .i64 0] := (Cells.new _ _ _).alloc _
  have D1 := Cells.new (w.alloc (.cells #[.slice none 0 0, .int .i64 0, .int .i64 0] 24)) 31 #[.int .i64 2]
  rw [World.size_alloc] at D1
  have hV : Upd Nob w ((w.alloc (.cells #[.slice none 0 0, .int .i64 0, .int .i64 0] 24)).alloc (.cells #[.int .i64 2] 31)) := ((Upd.refl Nob w).alloc _).alloc _
  generalize (w.alloc (.cells #[.slice none 0 0, .int .i64 0, .int .i64 0] 24)).alloc (.cells #[.int .i64 2] 31) = w2 at *
  have e0 := D0.cellv (i := 0) rfl
  have e1 := D0.cellv (i := 1) rfl
  have e2 := D0.cellv (i := 2) rfl
  have e3 := D1.cellv (i := 0) rfl
  exact ⟨_, by simp [results, Tryd.results20, go_sem, e0, e1, e2, e3], rfl, hV⟩
def readX (s : ByteArray) : Option (List PInst × Int × Int) := if 8388608 < s.size then none else readT (wordsAt s 0)
def readC (s : ByteArray) : Int := if 8388608 < s.size then 2 else 100
theorem read_any (w : World) (s : ByteArray) (hwt : WordTab w) : Calls Tryd.prog 20 #[.string s] w (LoadAns w (readX s) (readC s)) := by
  unfold readX readC
  by_cases h : 8388608 < s.size
  · rw [if_pos h, if_pos h]
    exact read_over w s h
  · rw [if_neg h, if_neg h, ← readS_eq]
    exact read_main w s (by omega) hwt
end Go.Proofs.YtdbdokjlcdogiaaDoor

/-
  heronref10.Read from its loop on, over whatever frame. Printed by tools/mkRefRT.py.
-/
namespace Go.Proofs.YtdbdokjlcdogiaaDoor
open Go.RowKit
set_option linter.unusedVariables false

theorem refr_end (P : Ending → World → Prop) (w : World) (a : Act) (b : Nat) (v0 v1 v2 v3 : Value) (hd : a.defers = []) (ht : a.tmps[2]? = some (.pointer (some ⟨b, 0, none⟩))) (h3 : a.tmps[3]? = some v3) (hC : Cells w b 24 #[v0, v1, v2]) (hP : P (.returned (.tuple #[.agg #[v0, v1, v2], v3])) w) :
    bodyPost Tryd.prog Tryd.f19 P .ret a w := by
  have c0 := hC.cellv (i := 0) rfl
  have c1 := hC.cellv (i := 1) rfl
  have c2 := hC.cellv (i := 2) rfl
  exact ⟨hd, _, by simp [results, Tryd.results19, go_sem, ht, h3, c0, c1, c2], hP⟩
theorem TdR.lt' {w : World} {S : Nat → Prop} {rb : Nat} {all rest : List ByteArray} {bad : Bool} (h : TdR w S rb all rest bad) : rb < w.heap.size := by
  obtain ⟨A, c, k, hc, -⟩ := h.at_
  exact hc.lt
abbrev goodT (r : List ByteArray) (start caps : Int) : Prop := (lpT r.length false r).2.2 = false ∧ checkB (lpT r.length false r).1 start caps = true
set_option maxRecDepth 100000 in
set_option maxHeartbeats 8000000 in
theorem refr_rest (P : Ending → World → Prop) (w w6 : World) (S : Nat → Prop) (rb : Nat) (caps start : Int) (all r0 : List ByteArray) (K : Code) (x0 x1 x3 x8 x9 x10 x11 x12 x13 x14 x15 x16 x17 x18 x19 x20 x21 x22 x23 x24 x25 x26 x27 x28 x29 x30 x31 x32 x33 x34 x35 x36 x37 x38 x39 x40 x41 x42 x43 x44 x45 x46 x47 x48 x49 x50 x51 x52 x53 x54 x55 x56 x57 x58 x59 x60 x61 x62 x63 x64 x65 x66 x67 x68 x69 x70 x71 x72 x73 x74 x75 x76 x77 x78 x79 x80 x81 x82 x83 x84 x85 x86 x87 x88 x89 x90 x91 x92 x93 x94 x95 x96 x97 x98 x99 : Value)
    (hK : Tryd.f19.body = some K) (hT : TdR w6 S rb all r0 false) (hQ : Cells w6 (rb + 1) 24 #[.slice none 0 0, .int .i64 start, .int .i64 caps]) (hS : ∀ b, S b → b < rb) (hC : Cells w6 w.heap.size 24 #[.slice none 0 0, .int .i64 0, .int .i64 0]) (hU : Upd Nob w w6) (hlb : w.heap.size < rb)
    (i1 : In64 caps) (i2 : In64 start)
    (hno : ¬ goodT r0 start caps → ∀ w', Upd Nob w w' → P (.returned (.tuple #[.agg #[.slice none 0 0, .int .i64 0, .int .i64 0], .int .i64 100])) w')
    (hyes : goodT r0 start caps → ∀ is A c gs w', is = (lpT r0.length false r0).1 → ProgW w' w.heap.size A c is gs → Upd Nob w w' → P (.returned (.tuple #[.agg #[.slice A is.length c, .int .i64 start, .int .i64 caps], .int .i64 0])) w') :
    (seqAt K 8).wp Tryd.prog (bodyPost Tryd.prog Tryd.f19 P) ⟨#[x0, x1, .pointer (some ⟨w.heap.size, 0, none⟩), x3, .pointer (some ⟨rb, 0, none⟩), .int .i64 caps, .int .i64 start, .pointer (some ⟨rb + 1, 0, none⟩), x8, x9, x10, x11, x12, x13, x14, x15, x16, x17, x18, x19, x20, x21, x22, x23, x24, x25, x26, x27, x28, x29, x30, x31, x32, x33, x34, x35, x36, x37, x38, x39, x40, x41, x42, x43, x44, x45, x46, x47, x48, x49, x50, x51, x52, x53, x54, x55, x56, x57, x58, x59, x60, x61, x62, x63, x64, x65, x66, x67, x68, x69, x70, x71, x72, x73, x74, x75, x76, x77, x78, x79, x80, x81, x82, x83, x84, x85, x86, x87, x88, x89, x90, x91, x92, x93, x94, x95, x96, x97, x98, x99], []⟩ w6 := by
  injection hK with hK
  subst hK
  have hrf := hT.few
  have hrl := hT.rest_
  have HRc := hideP hT
  have HQc := hideP hQ
  have HCc := hideP hC
  have HUc := hideP hU
  have HS := hideP hS
  have HNO := hideP hno
  have HYES := hideP hyes
  clear hT hQ hC hU hS hno hyes
  have hn1 : ¬ rb + 1 = rb := by omega
  have hn2 : ¬ w.heap.size = rb := by omega
  obtain ⟨i0, hi0, hz0, hz1, hz2⟩ := info_parts finfo_inst
  simp only [seqAt]
  go_wp2_with fail
  go_loopg [] (r0.length + 1) (fun gk wr => ∃ (is : List PInst) (gs : List (Option Addr × Nat)) (A : Option Addr) (cA : Nat) (q : List ByteArray) (b : Bool) (f : Nat), (if b = true then 0 else q.length + 1) = gk ∧ Cells wr (rb + 1) 24 #[.slice A is.length cA, .int .i64 start, .int .i64 caps] ∧ Cells wr w.heap.size 24 #[.slice none 0 0, .int .i64 0, .int .i64 0] ∧ ProgW wr (rb + 2) A cA is gs ∧ (∀ x ∈ is, NumI x) ∧ TdR wr S rb all q b ∧ (b = false → q.length ≤ f) ∧ lpT r0.length false r0 = (is ++ (lpT f b q).1, (lpT f b q).2) ∧ (b = false → is.length + q.length ≤ 8388608) ∧ is.length ≤ 8388609 ∧ Upd Nob w wr)
  case atStart => exact ⟨[], [], none, 0, r0, false, r0.length, rfl, HQc.out, HCc.out, ProgW.none_ _ _, fun x hx => by simp at hx, HRc.out, fun _ => Nat.le_refl _, by simp, fun _ => by simp only [List.length_nil]; omega, by simp, HUc.out⟩
  case round =>
    clear HRc HQc HCc HUc hrl
    obtain ⟨is, gs, A, cA, q, b, f, hk, hQ, hC, hP, hNI, hR, hf, hL, hbd, hi8, hU⟩ := hrel
    have HK := hideP hk
    have HQ := hideP hQ
    have HC := hideP hC
    have HP := hideP hP
    have HNI := hideP hNI
    have HR := hideP hR
    have HF := hideP hf
    have HL := hideP hL
    have HBD := hideP hbd
    have HU := hideP hU
    have hs1 := hQ.lt
    obtain ⟨LA, Lc, Lk, hrc, -, hLk, hLd⟩ := hR.at_
    have HLD := hideP hLd
    clear hk hP hNI hf hL hbd hU hLd hR
    by_cases hgo : b = false ∧ q ≠ []
    · obtain ⟨rfl, hq⟩ := hgo
      have hLk2 : Lk < all.length := by
        have h1 : 0 < q.length := List.length_pos_iff.2 hq
        have := congrArg List.length HLD.out
        rw [List.length_drop] at this
        omega
      have HQN := hideP hq
      obtain ⟨x, r5, b5, hX⟩ : ∃ x r5 b5, instT false q = (x, r5, b5) := ⟨_, _, _, rfl⟩
      have HX := hideP hX
      have hNX := (instT_in (b := false) (r := q) (by have := HR.out.rest_; have := HR.out.few; omega)).1
      rw [hX] at hNX
      have HNX := hideP hNX
      have q1 : (Lk : Int) < (all.length : Int) := by omega
      have hb8 := HBD.out (by first | rfl | trivial)
      have c0 := hrc.cellv (i := 0) rfl
      have c2 := hrc.cellv (i := 0 + 2) rfl
      have c3 := hrc.cellv (i := 0 + 3) rfl
      clear hX hNX hq hrc hQ hC
      go_upto_region 10 with fail
      go_region
      show Exit.then _ _ _ _ wr.drew
      have HQ := hideP HQ.out.drew
      have HC := hideP HC.out.drew
      have HP := hideP (HP.out.upd ((Upd.refl Nob wr).drew) (fun _ _ => not_nob))
      have HR := hideP HR.out.drew
      have HU := hideP HU.out.drew
      replace hs1 : rb + 1 < wr.drew.heap.size := hs1
      clear c0 c2 c3
      generalize wr.drew = wd at *
      go_upto_region 12 with (go_at_call 27; refine (rdInst_t wd S rb all q false HR.out (fun b hb => by have := HS.out b hb; omega)).mono ?_; rw [HX.out]; rintro e w5 ⟨B, cc, rfl, hO5, hR5, hU5⟩)
      have U6 := hU5.alloc (.cells #[.int .i64 x.op, .int .i64 x.x, .int .i64 x.y, .int .i64 x.arg, .slice B x.rs.length cc] 48)
      have HR6 := hideP (hR5.upd ((Upd.refl Nob w5).alloc (.cells #[.int .i64 x.op, .int .i64 x.x, .int .i64 x.y, .int .i64 x.arg, .slice B x.rs.length cc] 48)) not_nob (fun _ _ => not_nob))
      have HQ6 := hideP (HQ.out.upd U6 hn1)
      have HC6 := hideP (HC.out.upd U6 hn2)
      have HP6 := hideP (HP.out.upd U6 (fun b hb (e : b = rb) => by omega))
      have HO6 := hideP (own_upd hO5 ((Upd.refl Nob w5).alloc (.cells #[.int .i64 x.op, .int .i64 x.x, .int .i64 x.y, .int .i64 x.arg, .slice B x.rs.length cc] 48)) (fun _ _ => not_nob))
      have HU6 := hideP (HU.out.trans U6 (fun b hb (h : b = rb) => by omega))
      have HT6 := hideP (Cells.new w5 48 #[.int .i64 x.op, .int .i64 x.x, .int .i64 x.y, .int .i64 x.arg, .slice B x.rs.length cc])
      have hs6 := U6.size
      have hs5 := hU5.size
      have hPL := hideP HP.out.lt
      clear hO5 hR5 hU5 U6
      generalize hwz : w5.alloc (.cells #[.int .i64 x.op, .int .i64 x.x, .int .i64 x.y, .int .i64 x.arg, .slice B x.rs.length cc] 48) = w6 at *
      have htl := HT6.out.lt
      have p0 := HQ6.out.cellv (i := 0) rfl
      have fp := HQ6.out.frozen 0
      have t0 := HT6.out.cellv (i := 0) rfl
      have t1 := HT6.out.cellv (i := 0 + 1) rfl
      have t2 := HT6.out.cellv (i := 0 + 2) rfl
      have t3 := HT6.out.cellv (i := 0 + 3) rfl
      have t4 := HT6.out.cellv (i := 0 + 4) rfl
      have P9 := HP6.out.upd ((Upd.refl Nob w6).alloc (.cells #[.int .i64 x.op, .int .i64 x.x, .int .i64 x.y, .int .i64 x.arg, .slice B x.rs.length cc] 48)) (fun _ _ => not_nob)
      go_wp2_with (at_builtin; refine wpList_append_lies _ rfl _ _ 22 rfl (rb + 2) 48 i0 _ 5 56 Tryd.underlying22 hi0 hz0 hz1 hz2 rfl (by decide) (.slice A is.length cA) is.length (flatI is gs) rfl P9.row ⟨w6.heap.size, 0, none⟩ 1 1 (instCells x B x.rs.length cc).toList rfl rfl (World.news_of_block (cs := instCells x B x.rs.length cc) (t := 48) (fr := (0, 0)) (heap_alloc_new w6 _)) (by intro u hu; simp [instCells] at hu; rcases hu with rfl | rfl | rfl | rfl | rfl <;> rfl) (by decide) (by unfold maxLen; omega) (by omega) (by simp; omega) (w6.heap.size + 1) (by simp) ?_)
      intro gN cN wN oN gr hat hltN
      have hU9 := (Upd.refl Nob w6).alloc (.cells #[.int .i64 x.op, .int .i64 x.x, .int .i64 x.y, .int .i64 x.arg, .slice B x.rs.length cc] 48)
      have X9 := HQ6.out.upd hU9 not_nob
      have O9 : (w6.alloc (.cells #[.int .i64 x.op, .int .i64 x.x, .int .i64 x.y, .int .i64 x.arg, .slice B x.rs.length cc] 48)).ownsRow (rb + 2) 50 2 (.slice B x.rs.length cc) x.rs.length (pairv x.rs) := own_base (own_upd HO6.out hU9 (fun _ _ => not_nob)) (fun b hb => by have := own_lo HO6.out hb; omega)
      have OB := fun b (hb : (Value.slice A is.length cA).ownBlock = some b) => own_lo P9.row hb
      have UB := (Upd.refl (fun b => (Value.slice A is.length cA).ownBlock = some b) (w6.alloc (.cells #[.int .i64 x.op, .int .i64 x.x, .int .i64 x.y, .int .i64 x.arg, .slice B x.rs.length cc] 48))).grown gr (fun b hb _ => hb)
      have UN := (HU6.out.trans hU9 (fun _ _ h => h)).grown gr (fun b hb h => absurd h (by have := OB b hb; omega))
      have XN := X9.upd UB (own_ne P9.row X9 (by decide))
      have PN := P9.more O9 (fun j B' cc' b hg hb hb2 => by have h1 := hPL.out j B' cc' b hg hb; have h2 := own_lo HO6.out (ownBlock_map.2 hb2); omega) oN gr
      have RN := (HR6.out.upd hU9 not_nob (fun _ _ => not_nob)).upd UB (fun h => by have := OB rb h; omega) (fun b hb h => by have h1 := OB b h; have h2 := HS.out b hb; omega)
      have CN := (HC6.out.upd hU9 not_nob).upd UB (fun h => by have := OB _ h; omega)
      have x4 : wN.cell? ⟨rb + 1, 0, none⟩ = some (.slice A is.length cA) := XN.cellv rfl
      have z4 : wN.frozen? ⟨rb + 1, 0, none⟩ = false := XN.frozen _
      have UE := (Upd.refl (fun b => b = rb + 1) wN).setCell ⟨rb + 1, 0, none⟩ (.slice (some ⟨gN, 0, none⟩) (is.length + 1) cN) (fun _ => rfl)
      have HXE := hideP (XN.set_ 0 (.slice (some ⟨gN, 0, none⟩) (is.length + 1) cN))
      have HPE := hideP (PN.upd UE (fun b hb (e : b = rb + 1) => by omega))
      have HRE := hideP (RN.upd UE (fun (e : rb = rb + 1) => by omega) (fun b hb (e : b = rb + 1) => by have := HS.out b hb; omega))
      have HCE := hideP (CN.upd UE (fun (e : w.heap.size = rb + 1) => by omega))
      have HUE := hideP (UN.trans UE (fun b hb (h : b = rb + 1) => by omega))
      have HLE := hideP (show b5 = false → r5.length < q.length from fun e => by
        subst e
        have h1 := instT_less (r := q) (by rw [HX.out])
        rw [HX.out] at h1
        exact h1)
      clear oN gr hat UB UN XN PN RN CN UE X9 O9 P9 hU9
      go_wp2_with fail
      have hfp : 0 < f := by have := HF.out (by first | rfl | trivial); have := List.length_pos_iff.2 HQN.out; omega
      go_roundg (if b5 = true then 0 else r5.length + 1)
      case measure =>
        have := HK.out
        rw [if_neg (by simp)] at this
        cases b5 with
        | true => rw [if_pos rfl]; omega
        | false => rw [if_neg (by simp)]; have := HLE.out (by first | rfl | trivial); omega
      case rel => exact ⟨is ++ [x], gs ++ [(B, cc)], some ⟨gN, 0, none⟩, cN, r5, b5, f - 1, rfl, by rw [List.length_append]; exact HXE.out, HCE.out, HPE.out, fun y hy => by
          rcases List.mem_append.1 hy with hy | hy
          · exact HNI.out y hy
          · obtain rfl : y = x := by simpa using hy
            exact HNX.out, HRE.out, fun e => by have := HLE.out e; have := HF.out (by first | rfl | trivial); omega, by
          rw [HL.out, show f = (f - 1) + 1 by omega, lpT_step HQN.out HX.out]
          simp, fun e => by have := HLE.out e; simp only [List.length_append, List.length_cons, List.length_nil]; omega, by simp only [List.length_append, List.length_cons, List.length_nil]; omega, HUE.out⟩
    · have HE := hideP (show lpT r0.length false r0 = (is, q, b) from by
        rw [HL.out]
        cases b with
        | true => rw [lpT_bad]; simp
        | false =>
          have : q = [] := Classical.not_not.1 (fun h => hgo ⟨rfl, h⟩)
          rw [this, lpT_nil]
          simp)
      have HRC := hideP hrc
      have c0 := hrc.cellv (i := 0) rfl
      have c2 := hrc.cellv (i := 0 + 2) rfl
      have c3 := hrc.cellv (i := 0 + 3) rfl
      have p0 := hQ.cellv (i := 0) rfl
      have p1 := hQ.cellv (i := 0 + 1) rfl
      have p2 := hQ.cellv (i := 0 + 2) rfl
      clear hrc hQ hC
      obtain ⟨e0, he0⟩ : ∃ e0, errOf (checkB is start caps) = e0 := ⟨_, rfl⟩
      have HEQ0 := he0
      cases b with
      | true =>
        have g1 : True := trivial
        by_cases hq2 : Lk < all.length
        · have q1 : (Lk : Int) < (all.length : Int) := by omega
          go_upto_region 10 with fail
          go_region
          show Exit.then _ _ _ _ wr.drew
          have HQ := hideP HQ.out.drew
          have HC := hideP HC.out.drew
          have HP := hideP (HP.out.upd ((Upd.refl Nob wr).drew) (fun _ _ => not_nob))
          have HRC := hideP HRC.out.drew
          have HU := hideP HU.out.drew
          replace hs1 : rb + 1 < wr.drew.heap.size := hs1
          clear c0 c2 c3 p0 p1 p2
          generalize wr.drew = wd0 at *
          have p0 := HQ.out.cellv (i := 0) rfl
          have p1 := HQ.out.cellv (i := 0 + 1) rfl
          have p2 := HQ.out.cellv (i := 0 + 2) rfl
          go_upto_region 14 with (go_at_call 28; refine (refcheck_any HP.out HNI.out i2 i1 (by omega) _ HEQ0).mono ?_; rintro e wd ⟨rfl, hUd⟩)
          have c3 := (HRC.out.upd hUd not_nob).cellv (i := 0 + 3) rfl
          have CD := HC.out.upd hUd not_nob
          have d0 := CD.cellv (i := 0) rfl
          have d1 := CD.cellv (i := 0 + 1) rfl
          have d2 := CD.cellv (i := 0 + 2) rfl
          have f0 := CD.frozen 0
          have f1 := CD.frozen (0 + 1)
          have f2 := CD.frozen (0 + 2)
          go_wp2_with fail
          refine refr_end _ _ _ _ _ _ _ _ rfl rfl rfl (three_cells CD (.slice none 0 0) (.int .i64 0) (.int .i64 0)) (HNO.out (fun h => by have := h.1; rw [HE.out] at this; cases this) _ ((HU.out.trans hUd (fun _ _ h => h)).trans (three_upd _ _ (.slice none 0 0) (.int .i64 0) (.int .i64 0)) (fun b hb (h : b = w.heap.size) => by omega)))
        · have q1 : ¬ (Lk : Int) < (all.length : Int) := by omega
          go_upto_region 10 with fail
          go_region
          show Exit.then _ _ _ _ wr.drew
          have HQ := hideP HQ.out.drew
          have HC := hideP HC.out.drew
          have HP := hideP (HP.out.upd ((Upd.refl Nob wr).drew) (fun _ _ => not_nob))
          have HRC := hideP HRC.out.drew
          have HU := hideP HU.out.drew
          replace hs1 : rb + 1 < wr.drew.heap.size := hs1
          clear c0 c2 c3 p0 p1 p2
          generalize wr.drew = wd0 at *
          have p0 := HQ.out.cellv (i := 0) rfl
          have p1 := HQ.out.cellv (i := 0 + 1) rfl
          have p2 := HQ.out.cellv (i := 0 + 2) rfl
          go_upto_region 14 with (go_at_call 28; refine (refcheck_any HP.out HNI.out i2 i1 (by omega) _ HEQ0).mono ?_; rintro e wd ⟨rfl, hUd⟩)
          have c3 := (HRC.out.upd hUd not_nob).cellv (i := 0 + 3) rfl
          have CD := HC.out.upd hUd not_nob
          have d0 := CD.cellv (i := 0) rfl
          have d1 := CD.cellv (i := 0 + 1) rfl
          have d2 := CD.cellv (i := 0 + 2) rfl
          have f0 := CD.frozen 0
          have f1 := CD.frozen (0 + 1)
          have f2 := CD.frozen (0 + 2)
          go_wp2_with fail
          refine refr_end _ _ _ _ _ _ _ _ rfl rfl rfl (three_cells CD (.slice none 0 0) (.int .i64 0) (.int .i64 0)) (HNO.out (fun h => by have := h.1; rw [HE.out] at this; cases this) _ ((HU.out.trans hUd (fun _ _ h => h)).trans (three_upd _ _ (.slice none 0 0) (.int .i64 0) (.int .i64 0)) (fun b hb (h : b = w.heap.size) => by omega)))
      | false =>
        have hq : q = [] := Classical.not_not.1 (fun h => hgo ⟨rfl, h⟩)
        have hLk2 : Lk = all.length := by
          have := congrArg List.length HLD.out
          rw [hq, List.length_drop] at this
          simp at this
          omega
        have q1 : ¬ (Lk : Int) < (all.length : Int) := by omega
        by_cases hck : checkB is start caps = true
        · rw [hck] at he0
          have he1 : e0 = 0 := he0.symm
          subst he1
          go_upto_region 10 with fail
          go_region
          show Exit.then _ _ _ _ wr.drew
          have HQ := hideP HQ.out.drew
          have HC := hideP HC.out.drew
          have HP := hideP (HP.out.upd ((Upd.refl Nob wr).drew) (fun _ _ => not_nob))
          have HRC := hideP HRC.out.drew
          have HU := hideP HU.out.drew
          replace hs1 : rb + 1 < wr.drew.heap.size := hs1
          clear c0 c2 c3 p0 p1 p2
          generalize wr.drew = wd0 at *
          have p0 := HQ.out.cellv (i := 0) rfl
          have p1 := HQ.out.cellv (i := 0 + 1) rfl
          have p2 := HQ.out.cellv (i := 0 + 2) rfl
          go_upto_region 14 with (go_at_call 28; refine (refcheck_any HP.out HNI.out i2 i1 (by omega) _ HEQ0).mono ?_; rintro e wd ⟨rfl, hUd⟩)
          have c3 := (HRC.out.upd hUd not_nob).cellv (i := 0 + 3) rfl
          have CD := HC.out.upd hUd not_nob
          have d0 := CD.cellv (i := 0) rfl
          have d1 := CD.cellv (i := 0 + 1) rfl
          have d2 := CD.cellv (i := 0 + 2) rfl
          have f0 := CD.frozen 0
          have f1 := CD.frozen (0 + 1)
          have f2 := CD.frozen (0 + 2)
          have t0 := (HQ.out.upd hUd not_nob).cellv (i := 0) rfl
          have t1 := (HQ.out.upd hUd not_nob).cellv (i := 0 + 1) rfl
          have t2 := (HQ.out.upd hUd not_nob).cellv (i := 0 + 2) rfl
          go_wp2_with fail
          refine refr_end _ _ _ _ _ _ _ _ rfl rfl rfl (three_cells CD _ _ _) (HYES.out ⟨by rw [HE.out], by rw [HE.out]; exact hck⟩ is A cA gs _ (by rw [HE.out]) (((HP.out.upd hUd (fun _ _ => not_nob)).upd (three_upd _ _ _ _ _) (fun b hb (h : b = w.heap.size) => by omega)).base_ (by omega)) ((HU.out.trans hUd (fun _ _ h => h)).trans (three_upd _ _ _ _ _) (fun b hb (h : b = w.heap.size) => by omega)))
        · have hckf := (Bool.not_eq_true _).mp hck
          rw [hckf] at he0
          have he1 : e0 = 90 := he0.symm
          subst he1
          go_upto_region 10 with fail
          go_region
          show Exit.then _ _ _ _ wr.drew
          have HQ := hideP HQ.out.drew
          have HC := hideP HC.out.drew
          have HP := hideP (HP.out.upd ((Upd.refl Nob wr).drew) (fun _ _ => not_nob))
          have HRC := hideP HRC.out.drew
          have HU := hideP HU.out.drew
          replace hs1 : rb + 1 < wr.drew.heap.size := hs1
          clear c0 c2 c3 p0 p1 p2
          generalize wr.drew = wd0 at *
          have p0 := HQ.out.cellv (i := 0) rfl
          have p1 := HQ.out.cellv (i := 0 + 1) rfl
          have p2 := HQ.out.cellv (i := 0 + 2) rfl
          go_upto_region 14 with (go_at_call 28; refine (refcheck_any HP.out HNI.out i2 i1 (by omega) _ HEQ0).mono ?_; rintro e wd ⟨rfl, hUd⟩)
          have c3 := (HRC.out.upd hUd not_nob).cellv (i := 0 + 3) rfl
          have CD := HC.out.upd hUd not_nob
          have d0 := CD.cellv (i := 0) rfl
          have d1 := CD.cellv (i := 0 + 1) rfl
          have d2 := CD.cellv (i := 0 + 2) rfl
          have f0 := CD.frozen 0
          have f1 := CD.frozen (0 + 1)
          have f2 := CD.frozen (0 + 2)
          go_wp2_with fail
          refine refr_end _ _ _ _ _ _ _ _ rfl rfl rfl (three_cells CD (.slice none 0 0) (.int .i64 0) (.int .i64 0)) (HNO.out (fun h => hck (by have := h.2; rw [HE.out] at this; exact this)) _ ((HU.out.trans hUd (fun _ _ h => h)).trans (three_upd _ _ (.slice none 0 0) (.int .i64 0) (.int .i64 0)) (fun b hb (h : b = w.heap.size) => by omega)))
end Go.Proofs.YtdbdokjlcdogiaaDoor

/-
  heronref10.Read: the stages ahead of its loop, and the whole. Printed by tools/mkRefRS.py.
-/
namespace Go.Proofs.YtdbdokjlcdogiaaDoor
open Go.RowKit
set_option linter.unusedVariables false

/-- the first four words, in memory -/
theorem four_strs {w : World} {S : Nat → Prop} {A : Option Addr} {n : Nat} {a b c d : ByteArray} {r : List ByteArray} (h : Reads w S 1 A n (strv (a :: b :: c :: d :: r))) (hn : 4 ≤ n) :
    ∃ ad, A = some ad ∧ S ad.block ∧ w.cell? ad = some (.string a) ∧ w.cell? ⟨ad.block, ad.off + 1, none⟩ = some (.string b) ∧ w.cell? ⟨ad.block, ad.off + 2, none⟩ = some (.string c) ∧ w.cell? ⟨ad.block, ad.off + 3, none⟩ = some (.string d) := by
  obtain ⟨ad, rfl, hb, hs, hc⟩ := h.2 (by omega)
  have c0 := hc 0 (.string a) (by simp [strv])
  have c1 := hc 1 (.string b) (by simp [strv])
  have c2 := hc 2 (.string c) (by simp [strv])
  have c3 := hc 3 (.string d) (by simp [strv])
  rw [show ad.add 0 = ad by simp [Addr.add]] at c0
  rw [show ad.add 1 = ⟨ad.block, ad.off + 1, none⟩ by simp [Addr.add]] at c1
  rw [show ad.add 2 = ⟨ad.block, ad.off + 2, none⟩ by simp [Addr.add]] at c2
  rw [show ad.add 3 = ⟨ad.block, ad.off + 3, none⟩ by simp [Addr.add]] at c3
  exact ⟨ad, rfl, hs, c0, c1, c2, c3⟩
theorem refT_few {ws : List ByteArray} (h : ws.length < 4) : refT ws = none := by
  match ws, h with
  | [], _ => rfl
  | [a], _ => rfl
  | [a, b], _ => rfl
  | [a, b, c], _ => rfl
  | _ :: _ :: _ :: _ :: _, h => simp at h; omega
theorem numM_in (v : ByteArray) : In64 (numM v) := by
  unfold numM In64
  cases h : numV v with
  | none => simp
  | some n => have := numV_in h; simp only [Option.getD_some]; omega
set_option maxRecDepth 100000 in
set_option maxHeartbeats 4000000 in
theorem refRead_few (w : World) (s : ByteArray) (hs : s.size ≤ 8388608) (hnw0 : (wordsAt s 0).length < 4) : Calls Tryd.prog 19 #[.string s] w (LoadAns w (refT (wordsAt s 0)) 100) := by
  have C0 := Cells.new w 24 #[.slice none 0 0, .int .i64 0, .int .i64 0]
  have hU : Upd Nob w (w.alloc (.cells #[.slice none 0 0, .int .i64 0, .int .i64 0] 24)) := (Upd.refl Nob w).alloc _
  have HC := hideP C0
  have HU := hideP hU
  have hw2 : w.heap.size < (w.alloc (.cells #[.slice none 0 0, .int .i64 0, .int .i64 0] 24)).heap.size := C0.lt
  have hl : ¬ (8388608 : Int) < (s.size : Int) := by omega
  generalize hws : wordsAt s 0 = ws at *
  have HWS := hideP hws
  clear C0 hU hws
  go_enter Tryd.func19, Tryd.ntmps19
  go_upto_region 3 with fail
  generalize w.alloc (.cells #[.slice none 0 0, .int .i64 0, .int .i64 0] 24) = w2 at *
  have hcall := refWords_any w2 s hs
  rw [HWS.out] at hcall
  have HCALL := hideP hcall
  clear hcall
  go_upto_region 4 with (go_at_call 40; refine HCALL.out.mono ?_; rintro e w3 ⟨A, c, rfl, hO, hU3⟩)
  have hnw := hnw0
  generalize hn : ws.length = n at *
  have HN := hideP hn
  clear hn
  have HO := hideP (own_upd hO ((Upd.refl Nob w3).alloc (.cells #[.slice A n c, .slice none 0 0, .int .i64 0, .bool false] 56)) (fun _ _ => not_nob))
  have HLO := hideP (show ∀ b, (Value.slice A n c).ownBlock = some b → b < w3.heap.size from fun b hb => own_blt hO hb)
  have HR := hideP (Cells.new w3 56 #[.slice A n c, .slice none 0 0, .int .i64 0, .bool false])
  have HC := hideP ((HC.out.upd hU3 not_nob).alloc (.cells #[.slice A n c, .slice none 0 0, .int .i64 0, .bool false] 56))
  have HU := hideP ((HU.out.trans hU3 (fun _ _ h => h)).alloc (.cells #[.slice A n c, .slice none 0 0, .int .i64 0, .bool false] 56))
  have hrb : w.heap.size < w3.heap.size := by have := hU3.size; omega
  have HSZ := hideP (show (w3.alloc (.cells #[.slice A n c, .slice none 0 0, .int .i64 0, .bool false] 56)).heap.size = w3.heap.size + 1 from World.size_alloc _ _)
  have r0 := HR.out.cellv (i := 0) rfl
  have r2 := HR.out.cellv (i := 0 + 2) rfl
  have fr2 := HR.out.frozen (0 + 2)
  clear hO hU3 HCALL
  generalize w3.alloc (.cells #[.slice A n c, .slice none 0 0, .int .i64 0, .bool false] 56) = w4 at *
  generalize w3.heap.size = rb at *
  have g4 : (n : Int) < 4 := by omega
  have HNO := hideP (show refT ws = none from refT_few (by rw [HN.out]; exact hnw))
  have D := HC.out
  have d0 := D.cellv (i := 0) rfl
  have d1 := D.cellv (i := 0 + 1) rfl
  have d2 := D.cellv (i := 0 + 2) rfl
  have f0 := D.frozen 0
  have f1 := D.frozen (0 + 1)
  have f2 := D.frozen (0 + 2)
  go_wp2_with fail
  refine refr_end _ _ _ _ _ _ _ _ rfl rfl rfl (three_cells D (.slice none 0 0) (.int .i64 0) (.int .i64 0)) ?_
  rw [HNO.out]
  exact ⟨rfl, HU.out.trans (three_upd _ _ _ _ _) (fun b hb (e : b = w.heap.size) => by omega)⟩
set_option maxRecDepth 100000 in
set_option maxHeartbeats 4000000 in
theorem refRead_caps (w : World) (s : ByteArray) (hs : s.size ≤ 8388608) (hnw0 : 4 ≤ (wordsAt s 0).length) (hq : ¬ headW (wordsAt s 0) = capsW) : Calls Tryd.prog 19 #[.string s] w (LoadAns w (refT (wordsAt s 0)) 100) := by
  have C0 := Cells.new w 24 #[.slice none 0 0, .int .i64 0, .int .i64 0]
  have hU : Upd Nob w (w.alloc (.cells #[.slice none 0 0, .int .i64 0, .int .i64 0] 24)) := (Upd.refl Nob w).alloc _
  have HC := hideP C0
  have HU := hideP hU
  have hw2 : w.heap.size < (w.alloc (.cells #[.slice none 0 0, .int .i64 0, .int .i64 0] 24)).heap.size := C0.lt
  have hl : ¬ (8388608 : Int) < (s.size : Int) := by omega
  generalize hws : wordsAt s 0 = ws at *
  have HWS := hideP hws
  clear C0 hU hws
  go_enter Tryd.func19, Tryd.ntmps19
  go_upto_region 3 with fail
  generalize w.alloc (.cells #[.slice none 0 0, .int .i64 0, .int .i64 0] 24) = w2 at *
  have hcall := refWords_any w2 s hs
  rw [HWS.out] at hcall
  have HCALL := hideP hcall
  clear hcall
  go_upto_region 4 with (go_at_call 40; refine HCALL.out.mono ?_; rintro e w3 ⟨A, c, rfl, hO, hU3⟩)
  have hnw := hnw0
  generalize hn : ws.length = n at *
  have HN := hideP hn
  clear hn
  have HO := hideP (own_upd hO ((Upd.refl Nob w3).alloc (.cells #[.slice A n c, .slice none 0 0, .int .i64 0, .bool false] 56)) (fun _ _ => not_nob))
  have HLO := hideP (show ∀ b, (Value.slice A n c).ownBlock = some b → b < w3.heap.size from fun b hb => own_blt hO hb)
  have HR := hideP (Cells.new w3 56 #[.slice A n c, .slice none 0 0, .int .i64 0, .bool false])
  have HC := hideP ((HC.out.upd hU3 not_nob).alloc (.cells #[.slice A n c, .slice none 0 0, .int .i64 0, .bool false] 56))
  have HU := hideP ((HU.out.trans hU3 (fun _ _ h => h)).alloc (.cells #[.slice A n c, .slice none 0 0, .int .i64 0, .bool false] 56))
  have hrb : w.heap.size < w3.heap.size := by have := hU3.size; omega
  have HSZ := hideP (show (w3.alloc (.cells #[.slice A n c, .slice none 0 0, .int .i64 0, .bool false] 56)).heap.size = w3.heap.size + 1 from World.size_alloc _ _)
  have r0 := HR.out.cellv (i := 0) rfl
  have r2 := HR.out.cellv (i := 0 + 2) rfl
  have fr2 := HR.out.frozen (0 + 2)
  clear hO hU3 HCALL
  generalize w3.alloc (.cells #[.slice A n c, .slice none 0 0, .int .i64 0, .bool false] 56) = w4 at *
  generalize w3.heap.size = rb at *
  obtain ⟨a, b, c', d, r, rfl⟩ : ∃ a b c' d r, ws = a :: b :: c' :: d :: r := by
    match ws, HN.out with
    | a :: b :: c' :: d :: r, _ => exact ⟨a, b, c', d, r, rfl⟩
    | [], h => simp at h; omega
    | [_], h => simp at h; omega
    | [_, _], h => simp at h; omega
    | [_, _, _], h => simp at h; omega
  obtain ⟨ad, rfl, hadb, ya, yb, yc, yd⟩ := four_strs (Reads.of_own HO.out) (by omega)
  have g0 : (0 : Int) < (n : Int) := by omega
  have g1 : (1 : Int) < (n : Int) := by omega
  have g2 : (2 : Int) < (n : Int) := by omega
  have g3 : (3 : Int) < (n : Int) := by omega
  have g4 : ¬ (n : Int) < 4 := by omega
  have HNO := hideP (show refT (a :: b :: c' :: d :: r) = none from by rw [refT_cons, if_neg (fun h => hq h.1)])
  have hqa : (a.toList == [99, 97, 112, 115]) = false := caps_no hq
  clear hq
  have D := HC.out
  have d0 := D.cellv (i := 0) rfl
  have d1 := D.cellv (i := 0 + 1) rfl
  have d2 := D.cellv (i := 0 + 2) rfl
  have f0 := D.frozen 0
  have f1 := D.frozen (0 + 1)
  have f2 := D.frozen (0 + 2)
  go_wp2_with fail
  refine refr_end _ _ _ _ _ _ _ _ rfl rfl rfl (three_cells D (.slice none 0 0) (.int .i64 0) (.int .i64 0)) ?_
  rw [HNO.out]
  exact ⟨rfl, HU.out.trans (three_upd _ _ _ _ _) (fun b hb (e : b = w.heap.size) => by omega)⟩
set_option maxRecDepth 100000 in
set_option maxHeartbeats 4000000 in
theorem refRead_start (w : World) (s : ByteArray) (hs : s.size ≤ 8388608) (hnw0 : 4 ≤ (wordsAt s 0).length) (hq : headW (wordsAt s 0) = capsW) (hq2 : ¬ headW (wordsAt s 0).tail.tail = startW) : Calls Tryd.prog 19 #[.string s] w (LoadAns w (refT (wordsAt s 0)) 100) := by
  have C0 := Cells.new w 24 #[.slice none 0 0, .int .i64 0, .int .i64 0]
  have hU : Upd Nob w (w.alloc (.cells #[.slice none 0 0, .int .i64 0, .int .i64 0] 24)) := (Upd.refl Nob w).alloc _
  have HC := hideP C0
  have HU := hideP hU
  have hw2 : w.heap.size < (w.alloc (.cells #[.slice none 0 0, .int .i64 0, .int .i64 0] 24)).heap.size := C0.lt
  have hl : ¬ (8388608 : Int) < (s.size : Int) := by omega
  generalize hws : wordsAt s 0 = ws at *
  have HWS := hideP hws
  clear C0 hU hws
  go_enter Tryd.func19, Tryd.ntmps19
  go_upto_region 3 with fail
  generalize w.alloc (.cells #[.slice none 0 0, .int .i64 0, .int .i64 0] 24) = w2 at *
  have hcall := refWords_any w2 s hs
  rw [HWS.out] at hcall
  have HCALL := hideP hcall
  clear hcall
  go_upto_region 4 with (go_at_call 40; refine HCALL.out.mono ?_; rintro e w3 ⟨A, c, rfl, hO, hU3⟩)
  have hnw := hnw0
  generalize hn : ws.length = n at *
  have HN := hideP hn
  clear hn
  have HO := hideP (own_upd hO ((Upd.refl Nob w3).alloc (.cells #[.slice A n c, .slice none 0 0, .int .i64 0, .bool false] 56)) (fun _ _ => not_nob))
  have HLO := hideP (show ∀ b, (Value.slice A n c).ownBlock = some b → b < w3.heap.size from fun b hb => own_blt hO hb)
  have HR := hideP (Cells.new w3 56 #[.slice A n c, .slice none 0 0, .int .i64 0, .bool false])
  have HC := hideP ((HC.out.upd hU3 not_nob).alloc (.cells #[.slice A n c, .slice none 0 0, .int .i64 0, .bool false] 56))
  have HU := hideP ((HU.out.trans hU3 (fun _ _ h => h)).alloc (.cells #[.slice A n c, .slice none 0 0, .int .i64 0, .bool false] 56))
  have hrb : w.heap.size < w3.heap.size := by have := hU3.size; omega
  have HSZ := hideP (show (w3.alloc (.cells #[.slice A n c, .slice none 0 0, .int .i64 0, .bool false] 56)).heap.size = w3.heap.size + 1 from World.size_alloc _ _)
  have r0 := HR.out.cellv (i := 0) rfl
  have r2 := HR.out.cellv (i := 0 + 2) rfl
  have fr2 := HR.out.frozen (0 + 2)
  clear hO hU3 HCALL
  generalize w3.alloc (.cells #[.slice A n c, .slice none 0 0, .int .i64 0, .bool false] 56) = w4 at *
  generalize w3.heap.size = rb at *
  obtain ⟨a, b, c', d, r, rfl⟩ : ∃ a b c' d r, ws = a :: b :: c' :: d :: r := by
    match ws, HN.out with
    | a :: b :: c' :: d :: r, _ => exact ⟨a, b, c', d, r, rfl⟩
    | [], h => simp at h; omega
    | [_], h => simp at h; omega
    | [_, _], h => simp at h; omega
    | [_, _, _], h => simp at h; omega
  obtain ⟨ad, rfl, hadb, ya, yb, yc, yd⟩ := four_strs (Reads.of_own HO.out) (by omega)
  have g0 : (0 : Int) < (n : Int) := by omega
  have g1 : (1 : Int) < (n : Int) := by omega
  have g2 : (2 : Int) < (n : Int) := by omega
  have g3 : (3 : Int) < (n : Int) := by omega
  have g4 : ¬ (n : Int) < 4 := by omega
  have HNO := hideP (show refT (a :: b :: c' :: d :: r) = none from by rw [refT_cons, if_neg (fun h => hq2 h.2)])
  have hqa : (a.toList == [99, 97, 112, 115]) = true := caps_yes hq
  have hqb : (c'.toList == [115, 116, 97, 114, 116]) = false := start_no hq2
  clear hq hq2
  have D := HC.out
  have d0 := D.cellv (i := 0) rfl
  have d1 := D.cellv (i := 0 + 1) rfl
  have d2 := D.cellv (i := 0 + 2) rfl
  have f0 := D.frozen 0
  have f1 := D.frozen (0 + 1)
  have f2 := D.frozen (0 + 2)
  go_wp2_with fail
  refine refr_end _ _ _ _ _ _ _ _ rfl rfl rfl (three_cells D (.slice none 0 0) (.int .i64 0) (.int .i64 0)) ?_
  rw [HNO.out]
  exact ⟨rfl, HU.out.trans (three_upd _ _ _ _ _) (fun b hb (e : b = w.heap.size) => by omega)⟩
set_option maxRecDepth 100000 in
set_option maxHeartbeats 4000000 in
theorem refRead_good (w : World) (s : ByteArray) (hs : s.size ≤ 8388608) (hnw0 : 4 ≤ (wordsAt s 0).length) (hq : headW (wordsAt s 0) = capsW) (hq2 : headW (wordsAt s 0).tail.tail = startW) : Calls Tryd.prog 19 #[.string s] w (LoadAns w (refT (wordsAt s 0)) 100) := by
  generalize hP : LoadAns w (refT (wordsAt s 0)) 100 = P
  have HP := hideP hP
  clear hP
  have C0 := Cells.new w 24 #[.slice none 0 0, .int .i64 0, .int .i64 0]
  have hU : Upd Nob w (w.alloc (.cells #[.slice none 0 0, .int .i64 0, .int .i64 0] 24)) := (Upd.refl Nob w).alloc _
  have HC := hideP C0
  have HU := hideP hU
  have hw2 : w.heap.size < (w.alloc (.cells #[.slice none 0 0, .int .i64 0, .int .i64 0] 24)).heap.size := C0.lt
  have hl : ¬ (8388608 : Int) < (s.size : Int) := by omega
  generalize hws : wordsAt s 0 = ws at *
  have HWS := hideP hws
  clear C0 hU hws
  go_enter Tryd.func19, Tryd.ntmps19
  go_upto_region 3 with fail
  generalize w.alloc (.cells #[.slice none 0 0, .int .i64 0, .int .i64 0] 24) = w2 at *
  have hcall := refWords_any w2 s hs
  rw [HWS.out] at hcall
  have HCALL := hideP hcall
  clear hcall
  go_upto_region 4 with (go_at_call 40; refine HCALL.out.mono ?_; rintro e w3 ⟨A, c, rfl, hO, hU3⟩)
  have hnw := hnw0
  generalize hn : ws.length = n at *
  have HN := hideP hn
  clear hn
  have HO := hideP (own_upd hO ((Upd.refl Nob w3).alloc (.cells #[.slice A n c, .slice none 0 0, .int .i64 0, .bool false] 56)) (fun _ _ => not_nob))
  have HLO := hideP (show ∀ b, (Value.slice A n c).ownBlock = some b → b < w3.heap.size from fun b hb => own_blt hO hb)
  have HR := hideP (Cells.new w3 56 #[.slice A n c, .slice none 0 0, .int .i64 0, .bool false])
  have HC := hideP ((HC.out.upd hU3 not_nob).alloc (.cells #[.slice A n c, .slice none 0 0, .int .i64 0, .bool false] 56))
  have HU := hideP ((HU.out.trans hU3 (fun _ _ h => h)).alloc (.cells #[.slice A n c, .slice none 0 0, .int .i64 0, .bool false] 56))
  have hrb : w.heap.size < w3.heap.size := by have := hU3.size; omega
  have HSZ := hideP (show (w3.alloc (.cells #[.slice A n c, .slice none 0 0, .int .i64 0, .bool false] 56)).heap.size = w3.heap.size + 1 from World.size_alloc _ _)
  have r0 := HR.out.cellv (i := 0) rfl
  have r2 := HR.out.cellv (i := 0 + 2) rfl
  have fr2 := HR.out.frozen (0 + 2)
  clear hO hU3 HCALL
  generalize w3.alloc (.cells #[.slice A n c, .slice none 0 0, .int .i64 0, .bool false] 56) = w4 at *
  generalize w3.heap.size = rb at *
  obtain ⟨a, b, c', d, r, rfl⟩ : ∃ a b c' d r, ws = a :: b :: c' :: d :: r := by
    match ws, HN.out with
    | a :: b :: c' :: d :: r, _ => exact ⟨a, b, c', d, r, rfl⟩
    | [], h => simp at h; omega
    | [_], h => simp at h; omega
    | [_, _], h => simp at h; omega
    | [_, _, _], h => simp at h; omega
  obtain ⟨ad, rfl, hadb, ya, yb, yc, yd⟩ := four_strs (Reads.of_own HO.out) (by omega)
  have g0 : (0 : Int) < (n : Int) := by omega
  have g1 : (1 : Int) < (n : Int) := by omega
  have g2 : (2 : Int) < (n : Int) := by omega
  have g3 : (3 : Int) < (n : Int) := by omega
  have g4 : ¬ (n : Int) < 4 := by omega
  have hqa : (a.toList == [99, 97, 112, 115]) = true := caps_yes hq
  have hqb : (c'.toList == [115, 116, 97, 114, 116]) = true := start_yes hq2
  have HQ1 := hideP hq
  have HQ2 := hideP hq2
  clear hq hq2
  obtain ⟨caps, hcaps⟩ : ∃ x, x = numM b := ⟨_, rfl⟩
  obtain ⟨start, hstart⟩ : ∃ x, x = numM d := ⟨_, rfl⟩
  have HCP := hideP hcaps
  have HST := hideP hstart
  clear hcaps hstart
  have hsz := HR.out.lt
  go_upto_region 6 with fail
  clear hqa hqb g0 g2 r2 fr2 ya yc
  have hcb := refNumber_any w4 b
  rw [← HCP.out] at hcb
  go_upto_region 7 with (go_at_call 41; refine hcb.mono ?_; rintro e w5 ⟨rfl, hw5⟩; subst hw5)
  clear hcb
  have hcd := refNumber_any w5 d
  rw [← HST.out] at hcd
  go_upto_region 8 with (go_at_call 41; refine hcd.mono ?_; rintro e w6 ⟨rfl, hw6⟩; subst hw6)
  clear hcd r0 yb yd g1 g3 g4
  have HQ9 := hideP (Cells.new w6 24 #[.slice none 0 0, .int .i64 start, .int .i64 caps])
  have HR9 := hideP (HR.out.alloc (.cells #[.slice none 0 0, .int .i64 start, .int .i64 caps] 24))
  have HC9 := hideP (HC.out.alloc (.cells #[.slice none 0 0, .int .i64 start, .int .i64 caps] 24))
  have HU9 := hideP (HU.out.alloc (.cells #[.slice none 0 0, .int .i64 start, .int .i64 caps] 24))
  have HO9 := hideP (own_upd HO.out ((Upd.refl Nob w6).alloc (.cells #[.slice none 0 0, .int .i64 start, .int .i64 caps] 24)) (fun _ _ => not_nob))
  go_upto_region 9 with fail
  rw [HSZ.out] at HQ9 ⊢
  change Code.wp _ _ _ _ (w6.alloc (.cells #[.slice none 0 0, .int .i64 start, .int .i64 caps] 24))
  generalize w6.alloc (.cells #[.slice none 0 0, .int .i64 start, .int .i64 caps] 24) = w9 at *
  have r2 := HR9.out.cellv (i := 0 + 2) rfl
  have fr2 := HR9.out.frozen (0 + 2)
  rename_i K9 hK9
  have HK9 := hideP hK9
  clear hK9
  repeat (first | go_values | go_skip | go_guarded | go_step | go_upon)
  have UE := (Upd.refl (fun k => k = rb) w9).setCell ⟨rb, 2, none⟩ (.int .i64 4) (fun _ => rfl)
  have hdrop : (a :: b :: c' :: d :: r).drop 4 = r := rfl
  have HTD : TdR (w9.setCell ⟨rb, 2, none⟩ (.int .i64 4)) (fun k => (Value.slice (some ad) n c).ownBlock = some k) rb (a :: b :: c' :: d :: r) r false :=
    ⟨⟨some ad, c, 4, by rw [HN.out]; exact HR9.out.set_ 2 (.int .i64 4), by rw [HN.out]; exact (Reads.of_own HO9.out).upd UE (fun k hk (e : k = rb) => by have := HLO.out k hk; omega), by rw [HN.out]; omega, hdrop⟩, by have := wordsAt_len s _ 0 (Nat.le_refl _) (Nat.zero_le _); rw [HWS.out] at this; omega, fun k hk => by have := HLO.out k hk; omega⟩
  have hrt : refT (a :: b :: c' :: d :: r) = if goodT r start caps then some ((lpT r.length false r).1, start, caps) else none := by
    rw [refT_cons, if_pos ⟨HQ1.out, HQ2.out⟩, HCP.out, HST.out]
  refine HK9.out _ _ (refr_rest P w _ (fun k => (Value.slice (some ad) n c).ownBlock = some k) rb caps start (a :: b :: c' :: d :: r) r _ _ _ _ _ _ _ _ _ _ _ _ _ _ _ _ _ _ _ _ _ _ _ _ _ _ _ _ _ _ _ _ _ _ _ _ _ _ _ _ _ _ _ _ _ _ _ _ _ _ _ _ _ _ _ _ _ _ _ _ _ _ _ _ _ _ _ _ _ _ _ _ _ _ _ _ _ _ _ _ _ _ _ _ _ _ _ _ _ _ _ _ _ _ _ _ rfl HTD (HQ9.out.far ⟨rb, 2, none⟩ _ (by simp)) HLO.out (HC9.out.far ⟨rb, 2, none⟩ _ (by simp; omega)) (HU9.out.trans UE (fun k hk (e : k = rb) => by omega)) hrb (by rw [HCP.out]; exact numM_in b) (by rw [HST.out]; exact numM_in d) (fun hg w' hv => by rw [← HP.out, hrt, if_neg hg]; exact ⟨rfl, hv⟩) (fun hg is A c gs w' hi hp hv => by rw [← HP.out, hrt, if_pos hg, ← hi]; exact ⟨A, c, gs, rfl, hp, hv⟩))
theorem refRead_main (w : World) (s : ByteArray) (hs : s.size ≤ 8388608) : Calls Tryd.prog 19 #[.string s] w (LoadAns w (readT (wordsAt s 0)) 100) := by
  rw [← refT_eq]
  by_cases h4 : (wordsAt s 0).length < 4
  · exact refRead_few w s hs h4
  by_cases h1 : ¬ headW (wordsAt s 0) = capsW
  · exact refRead_caps w s hs (by omega) h1
  by_cases h2 : ¬ headW (wordsAt s 0).tail.tail = startW
  · exact refRead_start w s hs (by omega) (Classical.not_not.1 h1) h2
  exact refRead_good w s hs (by omega) (Classical.not_not.1 h1) (Classical.not_not.1 h2)
set_option maxRecDepth 100000 in
set_option maxHeartbeats 4000000 in
theorem refRead_over (w : World) (s : ByteArray) (hn : 8388608 < s.size) : Calls Tryd.prog 19 #[.string s] w (LoadAns w none 2) := by
  have hl : (8388608 : Int) < (s.size : Int) := by omega
  have C0 := Cells.new w 24 #[.slice none 0 0, .int .i64 0, .int .i64 0]
  have hU : Upd Nob w (w.alloc (.cells #[.slice none 0 0, .int .i64 0, .int .i64 0] 24)) := (Upd.refl Nob w).alloc _
  have HC := hideP C0
  have HU := hideP hU
  clear C0 hU
  go_enter Tryd.func19, Tryd.ntmps19
  go_wp2_with fail
  exact refr_end _ _ _ _ _ _ _ _ rfl rfl rfl HC.out ⟨rfl, HU.out⟩
theorem refRead_any (w : World) (s : ByteArray) : Calls Tryd.prog 19 #[.string s] w (LoadAns w (readX s) (readC s)) := by
  unfold readX readC
  by_cases h : 8388608 < s.size
  · rw [if_pos h, if_pos h]
    exact refRead_over w s h
  · rw [if_neg h, if_neg h]
    exact refRead_main w s (by omega)
end Go.Proofs.YtdbdokjlcdogiaaDoor
