/-
  The walk of heronlaw10.says.
-/
import Derived.Test.YtdbdokjlcdogiaaDoorSmall
import Derived.Test.YtdbdokjlcdogiaaDoorPrint
import Derived.Test.YtdbdokjlcdogiaaDoorRefPrint
import Derived.Test.YtdbdokjlcdogiaaDoorRefBytes
namespace Go.Proofs.YtdbdokjlcdogiaaDoor
open Go.RowKit
set_option linter.unusedVariables false

/-- a row's own block is known, if it is not empty -/
theorem OwnT.form {w : World} {base n c : Nat} {e : TypeId} {A : Option Addr} {xs : List Value} (h : OwnT w base e (.slice A n c) n xs) (hn : 0 < n) :
    ∃ g, A = some ⟨g, 0, none⟩ ∧ ∀ k, k < n → (∃ u, w.cell? ⟨g, k, none⟩ = some u) ∧ w.frozen? ⟨g, k, none⟩ = false := by
  rcases h.2 with ⟨_, rfl⟩ | ⟨g, cap, cur, fz, hv, hb, hg, hfz, h1, h2, h3, h4⟩
  · omega
  · injection hv with e1 _ e3
    refine ⟨g, e1, fun k hk => ⟨⟨cur[k]'(by omega), ?_⟩, ?_⟩⟩
    · have hi : k < cur.size := by omega
      simp [World.cell?, hg, hi]
    · obtain ⟨lo, hi'⟩ := fz
      simp only [World.frozen?, hg, Bool.and_eq_false_iff, decide_eq_false_iff_not]
      unfold Loose at hfz
      simp only at hfz
      omega
theorem OwnT.stored {w : World} {base n c g k : Nat} {e : TypeId} {xs : List Value} (h : OwnT w base e (.slice (some ⟨g, 0, none⟩) n c) n xs) (u : Value) :
    OwnT (w.setCell ⟨g, k, none⟩ u) base e (.slice (some ⟨g, 0, none⟩) n c) n (xs.set k u) := by
  refine ⟨by rw [List.length_set]; exact h.1, ?_⟩
  rcases h.2 with ⟨h0, _⟩ | ⟨g', cap, cur, fz, hv, hb, hg, hfz, h1, h2, h3, h4⟩
  · cases h0
  · injection hv with e1 _ e3
    injection e1 with e1
    injection e1 with e1
    subst e1
    refine .inr ⟨g, cap, cur.setIfInBounds k u, fz, by rw [e3], hb, ?_, ?_, h1, h2, by simpa using h3, ?_⟩
    · simp [World.setCell, Array.getElem?_modify, hg]
    · unfold Loose at hfz ⊢
      simpa using hfz
    · rw [Array.toList_setIfInBounds, List.take_set, h4]

theorem instsB_len : ∀ {is : List PInst} {b b' : List Int}, b.length ≤ 8388604 → instsB is b = some b' → b'.length ≤ 8388604
  | [], b, b', hb, h => by
    injection h with h
    rw [← h]
    exact hb
  | x :: r, b, b', hb, h => by
    unfold instsB at h
    split at h
    · cases h
    · exact instsB_len (by omega) h
theorem bytesOf_len (is : List PInst) (start caps : Int) : (bytesOf is start caps).1.length ≤ 8388608 := by
  cases hv : checkB is start caps
  · unfold bytesOf
    rw [hv]
    simp
  · obtain ⟨l0, l1, s0, s1, k0, k1, hfi⟩ := fineP hv
    have h0 := headB_len (n := is.length) (start := start) (caps := caps) (by omega) (by omega) (by omega)
    unfold bytesOf
    rw [hv]
    cases hb : instsB is (headB is.length start caps) with
    | none => simp
    | some b =>
      have h1 := instsB_len (by omega) hb
      have h2 : (tail4 (sumV b)).length = 4 := rfl
      show (b ++ tail4 (sumV b)).length ≤ _
      rw [List.length_append, h2]
      omega

set_option maxRecDepth 100000 in
set_option maxHeartbeats 4000000 in
theorem says_any (w : World) (S1 S2 : Nat → Prop) (A1 A2 : Option Addr) (n c1 c2 : Nat) (is : List PInst) (start caps : Int) (h1 : InstsR w S1 A1 n is) (h2 : InstsR w S2 A2 n is) (hs : In64 start) (hc : In64 caps) (hn : n ≤ 140737488355328) (hpt : PowTab w) (hwt : WordTab w) :
    Calls Tryd.prog 10 #[.agg #[.slice A1 n c1, .int .i64 start, .int .i64 caps], .agg #[.slice A2 n c2, .int .i64 start, .int .i64 caps]] w fun e w' => e = .returned (.bool true) ∧ Upd Nob w w' := by
  obtain ⟨i0, hi0, hz0, hz1, hz2⟩ := info_parts cinfo_u8
  generalize hT : textOf is start caps = T
  generalize hB : bytesOf is start caps = B
  have hBl : B.1.length ≤ 8388608 := by rw [← hB]; exact bytesOf_len _ _ _
  have HPT := hideP hpt
  have HWT := hideP hwt
  have H1 := hideP h1
  have H2 := hideP h2
  have HT := hideP hT
  have HB := hideP hB
  have C1 : Cells ((w.alloc (.cells #[.slice A1 n c1, .int .i64 start, .int .i64 caps] 24)).alloc (.cells #[.slice A2 n c2, .int .i64 start, .int .i64 caps] 24)) w.heap.size 24 #[.slice A1 n c1, .int .i64 start, .int .i64 caps] := (Cells.new _ _ _).alloc _
  have C2 := Cells.new (w.alloc (.cells #[.slice A1 n c1, .int .i64 start, .int .i64 caps] 24)) 24 #[.slice A2 n c2, .int .i64 start, .int .i64 caps]
  rw [World.size_alloc] at C2
  have hU : Upd Nob w ((w.alloc (.cells #[.slice A1 n c1, .int .i64 start, .int .i64 caps] 24)).alloc (.cells #[.slice A2 n c2, .int .i64 start, .int .i64 caps] 24)) := ((Upd.refl Nob w).alloc _).alloc _
  clear h1 h2 hT hB hpt hwt
  go_enter Tryd.func10, Tryd.ntmps10
  go_upto_region 1 with fail
  generalize ((w.alloc (.cells #[.slice A1 n c1, .int .i64 start, .int .i64 caps] 24)).alloc (.cells #[.slice A2 n c2, .int .i64 start, .int .i64 caps] 24)) = w2 at *
  have HC1 := hideP C1
  have HC2 := hideP C2
  have HU2 := hideP hU
  have hw2 := C2.lt
  clear C1 C2 hU
  have HSL := hideP (show ∀ w', Upd Nob w2 w' → (w'.cell? ⟨w.heap.size, 0, none⟩ = some (.slice A1 n c1) ∧ w'.cell? ⟨w.heap.size, 0 + 1, none⟩ = some (.int .i64 start) ∧ w'.cell? ⟨w.heap.size, 0 + 2, none⟩ = some (.int .i64 caps)) ∧ (w'.cell? ⟨w.heap.size + 1, 0, none⟩ = some (.slice A2 n c2) ∧ w'.cell? ⟨w.heap.size + 1, 0 + 1, none⟩ = some (.int .i64 start) ∧ w'.cell? ⟨w.heap.size + 1, 0 + 2, none⟩ = some (.int .i64 caps)) from fun w' hv => ⟨⟨(HC1.out.upd hv not_nob).cellv rfl, (HC1.out.upd hv not_nob).cellv rfl, (HC1.out.upd hv not_nob).cellv rfl⟩, ⟨(HC2.out.upd hv not_nob).cellv rfl, (HC2.out.upd hv not_nob).cellv rfl, (HC2.out.upd hv not_nob).cellv rfl⟩⟩)
  obtain ⟨⟨a0, a1, a2⟩, ⟨b0, b1, b2⟩⟩ := HSL.out w2 (Upd.refl _ _)
  go_upto_region 2 with (go_at_call 23; refine (refPrint_any _ S2 A2 n c2 is start caps (H2.out.upd HU2.out (fun _ _ => not_nob)) hs hc hn).mono ?_; rintro e w3 ⟨he, hU3⟩; rw [HT.out] at he; subst he)
  clear a0 a1 a2 b0 b1 b2
  have HU3 := hideP hU3
  obtain ⟨⟨a0, a1, a2⟩, ⟨b0, b1, b2⟩⟩ := HSL.out w3 hU3
  go_upto_region 3 with (go_at_call 24; refine (refBytes_any _ S2 A2 n c2 is start caps (H2.out.upd (HU2.out.trans hU3 (fun _ _ h => h)) (fun _ _ => not_nob)) hs hc hn).mono ?_; rintro e w4 ⟨AB, cB, he, hoB, hU4⟩; rw [HB.out] at he hoB; subst he)
  clear a0 a1 a2 b0 b1 b2
  have HU4 := hideP (HU3.out.trans hU4 (fun _ _ h => h))
  have HOB := hideP hoB
  clear hoB hU3 hU4
  obtain ⟨⟨a0, a1, a2⟩, ⟨b0, b1, b2⟩⟩ := HSL.out w4 HU4.out
  go_upto_region 4 with (go_at_call 22; refine (print_any _ S1 A1 n c1 is start caps (H1.out.upd (HU2.out.trans HU4.out (fun _ _ h => h)) (fun _ _ => not_nob)) hs hc hn (HPT.out.upd (HU2.out.trans HU4.out (fun _ _ h => h))) (HWT.out.upd (HU2.out.trans HU4.out (fun _ _ h => h)))).mono ?_; rintro e w5 ⟨he, hU5⟩; rw [HT.out] at he; subst he)
  clear a0 a1 a2 b0 b1 b2
  have HOB5 := hideP (HOB.out.upd hU5 (fun _ _ => not_nob))
  have HU5 := hideP (HU4.out.trans hU5 (fun _ _ h => h))
  clear hU5 HOB
  obtain ⟨⟨a0, a1, a2⟩, ⟨b0, b1, b2⟩⟩ := HSL.out w5 HU5.out
  go_upto_region 5 with (go_at_call 18; refine (bytes_any _ S1 A1 n c1 is start caps (H1.out.upd (HU2.out.trans HU5.out (fun _ _ h => h)) (fun _ _ => not_nob)) hs hc hn).mono ?_; rintro e w6 ⟨AC, cC, he, hoC, hU6⟩; rw [HB.out] at he hoC; subst he)
  clear a0 a1 a2 b0 b1 b2
  have HOB6 := hideP (HOB5.out.upd hU6 (fun _ _ => not_nob))
  have HU6 := hideP (HU5.out.trans hU6 (fun _ _ h => h))
  have HOC := hideP hoC
  have hU6s := hU6.size
  clear hU6 hoC
  obtain ⟨⟨a0, a1, a2⟩, ⟨b0, b1, b2⟩⟩ := HSL.out w6 HU6.out
  go_upto_region 6 with (go_at_call 18; refine (bytes_any _ S1 A1 n c1 is start caps (H1.out.upd (HU2.out.trans HU6.out (fun _ _ h => h)) (fun _ _ => not_nob)) hs hc hn).mono ?_; rintro e w7 ⟨AD, cD, he, hoD, hU7⟩; rw [HB.out] at he hoD; subst he)
  clear a0 a1 a2 b0 b1 b2
  have HOB7 := hideP (HOB6.out.upd hU7 (fun _ _ => not_nob))
  have HOC7 := hideP (HOC.out.upd hU7 (fun _ _ => not_nob))
  have HU7 := hideP (HU6.out.trans hU7 (fun _ _ h => h))
  have HOD := hideP hoD
  have HCD := hideP (show ∀ g, (Value.slice AD B.1.length cD).ownBlock = some g → ¬ (Value.slice AC B.1.length cC).ownBlock = some g from fun g hg hg2 => by
    have h1 := hoD.lo hg
    have h2 := HOC.out.lt hg2
    omega)
  have HCB := hideP (show ∀ g, (Value.slice AB B.1.length cB).ownBlock = some g → ¬ (Value.slice AC B.1.length cC).ownBlock = some g from fun g hg hg2 => by
    have h1 := HOB5.out.lt hg
    have h2 := HOC.out.lo hg2
    omega)
  have HBC := hideP (show ∀ g, (Value.slice AC B.1.length cC).ownBlock = some g → g < w7.heap.size from fun g hg => HOC7.out.lt hg)
  have HU6' := hideP (show w5.heap.size ≤ w7.heap.size from Nat.le_trans hU6s hU7.size)
  clear HOB5 HOB6 HOC hU7 hoD HU6
  go_upto_region 7 with (go_at_call 16; refine (sameBytes_any _ _ _ AC AB B.1.length cC cB B.1 (Reads.of_ownT HOC7.out) (Reads.of_ownT HOB7.out) (by omega)).mono ?_; rintro e w8 ⟨rfl, hU8⟩)
  have HOB8 := hideP (HOB7.out.upd hU8 (fun _ _ => not_nob))
  have HOC8 := hideP (HOC7.out.upd hU8 (fun _ _ => not_nob))
  have HOD8 := hideP (HOD.out.upd hU8 (fun _ _ => not_nob))
  have HBC8 := hideP (show ∀ g, (Value.slice AC B.1.length cC).ownBlock = some g → g < w8.heap.size from fun g hg => Nat.lt_of_lt_of_le (HBC.out g hg) hU8.size)
  have HU8 := hideP (HU7.out.trans hU8 (fun _ _ h => h))
  have HLO := hideP (show ∀ g, (Value.slice AC B.1.length cC).ownBlock = some g → w5.heap.size ≤ g from fun g hg => HOC8.out.lo hg)
  have hw52 := HU5.out.size
  have hw58 : w5.heap.size ≤ w8.heap.size := by
    have h1 := HU6'.out
    have h2 := hU8.size
    omega
  clear HOB7 HOC7 HOD hU8 HU7 HBC HU5 HU4 HU3
  go_wp2_with fail
  go_loopg [16] B.1.length (fun gk v16 wr => ∃ (k : Nat) (xs : List Value), k + gk = B.1.length ∧ v16 = .int .i64 (k : Int) ∧ OwnT wr w5.heap.size 5 (.slice AC B.1.length cC) B.1.length xs ∧ Upd (fun b => (Value.slice AC B.1.length cC).ownBlock = some b) w8 wr)
  case atStart => exact ⟨0, _, by omega, rfl, HOC8.out, Upd.refl _ _⟩
  case round =>
    obtain ⟨k, xs, hk, rfl, hO, hU⟩ := hrel
    by_cases hlt : k < B.1.length
    · have g1 : (k : Int) < (B.1.length : Int) := by omega
      obtain ⟨g, rfl, hcells⟩ := hO.form (by omega)
      obtain ⟨⟨u, hu⟩, hf⟩ := hcells k hlt
      have HO := hideP (hO.stored (k := k) (.int .u8 201))
      have HU := hideP (hU.setCell ⟨g, k, none⟩ (.int .u8 201) (fun _ => rfl))
      clear hcells hO hU
      go_wp2_with fail
      go_roundg (B.1.length - (k + 1))
      case measure => omega
      case rel => exact ⟨k + 1, _, by omega, by go_num, HO.out, HU.out⟩
    · have g1 : ¬ (k : Int) < (B.1.length : Int) := by omega
      have HO := hideP hO
      have HU := hideP hU
      clear hO hU hk
      go_wp2_with fail
      go_loopg [11, 17] 9 (fun gk v11 v17 wq => ∃ (j : Nat) (ys : List Value) (A' : Option Addr) (c' : Nat), j + gk = 9 ∧ v17 = .int .i64 (j : Int) ∧ v11 = .slice A' (B.1.length + j) c' ∧ OwnT wq w5.heap.size 5 (.slice A' (B.1.length + j) c') (B.1.length + j) ys ∧ (∀ g, (Value.slice A' (B.1.length + j) c').ownBlock = some g → (Value.slice AC B.1.length cC).ownBlock = some g ∨ w8.heap.size ≤ g) ∧ Upd (fun b => (Value.slice AC B.1.length cC).ownBlock = some b) w8 wq)
      case atStart => exact ⟨0, _, AC, cC, by omega, rfl, rfl, HO.out, fun g hg => .inl hg, HU.out⟩
      case round =>
        obtain ⟨j, ys, A', c', hj, rfl, rfl, hOj, hbj, hUj⟩ := hrel
        have hs8 := hUj.size
        by_cases hlj : j < 9
        · have gj : (j : Int) < 9 := by omega
          have HOj := hideP (hOj.alloc (.cells #[.int .u8 202] 5))
          have HUj := hideP (hUj.alloc (.cells #[.int .u8 202] 5))
          have HBj := hideP hbj
          have HJ := hideP hj
          clear hOj hUj hbj hj
          go_wp2_with (at_builtin; refine wpList_append_T rfl _ _ 30 rfl w5.heap.size 5 i0 (.int .u8 0) Tryd.underlying30 hi0 hz0 hz1 hz2 rfl _ _ _ rfl HOj.out ⟨wr.heap.size, 0, none⟩ 1 1 [.int .u8 202] rfl rfl (World.news_of_block (cs := #[.int .u8 202]) (t := 5) (fr := (0, 0)) (heap_alloc_new wr _)) (by intro u hu; simp at hu; subst hu; rfl) (by unfold maxLen; omega) (by omega) (by simp; omega) ?_; intro A9 c9 w9 o9 g9 b9; have HO9 := hideP o9; have HG9 := hideP g9; have HB9 := hideP b9; clear o9 g9 b9)
          have hj := HJ.out
          go_roundg (9 - (j + 1))
          case measure => omega
          case rel =>
            refine ⟨j + 1, _, A9, c9, by omega, by go_num, rfl, HO9.out, fun g hg => ?_, HUj.out.grown HG9.out (fun b hb hlt => ?_)⟩
            · rcases HB9.out with e | e
              · exact HBj.out g (e ▸ hg)
              · have hg' := hg.symm.trans e
                injection hg' with hg'
                refine .inr ?_
                rw [hg', World.size_alloc]
                omega
            · exact (HBj.out b hb).resolve_right (by omega)
        · have gj : ¬ (j : Int) < 9 := by omega
          obtain rfl : j = 9 := by omega
          have HOBq := hideP (HOB8.out.upd hUj HCB.out)
          have HODq := hideP (HOD8.out.upd hUj HCD.out)
          have HUq := hideP (HU8.out.trans hUj (fun b hb h => absurd (HLO.out b h) (by omega)))
          clear hOj hUj hbj hj
          go_wp2_with (go_at_call 16; refine (sameBytes_any _ _ _ AD AB B.1.length cD cB B.1 (Reads.of_ownT HODq.out) (Reads.of_ownT HOBq.out) (by omega)).mono ?_; rintro e w9 ⟨rfl, hU9⟩)
          go_ret
          exact ⟨rfl, (HU2.out.trans HUq.out (fun _ _ h => h)).trans hU9 (fun _ _ h => h)⟩
end Go.Proofs.YtdbdokjlcdogiaaDoor
