/-
  heronlaw15.LiteralPlays: the walk.
-/
import Derived.Test.YtebbnjbgmcdbcaaLent
import Derived.Test.YtebbnjbgmcdbcaaAsks
namespace Go.Proofs.Ytebbnjbgmcdbcaa
open Go.RowKit
set_option linter.unusedVariables false

/-- what New hands back of a row -/
def FV (w : World) (base : Nat) (P : List Int) (v : Value) (er : Int) : Prop :=
  (4194304 < P.length ∧ v = .pointer none ∧ er = 2) ∨ (P.length ≤ 4194304 ∧ er = 0 ∧ ∃ fb bb A c back, v = .pointer (some ⟨fb, 0, none⟩) ∧ FindR w base fb bb A c P back ∧ Table P back P.length)
/-- what the document's New hands back -/
def RV (w : World) (P : List Int) (v : Value) (er : Int) : Prop :=
  (4194304 < P.length ∧ v = .pointer none ∧ er = 2) ∨ (P.length ≤ 4194304 ∧ er = 0 ∧ ∃ base rb A c, v = .pointer (some ⟨rb, 0, none⟩) ∧ RefR w base rb A c P)
theorem FV.old {F : Nat → Prop} {w w' : World} {base : Nat} {P : List Int} {v : Value} {er : Int} (h : FV w base P v er) (hU : Upd F w w') (hF : ∀ k, k < w.heap.size → ¬ F k) : FV w' base P v er := by
  rcases h with h | ⟨h1, h2, fb, bb, A, c, back, h3, h4, h5⟩
  · exact .inl h
  · exact .inr ⟨h1, h2, fb, bb, A, c, back, h3, h4.old hU hF, h5⟩
theorem FV.upd {F : Nat → Prop} {w w' : World} {base : Nat} {P : List Int} {v : Value} {er : Int} (h : FV w base P v er) (hU : Upd F w w') (hF : ∀ k, base ≤ k → ¬ F k) : FV w' base P v er := by
  rcases h with h | ⟨h1, h2, fb, bb, A, c, back, h3, h4, h5⟩
  · exact .inl h
  · exact .inr ⟨h1, h2, fb, bb, A, c, back, h3, h4.upd hU hF, h5⟩
theorem RV.old {F : Nat → Prop} {w w' : World} {P : List Int} {v : Value} {er : Int} (h : RV w P v er) (hU : Upd F w w') (hF : ∀ k, k < w.heap.size → ¬ F k) : RV w' P v er := by
  rcases h with h | ⟨h1, h2, base, rb, A, c, h3, h4⟩
  · exact .inl h
  · exact .inr ⟨h1, h2, base, rb, A, c, h3, h4.upd hU hF⟩

theorem new_all (w : World) (S : Nat → Prop) (A : Option Addr) (n c : Nat) (P : List Int) (hr : Reads w S 1 A n (intv P)) :
    Calls Try.prog 19 #[.slice A n c] w fun e w' => ∃ v er, e = .returned (.tuple #[v, .int .i64 er]) ∧ FV w' w.heap.size P v er ∧ Upd Nob w w' := by
  have hl : P.length = n := by have := hr.1; simpa [intv] using this
  by_cases h : 4194304 < n
  · refine (new_long w A n c h).mono ?_
    rintro e w' ⟨rfl, rfl⟩
    exact ⟨_, _, rfl, .inl ⟨by omega, rfl, rfl⟩, Upd.refl _ _⟩
  · refine (new_any w S A n c P hr (by omega)).mono ?_
    rintro e w' ⟨fb, bb, A2, c2, back, rfl, hF, hT, hU⟩
    exact ⟨_, _, rfl, .inr ⟨by omega, rfl, fb, bb, A2, c2, back, rfl, hF, hT⟩, hU⟩
theorem ref_all (w : World) (S : Nat → Prop) (A : Option Addr) (n c : Nat) (P : List Int) (hr : Reads w S 1 A n (intv P)) :
    Calls Try.prog 21 #[.slice A n c] w fun e w' => ∃ v er, e = .returned (.tuple #[v, .int .i64 er]) ∧ RV w' P v er ∧ Upd Nob w w' := by
  have hl : P.length = n := by have := hr.1; simpa [intv] using this
  by_cases h : 4194304 < n
  · refine (ref_long w A n c h).mono ?_
    rintro e w' ⟨rfl, rfl⟩
    exact ⟨_, _, rfl, .inl ⟨by omega, rfl, rfl⟩, Upd.refl _ _⟩
  · refine (ref_new w S A n c P hr (by omega)).mono ?_
    rintro e w' ⟨rb, A2, c2, rfl, hF, hU⟩
    exact ⟨_, _, rfl, .inr ⟨by omega, rfl, _, rb, A2, c2, rfl, hF⟩, hU⟩

set_option maxRecDepth 100000 in
set_option maxHeartbeats 4000000 in
theorem literalPlays_any (w : World) (A B T : Option Addr) (n c m d l f : Nat) (P Q : List Int) (asks : List PAsk) (hP : Reads w (· < w.heap.size) 1 A n (intv P)) (hQ : Reads w (· < w.heap.size) 1 B m (intv Q)) (hA : AsksR w (· < w.heap.size) T l asks)
    (hnb : n * 8 ≤ 140737488351232) (hmb : m * 8 ≤ 140737488351232) (hlb : l ≤ 140737488351232) :
    Calls Try.prog 5 #[.slice A n c, .slice B m d, .slice T l f] w fun e w' => e = .returned (.bool true) ∧ Upd Nob w w' := by
  obtain rfl : P.length = n := by have := hP.1; simpa [intv] using this
  obtain rfl : Q.length = m := by have := hQ.1; simpa [intv] using this
  obtain rfl : asks.length = l := hA.len
  have HP := hide hP
  have HQ := hide hQ
  have HA := hide hA
  have kn : (P.length : Int) ≤ (P.length : Int) + 2 := by omega
  have km : (Q.length : Int) ≤ (Q.length : Int) + 2 := by omega
  clear hP hQ hA
  go_enter Try.func5, Try.ntmps5
  go_wp2_with fail
  refine (awake_any w).mono ?_
  rintro e w1 ⟨rfl, hU1⟩
  go_wp2_with fail
  refine (lent_any w1 _ A P.length c P (HP.out.upd hU1 (fun _ _ => not_nob)) hnb).mono ?_
  rintro e w2 ⟨g1, rfl, o1, hU2⟩
  have V2 := hU1.trans hU2 (fun _ _ h => h)
  go_wp2_with fail
  refine (lent_any w2 _ B Q.length d Q (HQ.out.upd V2 (fun _ _ => not_nob)) hmb).mono ?_
  rintro e w3 ⟨g2, rfl, o2, hU3⟩
  have V3 := V2.trans hU3 (fun _ _ h => h)
  have o13 := own_upd o1 hU3 (fun _ _ => not_nob)
  go_wp2_with fail
  refine (new_all w3 _ (some ⟨g1, 0, none⟩) P.length (P.length + 2) P (marked_reads rfl o13)).mono ?_
  rintro e w4 ⟨vf, ef, rfl, F4, hU4⟩
  have V4 := V3.trans hU4 (fun _ _ h => h)
  have o24 := own_upd o2 hU4 (fun _ _ => not_nob)
  go_wp2_with fail
  refine (new_all w4 _ (some ⟨g2, 0, none⟩) Q.length (Q.length + 2) Q (marked_reads rfl o24)).mono ?_
  rintro e w5 ⟨vg, eg, rfl, G5, hU5⟩
  have V5 := V4.trans hU5 (fun _ _ h => h)
  have F5 := F4.old hU5 (fun _ _ => not_nob)
  have o15 := own_upd (own_upd o13 hU4 (fun _ _ => not_nob)) hU5 (fun _ _ => not_nob)
  have o25 := own_upd o24 hU5 (fun _ _ => not_nob)
  have q13 := (o13.lt g1 rfl).2
  have q23 := (o2.lt g2 rfl).2
  have q12 := (o13.lt g1 rfl).1
  have q22 := (o2.lt g2 rfl).1
  have s4 := hU4.size
  have s1 := hU1.size
  have s2 := hU2.size
  have s3 := hU3.size
  have n12 : g2 ≠ g1 := by have := (o1.lt g1 rfl).2; omega
  go_wp2_with fail
  refine (back_any w5 _ g1 _ A P.length c P (HP.out.upd V5 (fun _ _ => not_nob)) o15 hnb).mono ?_
  rintro e w6 ⟨rfl, hU6⟩
  have V6 := V5.trans hU6 (fun k hk h => absurd h (by omega))
  have F6 := F5.upd hU6 (fun k hk h => by omega)
  have G6 := G5.upd hU6 (fun k hk h => by omega)
  have o26 := own_upd o25 hU6 (fun k hk h => by simp [Value.ownBlock] at hk; omega)
  go_wp2_with fail
  refine (back_any w6 _ g2 _ B Q.length d Q (HQ.out.upd V6 (fun _ _ => not_nob)) o26 hmb).mono ?_
  rintro e w7 ⟨rfl, hU7⟩
  have V7 := V6.trans hU7 (fun k hk h => absurd h (by omega))
  have F7 := F6.upd hU7 (fun k hk h => by omega)
  have G7 := G6.upd hU7 (fun k hk h => by omega)
  go_wp2_with fail
  refine (ref_all w7 _ A P.length c P (HP.out.upd V7 (fun _ _ => not_nob))).mono ?_
  rintro e w8 ⟨vr, er, rfl, R8, hU8⟩
  have V8 := V7.trans hU8 (fun _ _ h => h)
  go_wp2_with fail
  refine (ref_all w8 _ B Q.length d Q (HQ.out.upd V8 (fun _ _ => not_nob))).mono ?_
  rintro e w9 ⟨vs, es, rfl, S9, hU9⟩
  have V9 := V8.trans hU9 (fun _ _ h => h)
  have R9 := R8.old hU9 (fun _ _ => not_nob)
  have F9 := (F7.old hU8 (fun _ _ => not_nob)).old hU9 (fun _ _ => not_nob)
  have G9 := (G7.old hU8 (fun _ _ => not_nob)).old hU9 (fun _ _ => not_nob)
  generalize w3.heap.size = bf at F9
  generalize w4.heap.size = bg at G9
  clear hU1 hU2 hU3 hU4 hU5 hU6 hU7 hU8 hU9 V2 V3 V4 V5 V6 V7 V8 o1 o2 o13 o15 o24 o25 o26 F4 F5 F6 F7 G5 G6 G7 R8 q13 q23 q12 q22 s1 s2 s3 s4 n12
  have HV9 := hide V9
  clear V9
  go_upto_region 10 with fail
  go_cut [96] from 63 to 95 (fun v96 wc => v96 = .bool false ∧ w9 = wc)
  case first =>
    rcases F9 with ⟨p1, rfl, rfl⟩ | ⟨p1, rfl, fb, bb, A3, c3, back, rfl, -, -⟩ <;> rcases R9 with ⟨p2, rfl, rfl⟩ | ⟨p2, rfl, base2, rb, A4, c4, rfl, -⟩ <;> rcases G9 with ⟨p3, rfl, rfl⟩ | ⟨p3, rfl, fb3, bb3, A5, c5, back3, rfl, -, -⟩ <;> rcases S9 with ⟨p4, rfl, rfl⟩ | ⟨p4, rfl, base4, rb4, A6, c6, rfl, -⟩
    all_goals first
      | (exfalso; omega)
      | (go_wp2_with fail
         go_meet
         exact ⟨rfl, rfl⟩)
  case rest =>
    obtain ⟨rfl, rfl⟩ := hcut
    have HF := hide F9
    have HG := hide G9
    have HR := hide R9
    have HS := hide S9
    clear F9 G9 R9 S9
    go_wp2_with fail
    go_loopg [20] asks.length (fun gk v20 wr => ∃ i : Nat, i + gk = asks.length ∧ v20 = .int .i64 (i : Int) ∧ Upd Nob w9 wr)
    case atStart => exact ⟨0, by omega, rfl, Upd.refl _ _⟩
    case round =>
      obtain ⟨i, hk, rfl, hU⟩ := hrel
      by_cases hlt : i < asks.length
      · obtain ⟨x, hx⟩ : ∃ x, asks[i]? = some x := ⟨_, List.getElem?_eq_getElem hlt⟩
        obtain ⟨ad, g, o, B2, m2, c2, rfl, hadd, -, hg, c0, c1, cb, hrt, hpl, hmm⟩ := (HA.out.upd (HV9.out.trans hU (fun _ _ h => h)) (fun _ _ => not_nob)).at_ i x hx
        obtain rfl : x.text.length = m2 := by have := hrt.1; simpa [intv] using this
        have Ca : Cells (wr.alloc (.cells #[.slice B2 x.text.length c2, .int .i64 x.place, .bool x.two] 47)) wr.heap.size 47 #[.slice B2 x.text.length c2, .int .i64 x.place, .bool x.two] := Cells.new _ _ _
        have hUa := (Upd.refl Nob wr).alloc (.cells #[.slice B2 x.text.length c2, .int .i64 x.place, .bool x.two] 47)
        have hRa := hrt.upd hUa (fun _ _ => not_nob)
        have i1 : (i : Int) < (asks.length : Int) := by omega
        clear hx hrt
        go_upto_region 16 with fail
        generalize wr.alloc (.cells #[.slice B2 x.text.length c2, .int .i64 x.place, .bool x.two] 47) = wa at *
        have hlx : wr.heap.size < wa.heap.size := Ca.lt
        generalize hxb : wr.heap.size = xb at *
        have l0 : wa.cell? ⟨xb, 0, none⟩ = some (.slice B2 x.text.length c2) := Ca.cellv rfl
        clear c0 c1 cb hadd hg
        go_wp2_with fail
        refine (lent_any wa _ B2 x.text.length c2 x.text hRa hmm).mono ?_
        rintro e wb ⟨gc, rfl, oc, hUb⟩
        have Cb := Ca.upd hUb not_nob
        have hUab := (hU.trans hUa (fun _ _ h => h)).trans hUb (fun _ _ h => h)
        have hgc := (oc.lt gc rfl).1
        have hs9 := hU.size
        have UB : ∀ q, Upd Nob w9 (wb.drewN q) := fun q => hUab.drewN q
        have RB : ∀ q, Reads (wb.drewN q) (· < w.heap.size) 1 B2 x.text.length (intv x.text) := fun q => reads_drewN (hRa.upd hUb (fun _ _ => not_nob)) q
        have OB : ∀ q, (wb.drewN q).ownsRow wa.heap.size 3 1 (.slice (some ⟨gc, 0, none⟩) (x.text.length + 2) (x.text.length + 2)) (x.text.length + 2) (marked x.text) := fun q => oc
        have l0 : wb.cell? ⟨xb, 0, none⟩ = some (.slice B2 x.text.length c2) := Cb.cellv rfl
        have l1 : wb.cell? ⟨xb, 0 + 1, none⟩ = some (.int .i64 x.place) := Cb.cellv rfl
        have l2 : wb.cell? ⟨xb, 0 + 2, none⟩ = some (.bool x.two) := Cb.cellv rfl
        have kc : (x.text.length : Int) ≤ (x.text.length : Int) + 2 := by omega
        have HUB := hide UB
        have HRB := hide RB
        have HOB := hide OB
        clear UB RB OB hU hUa hUb hUab oc Ca Cb hRa
        rcases htw : x.two with _ | _
        · rw [htw] at l2
          rcases HF.out with ⟨p1, rfl, rfl⟩ | ⟨p1, rfl, fb, bb, A3, c3, back, rfl, hFin, hTab⟩
          · go_wp2_with fail
            refine (back_any (wb.drewN 0) _ gc _ B2 x.text.length c2 x.text (HRB.out _) (HOB.out _) hmm).mono ?_
            rintro e wz ⟨rfl, hUz⟩
            go_wp2_with fail
            go_roundg (asks.length - (i + 1))
            case measure => omega
            case rel => exact ⟨i + 1, by omega, by go_num, (HUB.out _).trans hUz (fun k hk h => absurd h (by omega))⟩
          · rcases HR.out with ⟨p2, rfl, rfl⟩ | ⟨p2, rfl, rbase, rb, A4, c4, rfl, hRef⟩
            · omega
            have hkk : (nextOf P x.text x.place == nextOf P x.text x.place) = true := by simp
            have QN : ∀ q, Calls Try.prog 22 #[.pointer (some ⟨fb, 0, none⟩), .slice (some ⟨gc, 0, none⟩) x.text.length (x.text.length + 2), .int .i64 x.place] (wb.drewN q) fun e w'' => e = .returned (.int .i64 (nextOf P x.text x.place)) ∧ ∃ m, w'' = wb.drewN m := fun q => (next_any (wb.drewN q) _ fb bb A3 c3 P back (hFin.old (HUB.out q) (fun _ _ => not_nob)) hTab p1 _ (some ⟨gc, 0, none⟩) x.text.length (x.text.length + 2) x.text (marked_reads rfl (HOB.out q)) (by omega) x.place hpl).mono (by
              rintro e w'' ⟨he, q2, rfl⟩
              exact ⟨he, _, by rw [World.drewN_drewN]⟩)
            have RN : ∀ q, Calls Try.prog 23 #[.pointer (some ⟨rb, 0, none⟩), .slice B2 x.text.length c2, .int .i64 x.place] (wb.drewN q) fun e w'' => e = .returned (.int .i64 (nextOf P x.text x.place)) ∧ ∃ m, w'' = wb.drewN m := fun q => (ref_next (wb.drewN q) _ rb A4 c4 P (hRef.upd (HUB.out q) (fun _ _ => not_nob)) p1 _ B2 x.text.length c2 x.text (HRB.out q) (by omega) x.place hpl).mono (by
              rintro e w'' ⟨he, q2, rfl⟩
              exact ⟨he, _, by rw [World.drewN_drewN]⟩)
            have HQN := hide QN
            have HRN := hide RN
            clear QN RN hFin hTab hRef
            go_wp2_with fail
            go_quiet ((go_at_call 22; exact HQN.out _))
            go_wp2_with fail
            refine (HRN.out _).mono ?_
            rintro e w'' ⟨rfl, q2, rfl⟩
            go_wp2_with fail
            refine (back_any (wb.drewN _) _ gc _ B2 x.text.length c2 x.text (HRB.out _) (HOB.out _) hmm).mono ?_
            rintro e wz ⟨rfl, hUz⟩
            go_wp2_with fail
            go_roundg (asks.length - (i + 1))
            case measure => omega
            case rel => exact ⟨i + 1, by omega, by go_num, (HUB.out _).trans hUz (fun k hk h => absurd h (by omega))⟩
        · rw [htw] at l2
          rcases HG.out with ⟨p1, rfl, rfl⟩ | ⟨p1, rfl, fb, bb, A3, c3, back, rfl, hFin, hTab⟩
          · go_wp2_with fail
            refine (back_any (wb.drewN 0) _ gc _ B2 x.text.length c2 x.text (HRB.out _) (HOB.out _) hmm).mono ?_
            rintro e wz ⟨rfl, hUz⟩
            go_wp2_with fail
            go_roundg (asks.length - (i + 1))
            case measure => omega
            case rel => exact ⟨i + 1, by omega, by go_num, (HUB.out _).trans hUz (fun k hk h => absurd h (by omega))⟩
          · rcases HS.out with ⟨p2, rfl, rfl⟩ | ⟨p2, rfl, rbase, rb, A4, c4, rfl, hRef⟩
            · omega
            have hkk : (nextOf Q x.text x.place == nextOf Q x.text x.place) = true := by simp
            have QN : ∀ q, Calls Try.prog 22 #[.pointer (some ⟨fb, 0, none⟩), .slice (some ⟨gc, 0, none⟩) x.text.length (x.text.length + 2), .int .i64 x.place] (wb.drewN q) fun e w'' => e = .returned (.int .i64 (nextOf Q x.text x.place)) ∧ ∃ m, w'' = wb.drewN m := fun q => (next_any (wb.drewN q) _ fb bb A3 c3 Q back (hFin.old (HUB.out q) (fun _ _ => not_nob)) hTab p1 _ (some ⟨gc, 0, none⟩) x.text.length (x.text.length + 2) x.text (marked_reads rfl (HOB.out q)) (by omega) x.place hpl).mono (by
              rintro e w'' ⟨he, q2, rfl⟩
              exact ⟨he, _, by rw [World.drewN_drewN]⟩)
            have RN : ∀ q, Calls Try.prog 23 #[.pointer (some ⟨rb, 0, none⟩), .slice B2 x.text.length c2, .int .i64 x.place] (wb.drewN q) fun e w'' => e = .returned (.int .i64 (nextOf Q x.text x.place)) ∧ ∃ m, w'' = wb.drewN m := fun q => (ref_next (wb.drewN q) _ rb A4 c4 Q (hRef.upd (HUB.out q) (fun _ _ => not_nob)) p1 _ B2 x.text.length c2 x.text (HRB.out q) (by omega) x.place hpl).mono (by
              rintro e w'' ⟨he, q2, rfl⟩
              exact ⟨he, _, by rw [World.drewN_drewN]⟩)
            have HQN := hide QN
            have HRN := hide RN
            clear QN RN hFin hTab hRef
            go_wp2_with fail
            go_quiet ((go_at_call 22; exact HQN.out _))
            go_wp2_with fail
            refine (HRN.out _).mono ?_
            rintro e w'' ⟨rfl, q2, rfl⟩
            go_wp2_with fail
            refine (back_any (wb.drewN _) _ gc _ B2 x.text.length c2 x.text (HRB.out _) (HOB.out _) hmm).mono ?_
            rintro e wz ⟨rfl, hUz⟩
            go_wp2_with fail
            go_roundg (asks.length - (i + 1))
            case measure => omega
            case rel => exact ⟨i + 1, by omega, by go_num, (HUB.out _).trans hUz (fun k hk h => absurd h (by omega))⟩
      · go_wp2_with fail
        go_ret
        exact ⟨rfl, HV9.out.trans hU (fun _ _ h => h)⟩
end Go.Proofs.Ytebbnjbgmcdbcaa
