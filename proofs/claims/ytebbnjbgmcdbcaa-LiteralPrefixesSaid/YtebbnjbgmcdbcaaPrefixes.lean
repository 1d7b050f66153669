/-
  heronlaw15.LiteralPrefixes: the walk.
-/
import Derived.Test.YtebbnjbgmcdbcaaOwned
import Derived.Test.YtebbnjbgmcdbcaaRefPrefix
import Derived.Test.YtebbnjbgmcdbcaaTurnP
namespace Go.Proofs.Ytebbnjbgmcdbcaa
open Go.RowKit
set_option linter.unusedVariables false

theorem InstsR.wf {w : World} {S : Nat → Prop} {A : Option Addr} {n : Nat} {is : List PInst} (h : InstsR w S A n is) : ∀ x ∈ is, In64I x ∧ In64s x.rs ∧ x.rs.length ≤ 140737488355328 := by
  intro x hx
  obtain ⟨i, hi⟩ := List.mem_iff_getElem?.1 hx
  obtain ⟨ad, g, o, B, m, c, _, _, _, _, hr, hI, _⟩ := h.at_ i x hi
  exact ⟨hI, hr.i, by rw [hr.len]; exact hr.n⟩
theorem turn_wf {is : List PInst} (h : ∀ x ∈ is, In64I x ∧ In64s x.rs ∧ x.rs.length ≤ 140737488355328) : ∀ x ∈ is.map turnI, In64I x ∧ In64s x.rs ∧ x.rs.length ≤ 140737488355328 := by
  intro y hy
  obtain ⟨x, hx, rfl⟩ := List.mem_map.1 hy
  obtain ⟨h1, h2, h3⟩ := h x hx
  have hl : (turnI x).rs.length = x.rs.length := turnI_len x
  refine ⟨⟨h1.iop, ?_, ?_, h1.iarg⟩, fun r hr => ?_, by rw [hl]; exact h3⟩
  · show In64 (if x.op = 2 then x.y else x.x)
    split
    · exact h1.iy
    · exact h1.ix
  · show In64 (if x.op = 2 then x.x else x.y)
    split
    · exact h1.ix
    · exact h1.iy
  · have hr' : r ∈ turnR x.rs.length x.rs := hr
    simp only [turnR, List.drop_length, List.append_nil, List.mem_map, List.mem_range] at hr'
    obtain ⟨k, hk, rfl⟩ := hr'
    unfold In64
    simp only
    omega

/-- what stands while the law asks: the boxes of p, of the other, of q; q lent; the programs -/
structure PS (w wr : World) (b0 b1 b6 base ga : Nat) (A1 A2 : Option Addr) (c1 c2 : Nat) (is1 is2 js : List PInst) (s1 k1 s2 k2 : Int) (gr : Nat → Nat) (cs : Array Value) : Prop where
  x0 : Cells wr b0 27 #[.slice A1 is1.length c1, .int .i64 s1, .int .i64 k1]
  x1 : Cells wr b1 27 #[.slice A2 is2.length c2, .int .i64 s2, .int .i64 k2]
  x6 : Cells wr b6 27 #[.slice (some ⟨ga, 0, none⟩) js.length (js.length + 2), .int .i64 s1, .int .i64 k1]
  q : LentM wr base ga js gr cs
  p : InstsR wr (· < w.heap.size) A1 is1.length is1
  o : InstsR wr (· < w.heap.size) A2 is2.length is2
  u : Upd Nob w wr
theorem PS.upd {w wr wr' : World} {b0 b1 b6 base ga : Nat} {A1 A2 : Option Addr} {c1 c2 : Nat} {is1 is2 js : List PInst} {s1 k1 s2 k2 : Int} {gr : Nat → Nat} {cs : Array Value} (h : PS w wr b0 b1 b6 base ga A1 A2 c1 c2 is1 is2 js s1 k1 s2 k2 gr cs) (hU : Upd Nob wr wr') :
    PS w wr' b0 b1 b6 base ga A1 A2 c1 c2 is1 is2 js s1 k1 s2 k2 gr cs :=
  ⟨h.x0.upd hU not_nob, h.x1.upd hU not_nob, h.x6.upd hU not_nob, h.q.old hU (fun _ _ => not_nob), h.p.upd hU (fun _ _ => not_nob), h.o.upd hU (fun _ _ => not_nob), h.u.trans hU (fun _ _ h => h)⟩
/-- a row that came between two worlds -/
structure RowIn (w : World) (lo hi : Nat) (A : Option Addr) (row : List Int) : Prop where
  r : RowAt w lo A row
  lt : ∀ g, A = some ⟨g, 0, none⟩ → g < hi
theorem RowIn.of {w : World} {lo : Nat} {A : Option Addr} {row : List Int} (h : RowAt w lo A row) : RowIn w lo w.heap.size A row := ⟨h, fun g hg => by
  rcases h with ⟨h0, _⟩ | ⟨g', cur, hg', _, hc, _⟩
  · rw [h0] at hg; cases hg
  · rw [hg'] at hg; injection hg with hg; injection hg with hg; subst hg; exact hc.lt⟩
theorem RowIn.upd {F : Nat → Prop} {w w' : World} {lo hi : Nat} {A : Option Addr} {row : List Int} (h : RowIn w lo hi A row) (hU : Upd F w w') (hF : ∀ b, lo ≤ b → b < hi → ¬ F b) : RowIn w' lo hi A row := by
  refine ⟨?_, h.lt⟩
  rcases h.r with h0 | ⟨g, cur, h1, hb, hc, ht⟩
  · exact .inl h0
  · exact .inr ⟨g, cur, h1, hb, hc.upd hU (hF g hb (h.lt g h1)), ht⟩
theorem RowIn.rowOk {w : World} {lo hi : Nat} {A : Option Addr} {row : List Int} (h : RowIn w lo hi A row) : RowOk w (A, row.length) := by
  rcases h.r with ⟨h0, h1⟩ | ⟨g, cur, h1, hb, hc, ht⟩
  · exact .inl ⟨h0, by rw [h1]; rfl⟩
  · refine .inr ⟨g, cur, h1, hc, ?_⟩
    have := congrArg List.length ht
    simp [intv] at this
    show row.length ≤ cur.size
    omega
theorem RowIn.block {w : World} {lo hi b : Nat} {A : Option Addr} {row : List Int} (h : RowIn w lo hi A row) (hb : rowBlock (A, row.length) b) : lo ≤ b ∧ b < hi := by
  obtain ⟨o, x, hb⟩ := hb
  simp only at hb
  rcases h.r with ⟨h0, _⟩ | ⟨g, cur, h1, hl, hc, ht⟩
  · rw [h0] at hb; cases hb
  · have := h.lt g h1
    rw [h1] at hb
    injection hb with hb
    injection hb with e
    subst e
    exact ⟨hl, this⟩
theorem rows4 {w : World} {l1 h1 l2 h2 l3 h3 l4 h4 : Nat} {A B C D : Option Addr} {a b c d : List Int} (ra : RowIn w l1 h1 A a) (rb : RowIn w l2 h2 B b) (rc : RowIn w l3 h3 C c) (rd : RowIn w l4 h4 D d)
    (h12 : h1 ≤ l2) (h23 : h2 ≤ l3) (h34 : h3 ≤ l4) (q2 : l2 ≤ h2) (q3 : l3 ≤ h3) (la : a.length ≤ 1000000) (lb : b.length ≤ 1000000) (lc : c.length ≤ 1000000) (ld : d.length ≤ 1000000) :
    RowsR (w.alloc (.cells #[.slice A a.length a.length, .slice B b.length b.length, .slice C c.length c.length, .slice D d.length d.length] 29)) w.heap.size [(A, a.length), (B, b.length), (C, c.length), (D, d.length)] := by
  have hU := (Upd.refl Nob w).alloc (.cells #[.slice A a.length a.length, .slice B b.length b.length, .slice C c.length c.length, .slice D d.length d.length] 29)
  have ok : ∀ {r : Option Addr × Nat}, RowOk w r → RowOk (w.alloc (.cells #[.slice A a.length a.length, .slice B b.length b.length, .slice C c.length c.length, .slice D d.length d.length] 29)) r := by
    intro r h
    rcases h with h | ⟨g, cur, hg, hc, hn⟩
    · exact .inl h
    · exact .inr ⟨g, cur, hg, hc.upd hU not_nob, hn⟩
  refine ⟨Cells.new _ _ _, fun r hr => ?_, fun i j r s x hi hj hr hs => ?_, by simp, fun r hr => ?_⟩
  · simp only [List.mem_cons, List.not_mem_nil, or_false] at hr
    rcases hr with rfl | rfl | rfl | rfl
    · exact ok ra.rowOk
    · exact ok rb.rowOk
    · exact ok rc.rowOk
    · exact ok rd.rowOk
  · have key : ∀ (i : Nat) (r : Option Addr × Nat), ([(A, a.length), (B, b.length), (C, c.length), (D, d.length)] : List (Option Addr × Nat))[i]? = some r → rowBlock r x →
        (i = 0 ∧ l1 ≤ x ∧ x < h1) ∨ (i = 1 ∧ l2 ≤ x ∧ x < h2) ∨ (i = 2 ∧ l3 ≤ x ∧ x < h3) ∨ (i = 3 ∧ l4 ≤ x ∧ x < h4) := by
      intro i r hi hr
      have hl : i < 4 := (List.getElem?_eq_some_iff.1 hi).1
      match i, hl with
      | 0, _ => injection hi with hi; subst hi; exact .inl ⟨rfl, ra.block hr⟩
      | 1, _ => injection hi with hi; subst hi; exact .inr (.inl ⟨rfl, rb.block hr⟩)
      | 2, _ => injection hi with hi; subst hi; exact .inr (.inr (.inl ⟨rfl, rc.block hr⟩))
      | 3, _ => injection hi with hi; subst hi; exact .inr (.inr (.inr ⟨rfl, rd.block hr⟩))
    have k1 := key i r hi hr
    have k2 := key j s hj hs
    omega
  · simp only [List.mem_cons, List.not_mem_nil, or_false] at hr
    rcases hr with rfl | rfl | rfl | rfl
    · exact la
    · exact lb
    · exact lc
    · exact ld
/-- the row of a program is no longer than the program -/
theorem prefixFrom_len (is : List PInst) : ∀ (f : Nat) (bs : List Bool) (pc : Nat) (row : List Int), (prefixFrom is f bs pc row).1.length ≤ row.length + f
  | 0, bs, pc, row => by simp [prefixFrom]
  | f + 1, bs, pc, row => by
    rw [prefixFrom]
    split
    · simp
    · split
      · simp
      · split
        · simp
        · split
          · split
            · split
              · refine Nat.le_trans (prefixFrom_len is f _ _ _) ?_
                simp
                omega
              · simp
            · simp
          · split
            · exact Nat.le_trans (prefixFrom_len is f _ _ _) (by omega)
            · simp
theorem prefixOf_len (is : List PInst) (start caps : Int) : (prefixOf is start caps).1.length ≤ 20001 := by
  unfold prefixOf
  split
  · rename_i h
    have := prefixFrom_len is (is.length + 1) (List.replicate is.length false) start.toNat []
    have h2 := (checkB_yes h).1
    simp at this
    omega
  · simp

set_option maxRecDepth 100000 in
set_option maxHeartbeats 4000000 in
theorem literalPrefixes_any (w : World) (A1 A2 : Option Addr) (n1 c1 n2 c2 : Nat) (is1 is2 : List PInst) (s1 k1 s2 k2 : Int) (hp : InstsR w (· < w.heap.size) A1 n1 is1) (ho : InstsR w (· < w.heap.size) A2 n2 is2)
    (i1 : In64 s1) (j1 : In64 k1) (i2 : In64 s2) (j2 : In64 k2) (hb1 : n1 * 56 ≤ 140737488351232) (hb2 : n2 * 56 ≤ 140737488351232) (hr1 : ∀ x ∈ is1, x.rs.length * 16 ≤ 140737488351232) :
    Calls Try.prog 4 #[.agg #[.slice A1 n1 c1, .int .i64 s1, .int .i64 k1], .agg #[.slice A2 n2 c2, .int .i64 s2, .int .i64 k2]] w fun e w' => e = .returned (.bool true) ∧ Upd Nob w w' := by
  obtain rfl : is1.length = n1 := hp.len
  obtain rfl : is2.length = n2 := ho.len
  have HWF := hide hp.wf
  have C0 : Cells ((w.alloc (.cells #[.slice A1 is1.length c1, .int .i64 s1, .int .i64 k1] 27)).alloc (.cells #[.slice A2 is2.length c2, .int .i64 s2, .int .i64 k2] 27)) w.heap.size 27 #[.slice A1 is1.length c1, .int .i64 s1, .int .i64 k1] := (Cells.new _ _ _).alloc _
  have C1 := Cells.new (w.alloc (.cells #[.slice A1 is1.length c1, .int .i64 s1, .int .i64 k1] 27)) 27 #[.slice A2 is2.length c2, .int .i64 s2, .int .i64 k2]
  rw [World.size_alloc] at C1
  have hU := ((Upd.refl Nob w).alloc (.cells #[.slice A1 is1.length c1, .int .i64 s1, .int .i64 k1] 27)).alloc (.cells #[.slice A2 is2.length c2, .int .i64 s2, .int .i64 k2] 27)
  have HP := hide hp
  have HO := hide ho
  clear hp ho
  obtain ⟨R1, E1⟩ : ∃ R, prefixOf is1 s1 k1 = R := ⟨_, rfl⟩
  obtain ⟨R2, E2⟩ : ∃ R, prefixOf is2 s2 k2 = R := ⟨_, rfl⟩
  obtain ⟨R3, E3⟩ : ∃ R, prefixOf (is1.map turnI) s1 k1 = R := ⟨_, rfl⟩
  have LR1 := prefixOf_len is1 s1 k1
  have LR2 := prefixOf_len is2 s2 k2
  have LR3 := prefixOf_len (is1.map turnI) s1 k1
  rw [E1] at LR1
  rw [E2] at LR2
  rw [E3] at LR3
  go_enter Try.func4, Try.ntmps4
  go_upto_region 1 with fail
  generalize ((w.alloc (.cells #[.slice A1 is1.length c1, .int .i64 s1, .int .i64 k1] 27)).alloc (.cells #[.slice A2 is2.length c2, .int .i64 s2, .int .i64 k2] 27)) = w2 at *
  go_wp2_with fail
  refine (awake_any w2).mono ?_
  rintro e w3 ⟨rfl, hU3⟩
  have hV3 := hU.trans hU3 (fun _ _ h => h)
  have D0 := C0.upd hU3 not_nob
  have D1 := C1.upd hU3 not_nob
  have a0 : w3.cell? ⟨w.heap.size, 0, none⟩ = some (.slice A1 is1.length c1) := D0.cellv rfl
  have a1 : w3.cell? ⟨w.heap.size, 0 + 1, none⟩ = some (.int .i64 s1) := D0.cellv rfl
  have a2 : w3.cell? ⟨w.heap.size, 0 + 2, none⟩ = some (.int .i64 k1) := D0.cellv rfl
  clear C0 C1 hU
  go_wp2_with fail
  refine (lentProg_any w3 _ A1 is1.length c1 is1 s1 k1 (HP.out.upd hV3 (fun _ _ => not_nob)) hb1 hr1).mono ?_
  rintro e w4 ⟨ga, gr, cs, rfl, hL4, hm1, hm2, hU4⟩
  have hV4 := hV3.trans hU4 (fun _ _ h => h)
  have S5 : PS w (w4.alloc (.cells #[.slice (some ⟨ga, 0, none⟩) is1.length (is1.length + 2), .int .i64 s1, .int .i64 k1] 27)) w.heap.size (w.heap.size + 1) w4.heap.size w3.heap.size ga A1 A2 c1 c2 is1 is2 is1 s1 k1 s2 k2 gr cs := by
    have hA := (Upd.refl Nob w4).alloc (.cells #[.slice (some ⟨ga, 0, none⟩) is1.length (is1.length + 2), .int .i64 s1, .int .i64 k1] 27)
    exact ⟨(D0.upd hU4 not_nob).upd hA not_nob, (D1.upd hU4 not_nob).upd hA not_nob, Cells.new _ _ _, (LentM.mk hL4 hm1 hm2).old hA (fun _ _ => not_nob), (HP.out.upd hV4 (fun _ _ => not_nob)).upd hA (fun _ _ => not_nob), (HO.out.upd hV4 (fun _ _ => not_nob)).upd hA (fun _ _ => not_nob), hV4.alloc _⟩
  have hga4 : ∀ b, OfLent ga gr is1.length b → b < w4.heap.size := by
    rintro b (rfl | ⟨i, hi, rfl⟩)
    · exact hL4.blk.lt
    · exact hL4.lt (Nat.le_refl _) hi
  have hlow : w.heap.size + 1 < w3.heap.size := D1.lt
  have hga5 : ∀ b, OfLent ga gr is1.length b → w3.heap.size ≤ b := by
    rintro b (rfl | ⟨i, hi, rfl⟩)
    · exact hL4.low
    · exact ((hL4.done i _ hi (List.getElem?_eq_getElem hi)).2.lt (gr i) rfl).1
  have hs4 := hU4.size
  clear a0 a1 a2 D0 D1 hU3 hU4 hL4 hm1 hm2 hV3 hV4
  go_upto_region 3 with fail
  have h45 : w4.heap.size < (w4.alloc (.cells #[.slice (some ⟨ga, 0, none⟩) is1.length (is1.length + 2), .int .i64 s1, .int .i64 k1] 27)).heap.size := by simp
  generalize hb6 : w4.heap.size = b6 at *
  generalize w4.alloc (.cells #[.slice (some ⟨ga, 0, none⟩) is1.length (is1.length + 2), .int .i64 s1, .int .i64 k1] 27) = w5 at *
  have HG4 := hide hga4
  have HG5 := hide hga5
  clear hga4 hga5 hb6
  have x6 := S5.x6
  have e0 : w5.cell? ⟨b6, 0, none⟩ = some (.slice (some ⟨ga, 0, none⟩) is1.length (is1.length + 2)) := x6.cellv rfl
  have e1 : w5.cell? ⟨b6, 0 + 1, none⟩ = some (.int .i64 s1) := x6.cellv rfl
  have e2 : w5.cell? ⟨b6, 0 + 2, none⟩ = some (.int .i64 k1) := x6.cellv rfl
  clear x6
  go_wp2_with fail
  refine (prefix_any w5 _ (some ⟨ga, 0, none⟩) is1.length (is1.length + 2) is1 s1 k1 (S5.q.l.insts HWF.out) i1 j1 (by omega)).mono ?_
  rintro e w6 ⟨Ba, he, rra, U6⟩
  rw [E1] at he rra
  subst he
  have S6 := S5.upd U6
  have z6 := U6.size
  clear S5 U6
  have Ra := RowIn.of rra
  clear rra
  clear e0 e1 e2
  have e0 : w6.cell? ⟨w.heap.size + 1, 0, none⟩ = some (.slice A2 is2.length c2) := S6.x1.cellv rfl
  have e1 : w6.cell? ⟨w.heap.size + 1, 0 + 1, none⟩ = some (.int .i64 s2) := S6.x1.cellv rfl
  have e2 : w6.cell? ⟨w.heap.size + 1, 0 + 2, none⟩ = some (.int .i64 k2) := S6.x1.cellv rfl
  go_wp2_with fail
  refine (prefix_any w6 _ A2 is2.length c2 is2 s2 k2 S6.o i2 j2 (by omega)).mono ?_
  rintro e w7 ⟨Bb, he, rrb, U7⟩
  rw [E2] at he rrb
  subst he
  have S7 := S6.upd U7
  have Ra := Ra.upd U7 (fun _ _ _ => not_nob)
  have z7 := U7.size
  clear S6 U7
  have Rb := RowIn.of rrb
  clear rrb
  clear e0 e1 e2
  have x6 := S7.x6
  have e0 : w7.cell? ⟨b6, 0, none⟩ = some (.slice (some ⟨ga, 0, none⟩) is1.length (is1.length + 2)) := x6.cellv rfl
  have e1 : w7.cell? ⟨b6, 0 + 1, none⟩ = some (.int .i64 s1) := x6.cellv rfl
  have e2 : w7.cell? ⟨b6, 0 + 2, none⟩ = some (.int .i64 k1) := x6.cellv rfl
  clear x6
  go_wp2_with fail
  refine (prefix_any w7 _ (some ⟨ga, 0, none⟩) is1.length (is1.length + 2) is1 s1 k1 (S7.q.l.insts HWF.out) i1 j1 (by omega)).mono ?_
  rintro e w8 ⟨Bc, he, rrc, U8⟩
  rw [E1] at he rrc
  subst he
  have S8 := S7.upd U8
  have Ra := Ra.upd U8 (fun _ _ _ => not_nob)
  have Rb := Rb.upd U8 (fun _ _ _ => not_nob)
  have z8 := U8.size
  clear S7 U8
  have Rc := RowIn.of rrc
  clear rrc
  clear e0 e1 e2
  have e0 : w8.cell? ⟨w.heap.size, 0, none⟩ = some (.slice A1 is1.length c1) := S8.x0.cellv rfl
  have e1 : w8.cell? ⟨w.heap.size, 0 + 1, none⟩ = some (.int .i64 s1) := S8.x0.cellv rfl
  have e2 : w8.cell? ⟨w.heap.size, 0 + 2, none⟩ = some (.int .i64 k1) := S8.x0.cellv rfl
  go_wp2_with fail
  refine (ref_prefix w8 _ A1 is1.length c1 is1 s1 k1 S8.p i1 j1 (by omega)).mono ?_
  rintro e w9 ⟨Bx, mx, he, rrx, U9⟩
  rw [E1] at he rrx
  subst he
  have S9 := S8.upd U9
  have Ra := Ra.upd U9 (fun _ _ _ => not_nob)
  have Rb := Rb.upd U9 (fun _ _ _ => not_nob)
  have Rc := Rc.upd U9 (fun _ _ _ => not_nob)
  have z9 := U9.size
  clear S8 U9
  have Rx := RowIn.of rrx
  clear rrx
  clear e0 e1 e2
  have e0 : w9.cell? ⟨w.heap.size + 1, 0, none⟩ = some (.slice A2 is2.length c2) := S9.x1.cellv rfl
  have e1 : w9.cell? ⟨w.heap.size + 1, 0 + 1, none⟩ = some (.int .i64 s2) := S9.x1.cellv rfl
  have e2 : w9.cell? ⟨w.heap.size + 1, 0 + 2, none⟩ = some (.int .i64 k2) := S9.x1.cellv rfl
  go_wp2_with fail
  refine (ref_prefix w9 _ A2 is2.length c2 is2 s2 k2 S9.o i2 j2 (by omega)).mono ?_
  rintro e w10 ⟨By, my, he, rry, U10⟩
  rw [E2] at he rry
  subst he
  have S10 := S9.upd U10
  have Ra := Ra.upd U10 (fun _ _ _ => not_nob)
  have Rb := Rb.upd U10 (fun _ _ _ => not_nob)
  have Rc := Rc.upd U10 (fun _ _ _ => not_nob)
  have Rx := Rx.upd U10 (fun _ _ _ => not_nob)
  have z10 := U10.size
  clear S9 U10
  have Ry := RowIn.of rry
  clear rry
  clear e0 e1 e2
  have x6 := S10.x6
  have e0 : w10.cell? ⟨b6, 0, none⟩ = some (.slice (some ⟨ga, 0, none⟩) is1.length (is1.length + 2)) := x6.cellv rfl
  have e1 : w10.cell? ⟨b6, 0 + 1, none⟩ = some (.int .i64 s1) := x6.cellv rfl
  have e2 : w10.cell? ⟨b6, 0 + 2, none⟩ = some (.int .i64 k1) := x6.cellv rfl
  clear x6
  go_wp2_with fail
  refine (keptProg_any w10 _ ga is1 gr cs s1 k1 S10.q hb1 hr1).mono ?_
  rintro e w11 ⟨rfl, U11⟩
  have S11 := S10.upd U11
  have Ra := Ra.upd U11 (fun _ _ _ => not_nob)
  have Rb := Rb.upd U11 (fun _ _ _ => not_nob)
  have Rc := Rc.upd U11 (fun _ _ _ => not_nob)
  have Rx := Rx.upd U11 (fun _ _ _ => not_nob)
  have Ry := Ry.upd U11 (fun _ _ _ => not_nob)
  have z11 := U11.size
  clear S10 U11
  clear e0 e1 e2
  have x6 := S11.x6
  have e0 : w11.cell? ⟨b6, 0, none⟩ = some (.slice (some ⟨ga, 0, none⟩) is1.length (is1.length + 2)) := x6.cellv rfl
  have e1 : w11.cell? ⟨b6, 0 + 1, none⟩ = some (.int .i64 s1) := x6.cellv rfl
  have e2 : w11.cell? ⟨b6, 0 + 2, none⟩ = some (.int .i64 k1) := x6.cellv rfl
  clear x6
  have d0 : w11.cell? ⟨w.heap.size, 0, none⟩ = some (.slice A1 is1.length c1) := S11.x0.cellv rfl
  have d1 : w11.cell? ⟨w.heap.size, 0 + 1, none⟩ = some (.int .i64 s1) := S11.x0.cellv rfl
  have d2 : w11.cell? ⟨w.heap.size, 0 + 2, none⟩ = some (.int .i64 k1) := S11.x0.cellv rfl
  go_wp2_with fail
  refine (sameProg_any w11 _ _ (some ⟨ga, 0, none⟩) A1 is1.length (is1.length + 2) c1 is1 s1 k1 (S11.q.l.insts HWF.out) S11.p (by omega)).mono ?_
  rintro e w12 ⟨rfl, U12⟩
  have S12 := S11.upd U12
  have Ra := Ra.upd U12 (fun _ _ _ => not_nob)
  have Rb := Rb.upd U12 (fun _ _ _ => not_nob)
  have Rc := Rc.upd U12 (fun _ _ _ => not_nob)
  have Rx := Rx.upd U12 (fun _ _ _ => not_nob)
  have Ry := Ry.upd U12 (fun _ _ _ => not_nob)
  have z12 := U12.size
  clear S11 U12
  clear e0 e1 e2
  clear d0 d1 d2
  go_wp2_with fail
  refine (same_any w12 _ _ Ba Bx R1.1.length R1.1.length R1.1.length mx R1.1 R1.1 Ra.r.reads Rx.r.reads (by have := LR1; omega)).mono ?_
  rintro e w13 ⟨he, qq, hq⟩
  rw [decide_eq_true rfl] at he
  subst he
  have U13 : Upd Nob w12 w13 := by rw [hq]; exact (Upd.refl _ _).drewN _
  clear hq qq
  have S13 := S12.upd U13
  have Ra := Ra.upd U13 (fun _ _ _ => not_nob)
  have Rb := Rb.upd U13 (fun _ _ _ => not_nob)
  have Rc := Rc.upd U13 (fun _ _ _ => not_nob)
  have Rx := Rx.upd U13 (fun _ _ _ => not_nob)
  have Ry := Ry.upd U13 (fun _ _ _ => not_nob)
  have z13 := U13.size
  clear S12 U13
  go_wp2_with fail
  refine (same_any w13 _ _ Bb By R2.1.length R2.1.length R2.1.length my R2.1 R2.1 Rb.r.reads Ry.r.reads (by have := LR2; omega)).mono ?_
  rintro e w14 ⟨he, qq, hq⟩
  rw [decide_eq_true rfl] at he
  subst he
  have U14 : Upd Nob w13 w14 := by rw [hq]; exact (Upd.refl _ _).drewN _
  clear hq qq
  have S14 := S13.upd U14
  have Ra := Ra.upd U14 (fun _ _ _ => not_nob)
  have Rb := Rb.upd U14 (fun _ _ _ => not_nob)
  have Rc := Rc.upd U14 (fun _ _ _ => not_nob)
  have Rx := Rx.upd U14 (fun _ _ _ => not_nob)
  have Ry := Ry.upd U14 (fun _ _ _ => not_nob)
  have z14 := U14.size
  clear S13 U14
  go_wp2_with fail
  refine (same_any w14 _ _ Bc Bx R1.1.length R1.1.length R1.1.length mx R1.1 R1.1 Rc.r.reads Rx.r.reads (by have := LR1; omega)).mono ?_
  rintro e w15 ⟨he, qq, hq⟩
  rw [decide_eq_true rfl] at he
  subst he
  have U15 : Upd Nob w14 w15 := by rw [hq]; exact (Upd.refl _ _).drewN _
  clear hq qq
  have S15 := S14.upd U15
  have Ra := Ra.upd U15 (fun _ _ _ => not_nob)
  have Rb := Rb.upd U15 (fun _ _ _ => not_nob)
  have Rc := Rc.upd U15 (fun _ _ _ => not_nob)
  have Rx := Rx.upd U15 (fun _ _ _ => not_nob)
  have Ry := Ry.upd U15 (fun _ _ _ => not_nob)
  have z15 := U15.size
  clear S14 U15
  have hx1 : (R1.2 != R1.2) = false := bne_self_eq_false _
  have hx2 : (R2.2 != R2.2) = false := bne_self_eq_false _
  have x6 := S15.x6
  have e0 : w15.cell? ⟨b6, 0, none⟩ = some (.slice (some ⟨ga, 0, none⟩) is1.length (is1.length + 2)) := x6.cellv rfl
  have e1 : w15.cell? ⟨b6, 0 + 1, none⟩ = some (.int .i64 s1) := x6.cellv rfl
  have e2 : w15.cell? ⟨b6, 0 + 2, none⟩ = some (.int .i64 k1) := x6.cellv rfl
  clear x6
  go_wp2_with fail
  refine (turnedProg_any w15 _ ga is1 gr cs s1 k1 S15.q hb1 hr1).mono ?_
  rintro e w16 ⟨rfl, ⟨cs2, hM⟩, U16⟩
  have n0 : ¬ OfLent ga gr is1.length w.heap.size := fun h => by have := HG5.out _ h; have := HG4.out _ h; omega
  have n1 : ¬ OfLent ga gr is1.length (w.heap.size + 1) := fun h => by have := HG5.out _ h; omega
  have n6 : ¬ OfLent ga gr is1.length b6 := fun h => by have := HG4.out _ h; omega
  have nw : ∀ b, b < w.heap.size → ¬ OfLent ga gr is1.length b := fun b hb h => by have := HG5.out _ h; omega
  have nr : ∀ b, b6 ≤ b → ¬ OfLent ga gr is1.length b := fun b hb h => by have := HG4.out _ h; omega
  have S16 : PS w w16 w.heap.size (w.heap.size + 1) b6 w3.heap.size ga A1 A2 c1 c2 is1 is2 (is1.map turnI) s1 k1 s2 k2 gr cs2 := ⟨S15.x0.upd U16 n0, S15.x1.upd U16 n1, by rw [List.length_map]; exact S15.x6.upd U16 n6, hM, S15.p.upd U16 nw, S15.o.upd U16 nw, S15.u.trans U16 (fun b hb h => absurd h (nw b hb))⟩
  have Ra := Ra.upd U16 (fun b hb _ => nr b (by omega))
  have Rb := Rb.upd U16 (fun b hb _ => nr b (by omega))
  have Rc := Rc.upd U16 (fun b hb _ => nr b (by omega))
  have Rx := Rx.upd U16 (fun b hb _ => nr b (by omega))
  have Ry := Ry.upd U16 (fun b hb _ => nr b (by omega))
  have z16 := U16.size
  clear S15 U16 n0 n1 n6 nw nr hM
  clear e0 e1 e2
  have x6 : Cells w16 b6 27 #[.slice (some ⟨ga, 0, none⟩) is1.length (is1.length + 2), .int .i64 s1, .int .i64 k1] := by have h6 := S16.x6; rw [List.length_map] at h6; exact h6
  have e0 : w16.cell? ⟨b6, 0, none⟩ = some (.slice (some ⟨ga, 0, none⟩) is1.length (is1.length + 2)) := x6.cellv rfl
  have e1 : w16.cell? ⟨b6, 0 + 1, none⟩ = some (.int .i64 s1) := x6.cellv rfl
  have e2 : w16.cell? ⟨b6, 0 + 2, none⟩ = some (.int .i64 k1) := x6.cellv rfl
  clear x6
  go_wp2_with fail
  have hq16 := S16.q.l.insts (turn_wf HWF.out)
  rw [List.length_map] at hq16
  refine (ref_prefix w16 _ (some ⟨ga, 0, none⟩) is1.length (is1.length + 2) (is1.map turnI) s1 k1 hq16 i1 j1 (by omega)).mono ?_
  rintro e w17 ⟨Bt, mt, he, rrt, U17⟩
  rw [E3] at he rrt
  subst he
  have S17 := S16.upd U17
  have Ra := Ra.upd U17 (fun _ _ _ => not_nob)
  have Rb := Rb.upd U17 (fun _ _ _ => not_nob)
  have Rc := Rc.upd U17 (fun _ _ _ => not_nob)
  have Rx := Rx.upd U17 (fun _ _ _ => not_nob)
  have Ry := Ry.upd U17 (fun _ _ _ => not_nob)
  have z17 := U17.size
  clear S16 U17
  have Rt := RowIn.of rrt
  clear rrt
  clear e0 e1 e2
  have x6 : Cells w17 b6 27 #[.slice (some ⟨ga, 0, none⟩) is1.length (is1.length + 2), .int .i64 s1, .int .i64 k1] := by have h6 := S17.x6; rw [List.length_map] at h6; exact h6
  have e0 : w17.cell? ⟨b6, 0, none⟩ = some (.slice (some ⟨ga, 0, none⟩) is1.length (is1.length + 2)) := x6.cellv rfl
  have e1 : w17.cell? ⟨b6, 0 + 1, none⟩ = some (.int .i64 s1) := x6.cellv rfl
  have e2 : w17.cell? ⟨b6, 0 + 2, none⟩ = some (.int .i64 k1) := x6.cellv rfl
  clear x6
  go_wp2_with fail
  have hq17 := S17.q.l.insts (turn_wf HWF.out)
  rw [List.length_map] at hq17
  refine (prefix_any w17 _ (some ⟨ga, 0, none⟩) is1.length (is1.length + 2) (is1.map turnI) s1 k1 hq17 i1 j1 (by omega)).mono ?_
  rintro e w18 ⟨Bd, he, rrd, U18⟩
  rw [E3] at he rrd
  subst he
  have S18 := S17.upd U18
  have Ra := Ra.upd U18 (fun _ _ _ => not_nob)
  have Rb := Rb.upd U18 (fun _ _ _ => not_nob)
  have Rc := Rc.upd U18 (fun _ _ _ => not_nob)
  have Rx := Rx.upd U18 (fun _ _ _ => not_nob)
  have Ry := Ry.upd U18 (fun _ _ _ => not_nob)
  have Rt := Rt.upd U18 (fun _ _ _ => not_nob)
  have z18 := U18.size
  clear S17 U18
  have Rd := RowIn.of rrd
  clear rrd
  go_wp2_with fail
  refine (same_any w18 _ _ Bd Bt R3.1.length R3.1.length R3.1.length mt R3.1 R3.1 Rd.r.reads Rt.r.reads (by have := LR3; omega)).mono ?_
  rintro e w19 ⟨he, qq, hq⟩
  rw [decide_eq_true rfl] at he
  subst he
  have U19 : Upd Nob w18 w19 := by rw [hq]; exact (Upd.refl _ _).drewN _
  clear hq qq
  have S19 := S18.upd U19
  have Ra := Ra.upd U19 (fun _ _ _ => not_nob)
  have Rb := Rb.upd U19 (fun _ _ _ => not_nob)
  have Rc := Rc.upd U19 (fun _ _ _ => not_nob)
  have Rx := Rx.upd U19 (fun _ _ _ => not_nob)
  have Ry := Ry.upd U19 (fun _ _ _ => not_nob)
  have Rt := Rt.upd U19 (fun _ _ _ => not_nob)
  have Rd := Rd.upd U19 (fun _ _ _ => not_nob)
  have z19 := U19.size
  clear S18 U19
  clear e0 e1 e2
  go_wp2_with fail
  have hRows := rows4 Ra Rb Rc Rd (by omega) (by omega) (by omega) (by omega) (by omega) (by omega) (by omega) (by omega) (by omega)
  refine (owned_any _ _ 4 _ hRows).mono ?_
  rintro e wz ⟨rfl, hUz⟩
  have hxt : (R3.2 == R3.2) = true := beq_self_eq_true _
  have HUZ := hide ((S19.u.alloc (.cells #[.slice Ba R1.1.length R1.1.length, .slice Bb R2.1.length R2.1.length, .slice Bc R1.1.length R1.1.length, .slice Bd R3.1.length R3.1.length] 29)).trans hUz (fun b hb h => absurd hb (by
    obtain ⟨r, hr, hrb⟩ := h
    simp only [List.mem_cons, List.not_mem_nil, or_false] at hr
    rcases hr with rfl | rfl | rfl | rfl
    · have := Ra.block hrb; omega
    · have := Rb.block hrb; omega
    · have := Rc.block hrb; omega
    · have := Rd.block hrb; omega)))
  clear hUz hRows
  go_wp2_with fail
  go_ret
  exact ⟨congrArg Ending.returned (congrArg Value.bool (by first | rfl | simp)), HUZ.out⟩
end Go.Proofs.Ytebbnjbgmcdbcaa
