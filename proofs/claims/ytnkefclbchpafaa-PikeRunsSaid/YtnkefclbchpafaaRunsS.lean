/-
  The walk of heronlaw11.Same: two finds; what stands while PikeRuns asks.
-/
import Derived.Test.YtnkefclbchpafaaSame
import Derived.Test.YtnkefclbchpafaaTurnP
import Derived.Test.YtnkefclbchpafaaOwned
namespace Go.Proofs.Ytnkefclbchpafaa
open Go.RowKit
set_option linter.unusedVariables false

theorem FoundR.reads_ {w : World} {m : Nat} {fo : Option (List Int × Int)} {A : Option Addr} {fn : Nat} {wh : Int} (h : FoundR w m fo A fn wh) : Reads w (IntB w) 1 A fn (intv (capsOf fo)) ∧ wh = whOf fo ∧ fn = (capsOf fo).length := by
  rcases h with ⟨rfl, rfl, rfl⟩ | ⟨caps, rfl, rfl, h1, h2⟩
  · exact ⟨⟨rfl, fun h => absurd h (by omega)⟩, rfl, rfl⟩
  · exact ⟨h2, rfl, h1.symm⟩

set_option maxHeartbeats 2000000 in
theorem sameFound_any (w : World) (S1 S2 : Nat → Prop) (A B : Option Addr) (n m c d : Nat) (xs : List Int) (o : Bool) (wh st : Int) (hx : Reads w S1 1 A n (intv xs)) (hy : Reads w S2 1 B m (intv xs)) (hn : n ≤ 140737488355328) :
    Calls Try.prog 16 #[.agg #[.bool o, .slice A n c, .int .i64 wh, .int .i64 st], .agg #[.bool o, .slice B m d, .int .i64 wh, .int .i64 st]] w fun e w' => e = .returned (.bool true) ∧ Upd Nob w w' := by
  have C0 : Cells ((w.alloc (.cells #[.bool o, .slice A n c, .int .i64 wh, .int .i64 st] 33)).alloc (.cells #[.bool o, .slice B m d, .int .i64 wh, .int .i64 st] 33)) w.heap.size 33 #[.bool o, .slice A n c, .int .i64 wh, .int .i64 st] := (Cells.new _ _ _).alloc _
  have C1 := Cells.new (w.alloc (.cells #[.bool o, .slice A n c, .int .i64 wh, .int .i64 st] 33)) 33 #[.bool o, .slice B m d, .int .i64 wh, .int .i64 st]
  rw [World.size_alloc] at C1
  have hU := ((Upd.refl Nob w).alloc (.cells #[.bool o, .slice A n c, .int .i64 wh, .int .i64 st] 33)).alloc (.cells #[.bool o, .slice B m d, .int .i64 wh, .int .i64 st] 33)
  have HX := hideP (hx.upd hU (fun _ _ => not_nob))
  have HY := hideP (hy.upd hU (fun _ _ => not_nob))
  clear hx hy
  go_enter Try.func16, Try.ntmps16
  go_upto_region 1 with fail
  generalize ((w.alloc (.cells #[.bool o, .slice A n c, .int .i64 wh, .int .i64 st] 33)).alloc (.cells #[.bool o, .slice B m d, .int .i64 wh, .int .i64 st] 33)) = w2 at *
  have HU := hideP hU
  clear hU
  have a0 : w2.cell? ⟨w.heap.size, 0, none⟩ = some (.bool o) := C0.cellv rfl
  have a1 : w2.cell? ⟨w.heap.size, 0 + 1, none⟩ = some (.slice A n c) := C0.cellv rfl
  have a2 : w2.cell? ⟨w.heap.size, 0 + 2, none⟩ = some (.int .i64 wh) := C0.cellv rfl
  have a3 : w2.cell? ⟨w.heap.size, 0 + 3, none⟩ = some (.int .i64 st) := C0.cellv rfl
  have b0 : w2.cell? ⟨w.heap.size + 1, 0, none⟩ = some (.bool o) := C1.cellv rfl
  have b1 : w2.cell? ⟨w.heap.size + 1, 0 + 1, none⟩ = some (.slice B m d) := C1.cellv rfl
  have b2 : w2.cell? ⟨w.heap.size + 1, 0 + 2, none⟩ = some (.int .i64 wh) := C1.cellv rfl
  have b3 : w2.cell? ⟨w.heap.size + 1, 0 + 3, none⟩ = some (.int .i64 st) := C1.cellv rfl
  clear C0 C1
  go_wp2_with fail
  refine (same_any w2 S1 S2 A B n m c d xs xs HX.out HY.out hn).mono ?_
  rintro e w3 ⟨he, q, rfl⟩
  rw [decide_eq_true rfl] at he
  subst he
  have c0 : (w2.drewN q).cell? ⟨w.heap.size, 0, none⟩ = some (.bool o) := a0
  have c2 : (w2.drewN q).cell? ⟨w.heap.size, 0 + 2, none⟩ = some (.int .i64 wh) := a2
  have c3 : (w2.drewN q).cell? ⟨w.heap.size, 0 + 3, none⟩ = some (.int .i64 st) := a3
  have d0 : (w2.drewN q).cell? ⟨w.heap.size + 1, 0, none⟩ = some (.bool o) := b0
  have d2 : (w2.drewN q).cell? ⟨w.heap.size + 1, 0 + 2, none⟩ = some (.int .i64 wh) := b2
  have d3 : (w2.drewN q).cell? ⟨w.heap.size + 1, 0 + 3, none⟩ = some (.int .i64 st) := b3
  clear a0 a1 a2 a3 b0 b1 b2 b3
  have ho : (o == o) = true := by simp
  have hw : (wh == wh) = true := by simp
  have hs : (st == st) = true := by simp
  go_wp2_with fail
  go_ret
  exact ⟨by first | rfl | simp, HU.out.drewN q⟩

/-- the marked row of a text -/
theorem in_text {w : World} {lo rg n : Nat} {xs : List Int} (h : w.ownsRow lo 3 1 (.slice (some ⟨rg, 0, none⟩) (n + 2) (n + 2)) (n + 2) (intv (xs ++ [71, 72]))) (hl : xs.length = n) (hi : ∀ x ∈ xs, In64 x) (hn : n ≤ 17592186044416) :
    TextR w (fun k => k = rg) (some ⟨rg, 0, none⟩) n xs := by
  refine ⟨⟨by simp [intv, hl], fun _ => ⟨_, rfl, (h.lt rg rfl).2, rfl, fun j u hj => ?_⟩⟩, hi, hn⟩
  have hjl : j < n := by have := (List.getElem?_eq_some_iff.1 hj).1; simpa [intv, hl] using this
  rw [add_lit_, Nat.zero_add, h.cellAt j (by omega), intv_append, List.getElem?_append_left (by simp [intv, hl]; omega)]
  exact hj
theorem in_marks {w : World} {lo rg n : Nat} {xs : List Int} (h : w.ownsRow lo 3 1 (.slice (some ⟨rg, 0, none⟩) (n + 2) (n + 2)) (n + 2) (intv (xs ++ [71, 72]))) (hl : xs.length = n) :
    w.cell? ⟨rg, n, none⟩ = some (.int .i64 71) ∧ w.cell? ⟨rg, n + 1, none⟩ = some (.int .i64 72) := by
  refine ⟨?_, ?_⟩
  · rw [h.cellAt n (by omega), intv_append, List.getElem?_append_right (by simp [intv]; omega)]
    simp [intv, hl]
  · rw [h.cellAt (n + 1) (by omega), intv_append, List.getElem?_append_right (by simp [intv]; omega)]
    simp [intv, hl]
/-- what stands while the law asks: the boxes, the programs, the text, its marked row -/
structure PR (w wr : World) (pb ob xb qb rlo base ga rg : Nat) (A1 A2 T : Option Addr) (c1 c2 tc : Nat) (is1 is2 js : List PInst) (s1 k1 s2 k2 : Int) (text txt : List Int) (a : Int) (an : Bool) (gr : Nat → Nat) (cs : Array Value) : Prop where
  x0 : Cells wr pb 27 #[.slice A1 is1.length c1, .int .i64 s1, .int .i64 k1]
  x1 : Cells wr ob 27 #[.slice A2 is2.length c2, .int .i64 s2, .int .i64 k2]
  x2 : Cells wr xb 30 #[.slice T text.length tc, .int .i64 a, .bool an]
  x3 : Cells wr qb 27 #[.slice (some ⟨ga, 0, none⟩) is1.length (is1.length + 2), .int .i64 s1, .int .i64 k1]
  q : LentM wr base ga js gr cs
  row : wr.ownsRow rlo 3 1 (.slice (some ⟨rg, 0, none⟩) (text.length + 2) (text.length + 2)) (text.length + 2) (intv (txt ++ [71, 72]))
  p : InstsR wr (· < w.heap.size) A1 is1.length is1
  o : InstsR wr (· < w.heap.size) A2 is2.length is2
  t : TextR wr (· < w.heap.size) T text.length text
  u : Upd Nob w wr
section
variable {w wr wr' : World} {pb ob xb qb rlo base ga rg : Nat} {A1 A2 T : Option Addr} {c1 c2 tc : Nat} {is1 is2 js : List PInst} {s1 k1 s2 k2 : Int} {text txt : List Int} {a : Int} {an : Bool} {gr : Nat → Nat} {cs : Array Value}
theorem PR.upd (h : PR w wr pb ob xb qb rlo base ga rg A1 A2 T c1 c2 tc is1 is2 js s1 k1 s2 k2 text txt a an gr cs) (hU : Upd Nob wr wr') : PR w wr' pb ob xb qb rlo base ga rg A1 A2 T c1 c2 tc is1 is2 js s1 k1 s2 k2 text txt a an gr cs :=
  ⟨h.x0.upd hU not_nob, h.x1.upd hU not_nob, h.x2.upd hU not_nob, h.x3.upd hU not_nob, h.q.old hU (fun _ _ => not_nob), own_upd h.row hU (fun _ _ => not_nob), h.p.upd hU (fun _ _ => not_nob), h.o.upd hU (fun _ _ => not_nob), h.t.upd hU (fun _ _ => not_nob), h.u.trans hU (fun _ _ h => h)⟩
end
/-- a find that pike.Run gave: its box, its numbers in memory of their own -/
structure PF (wr : World) (fb lo : Nat) (A : Option Addr) (c : Nat) (fo : Option (List Int × Int)) (st : Nat) : Prop where
  box : Cells wr fb 33 #[.bool fo.isSome, .slice A (capsOf fo).length c, .int .i64 (whOf fo), .int .i64 (st : Int)]
  own : wr.ownsRow lo 3 1 (.slice A (capsOf fo).length c) (capsOf fo).length (intv (capsOf fo))
  lt : ∀ b, (Value.slice A (capsOf fo).length c).ownBlock = some b → b < fb
  few : (capsOf fo).length ≤ 1002
theorem PF.new {w : World} {lo : Nat} {A : Option Addr} {c : Nat} {fo : Option (List Int × Int)} {st : Nat} (h : w.ownsRow lo 3 1 (.slice A (capsOf fo).length c) (capsOf fo).length (intv (capsOf fo))) (hf : (capsOf fo).length ≤ 1002) :
    PF (w.alloc (.cells #[.bool fo.isSome, .slice A (capsOf fo).length c, .int .i64 (whOf fo), .int .i64 (st : Int)] 33)) w.heap.size lo A c fo st :=
  ⟨Cells.new _ _ _, own_upd h ((Upd.refl Nob w).alloc _) (fun _ _ => not_nob), fun b hb => (h.lt b hb).2, hf⟩
theorem PF.upd {F : Nat → Prop} {w w' : World} {fb lo : Nat} {A : Option Addr} {c : Nat} {fo : Option (List Int × Int)} {st : Nat} (h : PF w fb lo A c fo st) (hU : Upd F w w') (hF : ∀ b, F b → b < lo) (hl : lo ≤ fb) : PF w' fb lo A c fo st :=
  ⟨h.box.upd hU (fun hb => by have := hF _ hb; omega), own_upd h.own hU (fun b hb hf => by have := hF _ hf; have := (h.own.lt b hb).1; omega), h.lt, h.few⟩
/-- a find that the document's Run gave -/
structure RF (wr : World) (fb : Nat) (A : Option Addr) (n c : Nat) (fo : Option (List Int × Int)) (st : Nat) : Prop where
  box : Cells wr fb 33 #[.bool fo.isSome, .slice A n c, .int .i64 (whOf fo), .int .i64 (st : Int)]
  rd : Reads wr (IntB wr) 1 A n (intv (capsOf fo))
theorem RF.new {w : World} {m : Nat} {A : Option Addr} {n c : Nat} {wh : Int} {fo : Option (List Int × Int)} {st : Nat} (h : FoundR w m fo A n wh) :
    RF (w.alloc (.cells #[.bool fo.isSome, .slice A n c, .int .i64 wh, .int .i64 (st : Int)] 33)) w.heap.size A n c fo st := by
  obtain ⟨h1, h2, h3⟩ := h.reads_
  subst h2
  have hU := (Upd.refl Nob w).alloc (.cells #[.bool fo.isSome, .slice A n c, .int .i64 (whOf fo), .int .i64 (st : Int)] 33)
  exact ⟨Cells.new _ _ _, (h1.upd hU (fun _ _ => not_nob)).weaken (fun k ⟨cs, fr, hk⟩ => ⟨cs, fr, (hU.block k (Array.getElem?_eq_some_iff.1 hk).1 not_nob).trans hk⟩)⟩
theorem RF.upd {w w' : World} {fb : Nat} {A : Option Addr} {n c : Nat} {fo : Option (List Int × Int)} {st : Nat} (h : RF w fb A n c fo st) (hU : Upd Nob w w') : RF w' fb A n c fo st :=
  ⟨h.box.upd hU not_nob, (h.rd.upd hU (fun _ _ => not_nob)).weaken (fun k ⟨cs, fr, hk⟩ => ⟨cs, fr, (hU.block k (Array.getElem?_eq_some_iff.1 hk).1 not_nob).trans hk⟩)⟩
theorem PF.reads {w : World} {fb lo : Nat} {A : Option Addr} {c : Nat} {fo : Option (List Int × Int)} {st : Nat} (h : PF w fb lo A c fo st) : Reads w (fun _ => True) 1 A (capsOf fo).length (intv (capsOf fo)) := (Reads.of_own h.own).weaken (fun _ _ => trivial)

/-- four rows that came out, one behind the other -/
theorem PF.row {w : World} {fb lo : Nat} {A : Option Addr} {c : Nat} {fo : Option (List Int × Int)} {st : Nat} (h : PF w fb lo A c fo st) : Holds3 w (A, (capsOf fo).length, c) (capsOf fo) ∧ ∀ b, (rowV (A, (capsOf fo).length, c)).ownBlock = some b → lo ≤ b ∧ b < fb :=
  ⟨own_base h.own (fun _ _ => Nat.zero_le _), fun b hb => ⟨(h.own.lt b hb).1, h.lt b hb⟩⟩
theorem rows4 {w : World} {ra rb rc rd : Row3} {xa xb xc xd : List Int} {l1 h1 l2 h2 l3 h3 l4 h4 : Nat} (a : Holds3 w ra xa ∧ ∀ b, (rowV ra).ownBlock = some b → l1 ≤ b ∧ b < h1) (b : Holds3 w rb xb ∧ ∀ b, (rowV rb).ownBlock = some b → l2 ≤ b ∧ b < h2)
    (c : Holds3 w rc xc ∧ ∀ b, (rowV rc).ownBlock = some b → l3 ≤ b ∧ b < h3) (d : Holds3 w rd xd ∧ ∀ b, (rowV rd).ownBlock = some b → l4 ≤ b ∧ b < h4)
    (h12 : h1 ≤ l2) (h23 : h2 ≤ l3) (h34 : h3 ≤ l4) (q2 : l2 ≤ h2) (q3 : l3 ≤ h3) (la : ra.2.1 ≤ 1000000) (lb : rb.2.1 ≤ 1000000) (lc : rc.2.1 ≤ 1000000) (ld : rd.2.1 ≤ 1000000) :
    RowsR (w.alloc (.cells #[rowV ra, rowV rb, rowV rc, rowV rd] 28)) w.heap.size [ra, rb, rc, rd] := by
  have hU := (Upd.refl Nob w).alloc (.cells #[rowV ra, rowV rb, rowV rc, rowV rd] 28)
  refine ⟨Cells.new _ _ _, fun r hr => ?_, fun i j r s x hi hj hr hs => ?_, by simp, fun r hr => ?_⟩
  · simp only [List.mem_cons, List.not_mem_nil, or_false] at hr
    rcases hr with rfl | rfl | rfl | rfl
    · exact ⟨_, a.1.upd hU (fun _ _ => not_nob)⟩
    · exact ⟨_, b.1.upd hU (fun _ _ => not_nob)⟩
    · exact ⟨_, c.1.upd hU (fun _ _ => not_nob)⟩
    · exact ⟨_, d.1.upd hU (fun _ _ => not_nob)⟩
  · have key : ∀ (i : Nat) (r : Row3), ([ra, rb, rc, rd] : List Row3)[i]? = some r → (rowV r).ownBlock = some x →
        (i = 0 ∧ l1 ≤ x ∧ x < h1) ∨ (i = 1 ∧ l2 ≤ x ∧ x < h2) ∨ (i = 2 ∧ l3 ≤ x ∧ x < h3) ∨ (i = 3 ∧ l4 ≤ x ∧ x < h4) := by
      intro i r hi hr
      have hl : i < 4 := (List.getElem?_eq_some_iff.1 hi).1
      match i, hl with
      | 0, _ => injection hi with hi; subst hi; exact .inl ⟨rfl, a.2 x hr⟩
      | 1, _ => injection hi with hi; subst hi; exact .inr (.inl ⟨rfl, b.2 x hr⟩)
      | 2, _ => injection hi with hi; subst hi; exact .inr (.inr (.inl ⟨rfl, c.2 x hr⟩))
      | 3, _ => injection hi with hi; subst hi; exact .inr (.inr (.inr ⟨rfl, d.2 x hr⟩))
    have k1 := key i r hi hr
    have k2 := key j s hj hs
    omega
  · simp only [List.mem_cons, List.not_mem_nil, or_false] at hr
    rcases hr with rfl | rfl | rfl | rfl
    · exact la
    · exact lb
    · exact lc
    · exact ld

theorem InstsR.wf {w : World} {S : Nat → Prop} {A : Option Addr} {n : Nat} {is : List PInst} (h : InstsR w S A n is) : ∀ x ∈ is, In64I x ∧ In64s x.rs ∧ x.rs.length ≤ 140737488355328 := by
  intro x hx
  obtain ⟨i, hi⟩ := List.mem_iff_getElem?.1 hx
  obtain ⟨ad, g, o, B, m, c, _, _, _, _, hr, hI, _⟩ := h.at_ i x hi
  exact ⟨hI, hr.i, by rw [hr.len]; exact hr.n⟩
theorem turn_wf {is : List PInst} (h : ∀ x ∈ is, In64I x ∧ In64s x.rs ∧ x.rs.length ≤ 140737488355328) : ∀ x ∈ is.map turnI, In64I x ∧ In64s x.rs ∧ x.rs.length ≤ 140737488355328 := by
  intro y hy
  obtain ⟨x, hx, rfl⟩ := List.mem_map.1 hy
  obtain ⟨h1, h2, h3⟩ := h x hx
  have hl : (turnI x).rs.length = x.rs.length := turnI_len x
  refine ⟨⟨h1.iop, ?_, ?_, h1.iarg⟩, fun r hr => ?_, by rw [hl]; exact h3⟩
  · show In64 (if x.op = 2 then x.y else x.x)
    split
    · exact h1.iy
    · exact h1.ix
  · show In64 (if x.op = 2 then x.x else x.y)
    split
    · exact h1.ix
    · exact h1.iy
  · have hr' : r ∈ turnR x.rs.length x.rs := hr
    simp only [turnR, List.drop_length, List.append_nil, List.mem_map, List.mem_range] at hr'
    obtain ⟨k, hk, rfl⟩ := hr'
    unfold In64
    simp only
    omega

section
variable {w wr wr' : World} {pb ob xb qb rlo base ga rg : Nat} {A1 A2 T : Option Addr} {c1 c2 tc : Nat} {is1 is2 js : List PInst} {s1 k1 s2 k2 : Int} {text txt : List Int} {a : Int} {an : Bool} {gr : Nat → Nat} {cs : Array Value}
theorem PR.turn {js' : List PInst} {cs' : Array Value} (h : PR w wr pb ob xb qb rlo base ga rg A1 A2 T c1 c2 tc is1 is2 js s1 k1 s2 k2 text txt a an gr cs) (hU : Upd (OfLent ga gr is1.length) wr wr') (hM : LentM wr' base ga js' gr cs')
    (hlow : ∀ b, OfLent ga gr is1.length b → rg < b ∧ b < qb) (h0 : pb < rg) (h1 : ob < rg) (h2 : xb < rg) (hw : w.heap.size ≤ rg) : PR w wr' pb ob xb qb rlo base ga rg A1 A2 T c1 c2 tc is1 is2 js' s1 k1 s2 k2 text txt a an gr cs' := by
  have hn : ∀ b, b ≤ rg → ¬ OfLent ga gr is1.length b := fun b hb h => by have := hlow b h; omega
  exact ⟨h.x0.upd hU (hn _ (by omega)), h.x1.upd hU (hn _ (by omega)), h.x2.upd hU (hn _ (by omega)), h.x3.upd hU (fun hq => by have := hlow _ hq; omega), hM, own_upd h.row hU (fun b hb => by injection hb with hb; subst hb; exact hn _ (Nat.le_refl _)),
    h.p.upd hU (fun b hb => hn b (by omega)), h.o.upd hU (fun b hb => hn b (by omega)), h.t.upd hU (fun b hb => hn b (by omega)), h.u.trans hU (fun b hb hf => absurd hf (hn b (by omega)))⟩
theorem PR.put {i : Nat} {x : Int} (h : PR w wr pb ob xb qb rlo base ga rg A1 A2 T c1 c2 tc is1 is2 js s1 k1 s2 k2 text txt a an gr cs) (hi : i < txt.length)
    (hj : js.length = is1.length) (hlow : ∀ b, OfLent ga gr is1.length b → rg < b ∧ b < qb) (h0 : pb < rg) (h1 : ob < rg) (h2 : xb < rg) (hw : w.heap.size ≤ rg) (hq : rg < qb) :
    PR w (wr.setCell ⟨rg, i, none⟩ (.int .i64 x)) pb ob xb qb rlo base ga rg A1 A2 T c1 c2 tc is1 is2 js s1 k1 s2 k2 text (txt.set i x) a an gr cs := by
  have hU := (Upd.refl (fun b => b = rg) wr).setCell ⟨rg, i, none⟩ (.int .i64 x) (fun _ => rfl)
  have hrow := (h.row.stored i (.int .i64 x)).1
  have he : (intv (txt ++ [71, 72])).set i (.int .i64 x) = intv (txt.set i x ++ [71, 72]) := by
    rw [intv_append, intv_append, List.set_append_left _ _ (by simp [intv]; omega)]
    congr 1
    simp [intv, List.map_set]
  rw [he] at hrow
  refine ⟨h.x0.upd hU (by omega), h.x1.upd hU (by omega), h.x2.upd hU (by omega), h.x3.upd hU (by omega), h.q.upd hU ?_ ?_, hrow,
    h.p.upd hU (fun b hb => by omega), h.o.upd hU (fun b hb => by omega), h.t.upd hU (fun b hb => by omega), h.u.trans hU (fun b hb hf => by omega)⟩
  · have := hlow ga (.inl rfl)
    omega
  · intro k hk
    have := hlow (gr k) (.inr ⟨k, by omega, rfl⟩)
    omega
theorem PR.qt (h : PR w wr pb ob xb qb rlo base ga rg A1 A2 T c1 c2 tc is1 is2 (is1.map turnI) s1 k1 s2 k2 text txt a an gr cs) (hw : ∀ x ∈ is1, In64I x ∧ In64s x.rs ∧ x.rs.length ≤ 140737488355328) : InstsR wr (· < wr.heap.size) (some ⟨ga, 0, none⟩) is1.length (is1.map turnI) := by
  have h1 := h.q.l.insts (turn_wf hw)
  rw [List.length_map] at h1
  exact h1.lower
end
theorem fill_step {text : List Int} {i : Nat} (hi : i < text.length) : (List.replicate i 97 ++ text.drop i).set i 97 = List.replicate (i + 1) 97 ++ text.drop (i + 1) := by
  rw [List.set_append_right _ _ (by simp), List.length_replicate, Nat.sub_self, List.drop_eq_getElem_cons hi, List.set_cons_zero, List.replicate_succ', List.append_assoc]
  rfl
end Go.Proofs.Ytnkefclbchpafaa
