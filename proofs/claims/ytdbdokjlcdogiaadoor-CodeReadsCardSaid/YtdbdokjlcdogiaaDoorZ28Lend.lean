/-
  ReadsP, OwnP, Lend, put together.
-/
import Derived.Test.YtdbdokjlcdogiaaDoorZ27RefRS
import Derived.Test.YtdbdokjlcdogiaaDoorZ10TNum
import Derived.Test.YtdbdokjlcdogiaaDoorZ05Held
import Derived.Handy
import Derived.Deep.DeepAppendRoom
import Derived.Deep.RegionHeld3
import Derived.Deep.AppendLies

/-
  What code.Read and heronref10.Read answer, as one program (the empty one where there is none).
-/
namespace Go.Proofs.YtdbdokjlcdogiaaDoor
open Go.RowKit
set_option linter.unusedVariables false

def rdI (s : ByteArray) : List PInst := match readX s with | none => [] | some p => p.1
def rdS (s : ByteArray) : Int := match readX s with | none => 0 | some p => p.2.1
def rdC (s : ByteArray) : Int := match readX s with | none => 0 | some p => p.2.2
def codeT (s : ByteArray) : Int := match readX s with | none => readC s | some _ => 0
def RdAns (w : World) (s : ByteArray) (e : Ending) (w' : World) : Prop :=
  ∃ A c gs, e = .returned (.tuple #[.agg #[.slice A (rdI s).length c, .int .i64 (rdS s), .int .i64 (rdC s)], .int .i64 (codeT s)]) ∧ ProgW w' w.heap.size A c (rdI s) gs ∧ Upd Nob w w'
theorem rd_of {w w' : World} {s : ByteArray} {e : Ending} (h : LoadAns w (readX s) (readC s) e w') : RdAns w s e w' := by
  unfold RdAns rdI rdS rdC codeT
  cases hx : readX s with
  | none =>
    rw [hx] at h
    exact ⟨none, 0, [], h.1, ProgW.none_ _ _, h.2⟩
  | some p =>
    rw [hx] at h
    obtain ⟨is, start, caps⟩ := p
    obtain ⟨A, c, gs, h1, h2, h3⟩ := h
    exact ⟨A, c, gs, h1, h2, h3⟩
theorem read_prg (w : World) (s : ByteArray) (hwt : WordTab w) : Calls Tryd.prog 20 #[.string s] w (RdAns w s) := (read_any w s hwt).mono (fun _ _ h => rd_of h)
theorem refRead_prg (w : World) (s : ByteArray) : Calls Tryd.prog 19 #[.string s] w (RdAns w s) := (refRead_any w s).mono (fun _ _ h => rd_of h)
theorem instsT_num : ∀ (n : Nat) (ws : List ByteArray) (is : List PInst), ws.length ≤ 8388608 → instsT n ws = some is → ∀ x ∈ is, NumI x
  | n, [], is, hl, h => by
    have e : is = [] := by cases n <;> (unfold instsT at h; injection h with h; exact h.symm)
    rw [e]
    exact fun x hx => by simp at hx
  | 0, v :: r, is, hl, h => by cases h
  | n + 1, v :: r, is, hl, h => by
    rw [instsT_step] at h
    cases h1 : fieldsT (nameOf v : Nat) r with
    | none => rw [h1] at h; cases h
    | some a =>
      obtain ⟨x, q⟩ := a
      rw [h1] at h
      simp only at h
      have hq := fieldsT_len (o := 0) h1
      simp only [List.length_cons] at hl
      cases h2 : instsT n q with
      | none => rw [h2] at h; cases h
      | some is' =>
        rw [h2] at h
        simp only at h
        injection h with h
        subst h
        intro y hy
        rcases List.mem_cons.1 hy with rfl | hy
        · exact fieldsT_in (by omega) h1
        · exact instsT_num n q is' (by omega) h2 y hy
/-- the numbers of what Read tells -/
theorem rd_num (s : ByteArray) : (∀ x ∈ rdI s, NumI x) ∧ (rdI s).length ≤ 20000 ∧ ∀ x ∈ rdI s, x.rs.length ≤ 9000000 := by
  unfold rdI
  cases hx : readX s with
  | none => exact ⟨fun x hx => by simp at hx, by simp, fun x hx => by simp at hx⟩
  | some p =>
    obtain ⟨is, start, caps⟩ := p
    simp only
    unfold readX at hx
    split at hx
    · cases hx
    · rename_i hl
      have hwl := wordsAt_len s _ 0 (Nat.le_refl _) (Nat.zero_le _)
      generalize wordsAt s 0 = ws at *
      match ws, hx with
      | [], hx => cases hx
      | [a], hx => cases hx
      | [a, b], hx => cases hx
      | [a, b, c], hx => cases hx
      | a :: b :: c :: d :: r, hx =>
        rw [readT_cons] at hx
        simp only [List.length_cons] at hwl
        split at hx
        · cases hb : numV b with
          | none => rw [hb] at hx; cases hx
          | some cp =>
            rw [hb] at hx
            simp only at hx
            cases hd : numV d with
            | none => rw [hd] at hx; cases hx
            | some st =>
              rw [hd] at hx
              simp only at hx
              cases hi : instsT 20000 r with
              | none => rw [hi] at hx; cases hx
              | some is2 =>
                rw [hi] at hx
                simp only at hx
                split at hx
                · rename_i hq
                  injection hx with hx
                  injection hx with e1 e2
                  subst e1
                  have hp := fineP hq
                  exact ⟨instsT_num _ _ _ (by omega) hi, hp.l1, fun x hx => by have := (hp.i x hx).rs; omega⟩
                · cases hx
        · cases hx
end Go.Proofs.YtdbdokjlcdogiaaDoor

/-
  The programs that heronlaw10.Owned is handed: their rows, apart. Plain lemmas.
-/
namespace Go.Proofs.YtdbdokjlcdogiaaDoor
open Go.RowKit
set_option linter.unusedVariables false

structure Prg where
  A : Option Addr
  c : Nat
  is : List PInst
  gs : List (Option Addr × Nat)
  st : Int
  cp : Int
def rowsOf (p : Prg) : List Row3 := List.zipWith (fun (x : PInst) (g : Option Addr × Nat) => (g.1, x.rs.length, g.2)) p.is p.gs
def rowI (p : Prg) : Row3 := (p.A, p.is.length, p.c)
def allR (ps : List Prg) : List Row3 := ps.flatMap rowsOf
def allI (ps : List Prg) : List Row3 := ps.map rowI
def flatP (ps : List Prg) : List Value := ps.flatMap fun p => [.slice p.A p.is.length p.c, .int .i64 p.st, .int .i64 p.cp]
theorem flatP_at : ∀ (ps : List Prg) (i : Nat) (p : Prg), ps[i]? = some p → (flatP ps)[i * 3]? = some (.slice p.A p.is.length p.c)
  | [], i, p, h => by simp at h
  | q :: ps, 0, p, h => by
    simp only [List.getElem?_cons_zero, Option.some.injEq] at h
    subst h
    rfl
  | q :: ps, i + 1, p, h => by
    simp only [List.getElem?_cons_succ] at h
    have := flatP_at ps i p h
    rw [show (i + 1) * 3 = i * 3 + 3 by omega]
    exact this
theorem rowsOf_at {p : Prg} (hl : p.gs.length = p.is.length) {k : Nat} {x : PInst} (hx : p.is[k]? = some x) : ∃ B cc, p.gs[k]? = some (B, cc) ∧ (rowsOf p)[k]? = some (B, x.rs.length, cc) := by
  have hk := (List.getElem?_eq_some_iff.1 hx).1
  refine ⟨_, _, List.getElem?_eq_getElem (by omega), ?_⟩
  simp [rowsOf, List.getElem?_zipWith, hx, List.getElem?_eq_getElem (show k < p.gs.length by omega)]
theorem rowsOf_len {p : Prg} (hl : p.gs.length = p.is.length) : (rowsOf p).length = p.is.length := by simp [rowsOf]; omega
theorem rowsOf_mem {p : Prg} {k : Nat} {r : Row3} (h : (rowsOf p)[k]? = some r) : ∃ x B cc, p.is[k]? = some x ∧ p.gs[k]? = some (B, cc) ∧ r = (B, x.rs.length, cc) := by
  unfold rowsOf at h
  rw [List.getElem?_zipWith] at h
  cases h1 : p.is[k]? with
  | none => rw [h1] at h; simp at h
  | some x =>
    cases h2 : p.gs[k]? with
    | none => rw [h1, h2] at h; simp at h
    | some g =>
      rw [h1, h2] at h
      simp at h
      exact ⟨x, g.1, g.2, rfl, rfl, h.symm⟩
/-- two rows' blocks are not the same -/
def Far (r s : Row3) : Prop := ∀ b, (rowV r).ownBlock = some b → (rowV s).ownBlock = some b → False
structure Apart (p q : Prg) : Prop where
  i : Far (rowI p) (rowI q)
  r : ∀ x ∈ rowsOf p, ∀ y ∈ rowsOf q, Far x y
theorem far_apart {rows : List Row3} (h : rows.Pairwise Far) : ∀ (i j : Nat) r s b, rows[i]? = some r → rows[j]? = some s → (rowV r).ownBlock = some b → (rowV s).ownBlock = some b → i = j := fun i j r s b hi hj hr hs => by
  have h2 := List.pairwise_iff_getElem.1 h
  obtain ⟨l1, e1⟩ := List.getElem?_eq_some_iff.1 hi
  obtain ⟨l2, e2⟩ := List.getElem?_eq_some_iff.1 hj
  rcases Nat.lt_trichotomy i j with hlt | he | hlt
  · exact (h2 i j l1 l2 hlt b (by rw [e1]; exact hr) (by rw [e2]; exact hs)).elim
  · exact he
  · exact (h2 j i l2 l1 hlt b (by rw [e2]; exact hs) (by rw [e1]; exact hr)).elim
theorem rowV_own {B : Option Addr} {n c b : Nat} : (rowV (B, n, c)).ownBlock = some b ↔ B.map (·.block) = some b := ownBlock_map
theorem rowsOf_far {w : World} {base : Nat} {p : Prg} (h : ProgW w base p.A p.c p.is p.gs) : (rowsOf p).Pairwise Far := by
  refine List.pairwise_iff_getElem.2 fun i j hi hj hlt b h1 h2 => ?_
  obtain ⟨x, B, cc, -, hg, e⟩ := rowsOf_mem (List.getElem?_eq_getElem hi)
  obtain ⟨y, B', cc', -, hg', e'⟩ := rowsOf_mem (List.getElem?_eq_getElem hj)
  rw [e] at h1
  rw [e'] at h2
  have := h.apart i j B B' cc cc' b hg hg' (rowV_own.1 h1) (rowV_own.1 h2)
  omega
/-- what is handed in -/
structure Prgs (w : World) (base : Nat) (ps : List Prg) : Prop where
  own : ∀ p ∈ ps, ProgW w base p.A p.c p.is p.gs
  far : ps.Pairwise Apart
  few : ∀ p ∈ ps, p.is.length ≤ 20000
  small : ∀ p ∈ ps, ∀ x ∈ p.is, x.rs.length ≤ 9000000
  len : ps.length ≤ 3
theorem Prgs.upd {F : Nat → Prop} {w w' : World} {base : Nat} {ps : List Prg} (h : Prgs w base ps) (hU : Upd F w w') (hF : ∀ b, base ≤ b → ¬ F b) : Prgs w' base ps :=
  ⟨fun p hp => (h.own p hp).upd hU hF, h.far, h.few, h.small, h.len⟩
theorem Prgs.rows {w : World} {base : Nat} {ps : List Prg} (h : Prgs w base ps) : RowsF w base 50 2 patR (allR ps) 0 0 := by
  refine RowsF.of (fun j r hr => ?_) (far_apart (List.pairwise_flatMap.2 ⟨fun p hp => rowsOf_far (h.own p hp), h.far.imp (fun hpq => hpq.r)⟩)) (fun r hr => ?_)
  · obtain ⟨p, hp, hm⟩ := List.mem_flatMap.1 (List.mem_of_getElem? hr)
    obtain ⟨k, hk⟩ := List.mem_iff_getElem?.1 hm
    obtain ⟨x, B, cc, hx, hg, rfl⟩ := rowsOf_mem hk
    exact ⟨_, (h.own p hp).own k x B cc hx hg⟩
  · obtain ⟨p, hp, hm⟩ := List.mem_flatMap.1 hr
    obtain ⟨k, hk⟩ := List.mem_iff_getElem?.1 hm
    obtain ⟨x, B, cc, hx, hg, rfl⟩ := rowsOf_mem hk
    have := h.small p hp x (List.mem_of_getElem? hx)
    simp only
    omega
theorem Prgs.insts {w : World} {base : Nat} {ps : List Prg} (h : Prgs w base ps) : RowsF w base 48 5 patI (allI ps) 0 0 := by
  refine RowsF.of (fun j r hr => ?_) (far_apart (List.pairwise_map.2 (h.far.imp (fun hpq => hpq.i)))) (fun r hr => ?_)
  · obtain ⟨p, hp, rfl⟩ := List.mem_map.1 (List.mem_of_getElem? hr)
    exact ⟨_, (h.own p hp).row⟩
  · obtain ⟨p, hp, rfl⟩ := List.mem_map.1 hr
    have := h.few p hp
    simp only [rowI]
    omega
theorem allR_small {w : World} {base : Nat} {ps : List Prg} (h : Prgs w base ps) : ∀ r ∈ allR ps, r.2.1 ≤ 9000000 := fun r hr => by
  obtain ⟨p, hp, hm⟩ := List.mem_flatMap.1 hr
  obtain ⟨k, hk⟩ := List.mem_iff_getElem?.1 hm
  obtain ⟨x, B, cc, hx, hg, rfl⟩ := rowsOf_mem hk
  exact h.small p hp x (List.mem_of_getElem? hx)
theorem allI_small {w : World} {base : Nat} {ps : List Prg} (h : Prgs w base ps) : ∀ r ∈ allI ps, r.2.1 ≤ 9000000 := fun r hr => by
  obtain ⟨p, hp, rfl⟩ := List.mem_map.1 hr
  have := h.few p hp
  simp only [rowI]
  omega
theorem allR_len {w : World} {base : Nat} : ∀ {ps : List Prg}, (∀ p ∈ ps, p.gs.length = p.is.length ∧ p.is.length ≤ 20000) → (allR ps).length ≤ ps.length * 20000
  | [], h => by simp [allR]
  | p :: ps, h => by
    have h1 := h p (by simp)
    have h2 := allR_len (w := w) (base := base) (ps := ps) (fun q hq => h q (by simp [hq]))
    have h3 := rowsOf_len h1.1
    simp only [allR, List.flatMap_cons, List.length_append, List.length_cons] at h2 ⊢
    omega
theorem Prgs.lenR {w : World} {base : Nat} {ps : List Prg} (h : Prgs w base ps) : (allR ps).length ≤ 60000 := by
  have := allR_len (w := w) (base := base) (ps := ps) (fun p hp => ⟨(h.own p hp).len, h.few p hp⟩)
  have := h.len
  omega
theorem Prgs.lenT {w : World} {base : Nat} {ps : List Prg} (h : Prgs w base ps) (i : Nat) : (allR (ps.take i)).length ≤ 60000 := by
  have := allR_len (w := w) (base := base) (ps := ps.take i) (fun p hp => ⟨(h.own p (List.mem_of_mem_take hp)).len, h.few p (List.mem_of_mem_take hp)⟩)
  have := h.len
  have : (ps.take i).length ≤ ps.length := by simp; omega
  omega
theorem allR_more {ps : List Prg} {i : Nat} {p : Prg} (h : ps[i]? = some p) : allR (ps.take (i + 1)) = allR (ps.take i) ++ rowsOf p := by
  have hl := (List.getElem?_eq_some_iff.1 h).1
  unfold allR
  rw [List.take_add_one, h]
  simp
theorem allI_more {ps : List Prg} {i : Nat} {p : Prg} (h : ps[i]? = some p) : allI (ps.take (i + 1)) = allI (ps.take i) ++ [rowI p] := by
  unfold allI
  rw [List.take_add_one, h]
  simp
theorem ProgW.inst_cell {w : World} {base : Nat} {A : Option Addr} {c : Nat} {is : List PInst} {gs : List (Option Addr × Nat)} (h : ProgW w base A c is gs) {k : Nat} {x : PInst} {B : Option Addr} {cc : Nat} (hx : is[k]? = some x) (hg : gs[k]? = some (B, cc)) :
    ∃ g, A = some ⟨g, 0, none⟩ ∧ w.cell? ⟨g, k * 5 + 4, none⟩ = some (.slice B x.rs.length cc) := by
  have hk := (List.getElem?_eq_some_iff.1 hx).1
  obtain ⟨g, cap, hv, hb, -⟩ := World.ownsRow.form h.row (by omega)
  injection hv with e1 _ e3
  subst e1 e3
  refine ⟨g, rfl, ?_⟩
  rw [World.ownsRow.cellAt h.row _ (by omega)]
  exact flatI_at is gs k x B cc hx hg 4 _ rfl
end Go.Proofs.YtdbdokjlcdogiaaDoor

/-
  The walk of heronlaw10.Lent: a program in memory of its own, a mark behind each list.
-/
namespace Go.Proofs.YtdbdokjlcdogiaaDoor
open Go.RowKit
set_option linter.unusedVariables false

theorem info_inst : (Tryd.prog.info? 48).map (fun i => (i.zero, i.size, i.bytes)) = some (some (.agg #[.int .i64 0, .int .i64 0, .int .i64 0, .int .i64 0, .slice none 0 0]), 5, 56) := by kernel_rfl
theorem info_range : (Tryd.prog.info? 50).map (fun i => (i.zero, i.size, i.bytes)) = some (some (.agg #[.int .i64 0, .int .i64 0]), 2, 16) := by kernel_rfl

theorem pairv_one : ∀ (rs : List (Int × Int)), ∀ u ∈ pairv rs, u.oneCell' = true
  | [], u, h => by cases h
  | x :: r, u, h => by
    simp only [pairv, List.mem_cons] at h
    rcases h with rfl | rfl | h
    · rfl
    · rfl
    · exact pairv_one r u h
def lentRanges (rs : List (Int × Int)) : List Value := pairv (rs ++ [(-77, 0)])
theorem pairv_append (a b : List (Int × Int)) : pairv (a ++ b) = pairv a ++ pairv b := by
  induction a with
  | nil => rfl
  | cons x r ih => simp [pairv, ih]

/-- The first k instructions of a lent program lie in block ga, their ranges in blocks of their own. -/
structure LendR (w : World) (base ga : Nat) (is : List PInst) (gr : Nat → Nat) (cs : Array Value) (k : Nat) : Prop where
  blk : Cells w ga 48 cs
  size : cs.size = (is.length + 1) * 5
  low : base ≤ ga
  done : ∀ (i : Nat) (x : PInst), i < k → is[i]? = some x → (∀ j v, (instCells x (some ⟨gr i, 0, none⟩) x.rs.length (x.rs.length + 1))[j]? = some v → cs[i * 5 + j]? = some v) ∧
    w.ownsRow base 50 2 (.slice (some ⟨gr i, 0, none⟩) (x.rs.length + 1) (x.rs.length + 1)) (x.rs.length + 1) (lentRanges x.rs)
  inj : ∀ i j, i < k → j < k → gr i = gr j → i = j

namespace LendR
variable {F : Nat → Prop} {w w' : World} {base ga k : Nat} {is : List PInst} {gr : Nat → Nat} {cs : Array Value}
theorem upd (h : LendR w base ga is gr cs k) (hk : k ≤ is.length) (hU : Upd F w w') (ha : ¬ F ga) (hr : ∀ i, i < k → ¬ F (gr i)) : LendR w' base ga is gr cs k :=
  ⟨h.blk.upd hU ha, h.size, h.low, fun i x hi hx => ⟨(h.done i x hi hx).1, own_upd (h.done i x hi hx).2 hU (fun b hb => by simp [Value.ownBlock] at hb; subst hb; exact hr i hi)⟩, h.inj⟩
theorem lt (h : LendR w base ga is gr cs k) (hk : k ≤ is.length) {i : Nat} (hi : i < k) : gr i < w.heap.size := by
  have hx := List.getElem?_eq_getElem (show i < is.length by omega)
  exact ((h.done i _ hi hx).2.lt (gr i) rfl).2
theorem old (h : LendR w base ga is gr cs k) (hk : k ≤ is.length) (hU : Upd F w w') (hF : ∀ b, b < w.heap.size → ¬ F b) : LendR w' base ga is gr cs k :=
  h.upd hk hU (hF _ h.blk.lt) (fun i hi => hF _ (h.lt hk hi))
theorem ne (h : LendR w base ga is gr cs k) (hk : k ≤ is.length) {i : Nat} (hi : i < k) : gr i ≠ ga := by
  have hx := List.getElem?_eq_getElem (show i < is.length by omega)
  have := own_ne (h.done i _ hi hx).2 h.blk (by decide)
  simp [Value.ownBlock] at this
  exact this
end LendR

/-- the ranges' own row reads as the ranges -/
theorem lent_reads {w : World} {base g n : Nat} {rs : List (Int × Int)} (hl : rs.length = n) (o : w.ownsRow base 50 2 (.slice (some ⟨g, 0, none⟩) (n + 1) (n + 1)) (n + 1) (lentRanges rs)) :
    Reads w (fun k => k = g) 2 (some ⟨g, 0, none⟩) n (pairv rs) := by
  refine ⟨by rw [pairv_len, hl], fun hn => ⟨_, rfl, (o.lt g rfl).2, rfl, fun j u hj => ?_⟩⟩
  rw [add_lit_, Nat.zero_add]
  have hjl := (List.getElem?_eq_some_iff.1 hj).1
  rw [pairv_len] at hjl
  rw [o.cellAt j (by omega)]
  unfold lentRanges
  rw [pairv_append, List.getElem?_append_left (by rw [pairv_len]; exact hjl)]
  exact hj
theorem lent_marks {w : World} {base g n : Nat} {rs : List (Int × Int)} (hl : rs.length = n) (o : w.ownsRow base 50 2 (.slice (some ⟨g, 0, none⟩) (n + 1) (n + 1)) (n + 1) (lentRanges rs)) :
    w.cell? ⟨g, n * 2, none⟩ = some (.int .i64 (-77)) := by
  unfold lentRanges at o
  have hp : (pairv rs).length = n * 2 := by rw [pairv_len, hl]
  rw [o.cellAt (n * 2) (by omega), pairv_append, List.getElem?_append_right (by omega), hp, Nat.sub_self]
  rfl

/-- a lent program is a program -/
theorem LendR.insts {w : World} {base ga : Nat} {is : List PInst} {gr : Nat → Nat} {cs : Array Value} (h : LendR w base ga is gr cs is.length) (hI : ∀ x ∈ is, In64I x ∧ In64s x.rs ∧ x.rs.length ≤ 140737488355328) :
    InstsR w (fun b => b = ga ∨ ∃ i, i < is.length ∧ b = gr i) (some ⟨ga, 0, none⟩) is.length is := by
  refine ⟨rfl, fun i x hx => ?_⟩
  have hi := (List.getElem?_eq_some_iff.1 hx).1
  obtain ⟨hc, ho⟩ := h.done i x hi hx
  obtain ⟨h1, h2, h3⟩ := hI x (List.mem_of_getElem? hx)
  refine ⟨_, ga, i * 5, some ⟨gr i, 0, none⟩, x.rs.length, x.rs.length + 1, rfl, by rw [add_lit_, Nat.zero_add], .inl rfl, h.blk.lt, ⟨(lent_reads rfl ho).weaken (fun b hb => .inr ⟨i, hi, hb⟩), h2, h3⟩, h1, fun j v hv => h.blk.cellv (hc j v hv)⟩

theorem own_block {w : World} {base e size n c g : Nat} {xs : List Value} (h : w.ownsRow base e size (.slice (some ⟨g, 0, none⟩) n c) n xs) : ∃ cur, Cells w g e cur ∧ cur.size = c * size ∧ cur.toList.take (n * size) = xs := by
  rcases h.2 with ⟨h1, _⟩ | ⟨g', cap, cur, h1, _, hg, _, _, hcs, ht⟩
  · cases h1
  · injection h1 with a b d
    injection a with a
    injection a with a
    subst a; subst d
    exact ⟨cur, hg, hcs, ht⟩
theorem LendR.own {w : World} {base ga k : Nat} {is : List PInst} {gr : Nat → Nat} {cs : Array Value} (h : LendR w base ga is gr cs k) (hk : k ≤ is.length) (hm : is.length + 1 ≤ maxLen) :
    w.ownsRow base 48 5 (.slice (some ⟨ga, 0, none⟩) k (is.length + 1)) k (cs.toList.take (k * 5)) := by
  have hs := h.size
  have hk5 : k * 5 ≤ (is.length + 1) * 5 := by omega
  exact ⟨by have hct : cs.toList.length = cs.size := Array.length_toList; rw [List.length_take, hct]; omega, .inr ⟨ga, is.length + 1, cs, rfl, h.low, h.blk, by omega, hm, h.size, rfl⟩⟩
theorem take_at {cur : Array Value} {m : Nat} {xs : List Value} (h : cur.toList.take m = xs) {j : Nat} (hj : j < m) : cur[j]? = xs[j]? := by
  rw [← h, List.getElem?_take_of_lt hj, Array.getElem?_toList]
theorem LendR.keep {w w' : World} {base ga k : Nat} {is : List PInst} {gr : Nat → Nat} {cs cur : Array Value} (h : LendR w base ga is gr cs k) (hk : k ≤ is.length) (hg : w.grownBy w' (some ga)) (hb : Cells w' ga 48 cur) (hs : cur.size = (is.length + 1) * 5)
    (hc : ∀ j, j < k * 5 → cur[j]? = cs[j]?) : LendR w' base ga is gr cur k := by
  refine ⟨hb, hs, h.low, fun i y hi hy => ?_, h.inj⟩
  obtain ⟨h1, h2⟩ := h.done i y hi hy
  refine ⟨fun j v hv => ?_, own_upd h2 ((Upd.refl (fun b => b = ga) w).grown hg (fun b hb _ => by injection hb with hb; exact hb.symm)) ?_⟩
  · have hj : j < 5 := (Array.getElem?_eq_some_iff.1 hv).1
    rw [hc _ (by omega)]
    exact h1 j v hv
  · intro b hb e
    simp [Value.ownBlock] at hb
    exact h.ne hk hi (hb.trans e)
theorem LendR.more {w w' : World} {base ga k gl : Nat} {is : List PInst} {gr : Nat → Nat} {cs : Array Value} {x : PInst} (h : LendR w base ga is gr cs k) (hx : is[k]? = some x)
    (ol : w.ownsRow base 50 2 (.slice (some ⟨gl, 0, none⟩) (x.rs.length + 1) (x.rs.length + 1)) (x.rs.length + 1) (lentRanges x.rs)) (hn : ∀ i, i < k → gr i ≠ gl)
    (o : w'.ownsRow base 48 5 (.slice (some ⟨ga, 0, none⟩) (k + 1) (is.length + 1)) (k + 1) (cs.toList.take (k * 5) ++ (instCells x (some ⟨gl, 0, none⟩) x.rs.length (x.rs.length + 1)).toList)) (hg : w.grownBy w' (some ga)) :
    ∃ cs', LendR w' base ga is (fun i => if i = k then gl else gr i) cs' (k + 1) := by
  have hk : k < is.length := (List.getElem?_eq_some_iff.1 hx).1
  have hgl : gl ≠ ga := by
    have := own_ne ol h.blk (by decide)
    simp [Value.ownBlock] at this
    exact this
  have hs := h.size
  obtain ⟨cur, hb, hcs, ht⟩ := own_block o
  have hlt : (cs.toList.take (k * 5)).length = k * 5 := by have hct : cs.toList.length = cs.size := Array.length_toList; rw [List.length_take, hct]; omega
  have hold : ∀ j, j < k * 5 → cur[j]? = cs[j]? := fun j hj => by
    rw [take_at ht (by omega), List.getElem?_append_left (by omega), List.getElem?_take_of_lt hj, Array.getElem?_toList]
  have hK := h.keep (by omega) hg hb (by omega) hold
  refine ⟨cur, hb, by omega, h.low, fun i y hi hy => ?_, fun i j hi hj e => ?_⟩
  · by_cases hik : i = k
    · subst hik
      rw [hx] at hy
      injection hy with hy
      subst hy
      rw [if_pos rfl]
      refine ⟨fun j v hv => ?_, own_upd ol ((Upd.refl (fun b => b = ga) w).grown hg (fun b hb _ => by injection hb with hb; exact hb.symm)) ?_⟩
      · have hj : j < 5 := (Array.getElem?_eq_some_iff.1 hv).1
        rw [take_at ht (by omega), List.getElem?_append_right (by omega), hlt, Nat.add_sub_cancel_left, Array.getElem?_toList]
        exact hv
      · intro b hb e
        simp [Value.ownBlock] at hb
        exact hgl (hb.trans e)
    · rw [if_neg hik]
      exact hK.done i y (by omega) hy
  · have e' : (if i = k then gl else gr i) = (if j = k then gl else gr j) := e
    by_cases h1 : i = k <;> by_cases h2 : j = k
    · omega
    · rw [if_pos h1, if_neg h2] at e'
      exact absurd e'.symm (hn j (by omega))
    · rw [if_neg h1, if_pos h2] at e'
      exact absurd e' (hn i (by omega))
    · rw [if_neg h1, if_neg h2] at e'
      exact h.inj i j (by omega) (by omega) e'
theorem LendR.mark {w w' : World} {base ga : Nat} {is : List PInst} {gr : Nat → Nat} {cs : Array Value} {ms : List Value} (h : LendR w base ga is gr cs is.length)
    (o : w'.ownsRow base 48 5 (.slice (some ⟨ga, 0, none⟩) (is.length + 1) (is.length + 1)) (is.length + 1) (cs.toList.take (is.length * 5) ++ Value.int .i64 (-77) :: ms)) (hg : w.grownBy w' (some ga)) :
    ∃ cs', LendR w' base ga is gr cs' is.length ∧ cs'[is.length * 5]? = some (.int .i64 (-77)) := by
  have hs := h.size
  obtain ⟨cur, hb, hcs, ht⟩ := own_block o
  have hlt : (cs.toList.take (is.length * 5)).length = is.length * 5 := by have hct : cs.toList.length = cs.size := Array.length_toList; rw [List.length_take, hct]; omega
  refine ⟨cur, h.keep (Nat.le_refl _) hg hb (by omega) (fun j hj => ?_), ?_⟩
  · rw [take_at ht (by omega), List.getElem?_append_left (by omega), List.getElem?_take_of_lt hj, Array.getElem?_toList]
  · rw [take_at ht (by omega), List.getElem?_append_right (by omega), hlt, Nat.sub_self]
    rfl

section
variable {P : Program} (w : World)
/-- append of a slice that reads as a list (nil, empty or not) where there is room -/
theorem wpList_append_room_reads {ops : Array Oper} {rest : List Oper} {o : Oper} {a : Act} {Q : Exit → Act → World → Prop} (hgd : o.guard = none) (s x : Operand) (t : TypeId)
    (ho : o.op = .call { callee := .builtin .append, args := #[s, x], argTypes := #[t, t] })
    (base : Nat) (e : TypeId) (i : TypeInfo) (size : Nat) (ht : P.underlying t = some (.slice e)) (hi : P.info? e = some i) (hsize : i.size = size)
    (g n cap : Nat) (xs : List Value) (hs : a.eval s = .slice (some ⟨g, 0, none⟩) n cap) (hown : w.ownsRow base e size (.slice (some ⟨g, 0, none⟩) n cap) n xs)
    (S : Nat → Prop) (A : Option Addr) (m c : Nat) (news : List Value) (hx : a.eval x = .slice A m c) (hr : Reads w S size A m news) (h1 : ∀ u ∈ news, u.oneCell' = true)
    (hroom : n + m ≤ cap)
    (h : ∀ w', w'.ownsRow base e size (.slice (some ⟨g, 0, none⟩) (n + m) cap) (n + m) (xs ++ news) → w.grownBy w' (some g) → wpList P ops Q rest (a.put o.dst (.slice (some ⟨g, 0, none⟩) (n + m) cap)) w') : wpList P ops Q (o :: rest) a w := by
  rcases A with _ | ad
  · have hm : m = 0 := by
      rcases Nat.eq_zero_or_pos m with h0 | h0
      · exact h0
      · obtain ⟨_, h, _⟩ := hr.2 h0
        cases h
    subst hm
    have hn : news = [] := List.eq_nil_of_length_eq_zero (by simpa using hr.1)
    subst hn
    refine wpList_plain hgd fun K hK => ?_
    have hrun : (Builtin.append_ #[t, t] o.type #[.slice (some ⟨g, 0, none⟩) n cap, .slice none 0 c]).run P w = .ok (.slice (some ⟨g, 0, none⟩) n cap) w := by
      rcases hown.2 with ⟨h0, _⟩ | ⟨g', cap', cur, hv, _, _, hnc, _⟩
      · cases h0
      · cases hv
        simp [Builtin.append_, run_underlying ht, sizeOf, typeInfo, hi, Builtin.lenOf, Builtin.firstCells, hnc, storeCells]
    unfold Oper.wp execOp
    simp only [ho, resolve, invoke, builtin, Sem.run_bind, Sem.run_pure, Result.andThen_ok, List.map_toArray, List.map_cons, List.map_nil, hs, hx, hrun]
    exact hK _ _ (h w (by simpa using hown) (World.grownBy.refl w _))
  · have hcells : ∀ j u, news[j]? = some u → w.cell? (ad.add j) = some u := by
      intro j u hu
      rcases Nat.eq_zero_or_pos m with h0 | h0
      · subst h0
        have hn : news = [] := List.eq_nil_of_length_eq_zero (by simpa using hr.1)
        subst hn
        simp at hu
      · obtain ⟨_, h, _, _, hc⟩ := hr.2 h0
        injection h with h
        subst h
        exact hc j u hu
    exact wpList_append_own_spare w hgd s x t ho base e i size ht hi hsize g n cap xs hs hown ad m c news hx hr.1 hcells h1 hroom h
end

def LentProg (w : World) (is : List PInst) (start caps : Int) (e : Ending) (w' : World) : Prop :=
  ∃ ga gr cs, e = .returned (.agg #[.slice (some ⟨ga, 0, none⟩) is.length (is.length + 1), .int .i64 start, .int .i64 caps]) ∧ LendR w' w.heap.size ga is gr cs is.length ∧
    cs[is.length * 5]? = some (.int .i64 (-77)) ∧ Upd Nob w w'

section
variable {P : Program} (w : World)
/-- 'make([]T, 0, c)' at a step of a region that draws its order -/
theorem step_make_own {ops : Array Oper} {o : Oper} {a : Act} {K : Act → World → Prop} {Q : Exit → Act → World → Prop} {E : Prop}
    (hg : o.guard = none) (l c : Operand) (t : TypeId) (hop : o.op = Op.makeSlice t l c)
    (base : Nat) (e : TypeId) (i : TypeInfo) (z : Value) (size : Nat) (h1 : P.underlying t = some (.slice e)) (h2 : P.info? e = some i) (h3 : i.zero = some z) (h4 : i.size = size)
    (kl kc : IntKind) (C : Int) (n : Nat) (hl : a.eval l = .int kl 0) (hc : a.eval c = .int kc C) (hC : C = (n : Int)) (b2 : i.bytes * n ≤ 281474976710656) (b3 : n ≤ maxLen) (b4 : base ≤ w.heap.size)
    (hK : ∀ w', w'.ownsRow base e size (.slice (some ⟨w.heap.size, 0, none⟩) 0 n) 0 [] → w.grownBy w' none → K (a.put o.dst (.slice (some ⟨w.heap.size, 0, none⟩) 0 n)) w') :
    if Region.wanted o (yielded ops a.tmps) = true then Oper.wp P o a w K Q else E := by
  rw [if_pos (by simp [Region.wanted, hg])]
  obtain ⟨w', hrun, r1, r2⟩ := run_make_own (P := P) w base t e i z size h1 h2 h3 h4 kl kc n b2 b3 b4
  subst hC
  unfold Oper.wp
  simp [execOp, hop, hl, hc, hrun, Result.andThen]
  exact hK _ r1 r2
/-- append of a slice that reads as a list, where there is room, at a step of such a region -/
theorem step_append_room_reads {ops : Array Oper} {o : Oper} {a : Act} {K : Act → World → Prop} {Q : Exit → Act → World → Prop} {E : Prop} (hgd : o.guard = none) (s x : Operand) (t : TypeId)
    (ho : o.op = .call { callee := .builtin .append, args := #[s, x], argTypes := #[t, t] })
    (base : Nat) (e : TypeId) (i : TypeInfo) (size : Nat) (ht : P.underlying t = some (.slice e)) (hi : P.info? e = some i) (hsize : i.size = size)
    (g n cap : Nat) (xs : List Value) (hs : a.eval s = .slice (some ⟨g, 0, none⟩) n cap) (hown : w.ownsRow base e size (.slice (some ⟨g, 0, none⟩) n cap) n xs)
    (S : Nat → Prop) (A : Option Addr) (m c : Nat) (news : List Value) (hx : a.eval x = .slice A m c) (hr : Reads w S size A m news) (h1 : ∀ u ∈ news, u.oneCell' = true)
    (hroom : n + m ≤ cap) (k : Nat) (hk : n + m = k)
    (h : ∀ w', w'.ownsRow base e size (.slice (some ⟨g, 0, none⟩) k cap) k (xs ++ news) → w.grownBy w' (some g) → K (a.put o.dst (.slice (some ⟨g, 0, none⟩) k cap)) w') :
    if Region.wanted o (yielded ops a.tmps) = true then Oper.wp P o a w K Q else E := by
  subst hk
  rw [if_pos (by simp [Region.wanted, hgd])]
  rcases A with _ | ad
  · have hm : m = 0 := by
      rcases Nat.eq_zero_or_pos m with h0 | h0
      · exact h0
      · obtain ⟨_, h, _⟩ := hr.2 h0
        cases h
    subst hm
    have hn : news = [] := List.eq_nil_of_length_eq_zero (by simpa using hr.1)
    subst hn
    have hrun : (Builtin.append_ #[t, t] o.type #[.slice (some ⟨g, 0, none⟩) n cap, .slice none 0 c]).run P w = .ok (.slice (some ⟨g, 0, none⟩) n cap) w := by
      rcases hown.2 with ⟨h0, _⟩ | ⟨g', cap', cur, hv, _, _, hnc, _⟩
      · cases h0
      · cases hv
        simp [Builtin.append_, run_underlying ht, sizeOf, typeInfo, hi, Builtin.lenOf, Builtin.firstCells, hnc, storeCells]
    unfold Oper.wp execOp
    simp only [ho, resolve, invoke, builtin, Sem.run_bind, Sem.run_pure, Result.andThen_ok, List.map_toArray, List.map_cons, List.map_nil, hs, hx, hrun]
    exact h w (by simpa using hown) (World.grownBy.refl w _)
  · have hcells : ∀ j u, news[j]? = some u → w.cell? (ad.add j) = some u := by
      intro j u hu
      rcases Nat.eq_zero_or_pos m with h0 | h0
      · subst h0
        have hn : news = [] := List.eq_nil_of_length_eq_zero (by simpa using hr.1)
        subst hn
        simp at hu
      · obtain ⟨_, h, _, _, hc⟩ := hr.2 h0
        injection h with h
        subst h
        exact hc j u hu
    exact wp_append_own_spare w s x t ho base e i size ht hi hsize g n cap xs hs hown ad m c news hx hr.1 hcells h1 hroom h
end
theorem reads_mark (w : World) : Reads (w.alloc (.cells #[.int .i64 (-77), .int .i64 0] 50)) (fun b => b = w.heap.size) 2 (some ⟨w.heap.size, 0, none⟩) 1 [.int .i64 (-77), .int .i64 0] :=
  ⟨rfl, fun _ => ⟨_, rfl, by simp, rfl, World.news_of_block (cs := #[.int .i64 (-77), .int .i64 0]) (t := 50) (fr := (0, 0)) (heap_alloc_new w _)⟩⟩
set_option maxRecDepth 100000 in
set_option maxHeartbeats 4000000 in
theorem lentProg_any (w : World) (S : Nat → Prop) (A : Option Addr) (n c : Nat) (is : List PInst) (start caps : Int) (h : InstsR w S A n is) (hnb : n * 56 ≤ 140737488351232)
    (hI : ∀ x ∈ is, x.rs.length * 16 ≤ 140737488351232) :
    Calls Tryd.prog 9 #[.agg #[.slice A n c, .int .i64 start, .int .i64 caps]] w (LentProg w is start caps) := by
  obtain rfl : is.length = n := h.len
  obtain ⟨i0, hi0, hz0, hz1, hz2⟩ := info_parts info_inst
  obtain ⟨j0, hj0, hy0, hy1, hy2⟩ := info_parts info_range
  have H := hideP h
  have HI := hideP hI
  clear h hI
  have C0 : Cells ((w.alloc (.cells #[.slice A is.length c, .int .i64 start, .int .i64 caps] 24)).alloc (.cells #[.slice none 0 0, .int .i64 0, .int .i64 0] 24)) w.heap.size 24 #[.slice A is.length c, .int .i64 start, .int .i64 caps] := (Cells.new _ _ _).alloc _
  have C1 := Cells.new (w.alloc (.cells #[.slice A is.length c, .int .i64 start, .int .i64 caps] 24)) 24 #[.slice none 0 0, .int .i64 0, .int .i64 0]
  rw [World.size_alloc] at C1
  have hU : Upd Nob w ((w.alloc (.cells #[.slice A is.length c, .int .i64 start, .int .i64 caps] 24)).alloc (.cells #[.slice none 0 0, .int .i64 0, .int .i64 0] 24)) := ((Upd.refl Nob w).alloc _).alloc _
  go_enter Tryd.func9, Tryd.ntmps9
  go_upto_region 1 with fail
  generalize ((w.alloc (.cells #[.slice A is.length c, .int .i64 start, .int .i64 caps] 24)).alloc (.cells #[.slice none 0 0, .int .i64 0, .int .i64 0] 24)) = w2 at *
  have bs := C1.lt
  have e0 : w2.cell? ⟨w.heap.size, 0, none⟩ = some (.slice A is.length c) := C0.cellv rfl
  have k1 : IntKind.i64.wrap ((is.length : Int) + 1) = (is.length : Int) + 1 := by rw [IntKind.wrap_i64]; omega
  go_wp2_with (first
    | (at_make; refine wpList_make_own w2 rfl _ (.tmp 9) 22 rfl w2.heap.size 48 i0 _ 5 Tryd.underlying22 hi0 hz0 hz1 .i64 .i64 ((is.length : Int) + 1) (is.length + 1) rfl rfl (by omega) (by rw [hz2]; omega) (by unfold maxLen; omega) (Nat.le_refl _) ?_; intro w3 o3 hg3; have C03 := C0.grown hg3 (by simp); have e0 := C03.cellv (i := 0) rfl)
    | fail)
  obtain ⟨cs0, ha0, hs0, -⟩ := own_block o3
  have C13 := C1.grown hg3 (by simp)
  have hU3 := hU.grown hg3 (by simp)
  have hga : w.heap.size ≤ w2.heap.size := hU.size
  have hga3 := ha0.lt
  generalize w2.heap.size = ga at *
  have HC0 := hideP C03
  have HC1 := hideP C13
  have HU3 := hideP hU3
  have L0 : LendR w3 w.heap.size ga is (fun _ => 0) cs0 0 := ⟨ha0, hs0, hga, fun i x hi _ => by omega, fun i j hi _ _ => by omega⟩
  clear C0 C1 C03 C13 o3 hg3 hU hU3 ha0 k1
  go_loopg [3, 4] is.length (fun gk v3 v4 wr => ∃ (k : Nat) (gr : Nat → Nat) (cs : Array Value), k + gk = is.length ∧ v3 = .slice (some ⟨ga, 0, none⟩) k (is.length + 1) ∧ v4 = .int .i64 (k : Int) ∧ LendR wr w.heap.size ga is gr cs k ∧ (∀ i, i < k → w3.heap.size ≤ gr i) ∧ Upd (fun b => b = ga) w3 wr)
  case atStart => exact ⟨0, _, cs0, by omega, rfl, rfl, L0, fun i hi => by omega, Upd.refl _ _⟩
  case round =>
    obtain ⟨k, gr, cs, hk, rfl, rfl, hL, hgr, hU⟩ := hrel
    have hb0 : w.heap.size ≠ ga := by omega
    have CB := HC0.out.upd hU hb0
    have b0 : wr.cell? ⟨w.heap.size, 0, none⟩ = some (.slice A is.length c) := CB.cellv rfl
    by_cases hlt : k < is.length
    · obtain ⟨ad, g, o, x, B, m, c', rfl, hx, hadd, -, hg, hR, hIx, c0, c1, c2, c3, c4⟩ := (H.out.upd (HU3.out.trans hU (fun j hj h => absurd h (by omega))) (fun _ _ => not_nob)).at1 hlt
      have hmx := HI.out x (List.mem_of_getElem? hx)
      obtain ⟨op, xx, yy, arg, rs⟩ := x
      simp only at c0 c1 c2 c3 hR hmx
      obtain rfl : rs.length = m := hR.len
      have CX : Cells (wr.alloc (.cells #[.int .i64 op, .int .i64 xx, .int .i64 yy, .int .i64 arg, .slice B rs.length c'] 48)) wr.heap.size 48 #[.int .i64 op, .int .i64 xx, .int .i64 yy, .int .i64 arg, .slice B rs.length c'] := Cells.new _ _ _
      have hUa := (Upd.refl Nob wr).alloc (.cells #[.int .i64 op, .int .i64 xx, .int .i64 yy, .int .i64 arg, .slice B rs.length c'] 48)
      have CBa := CB.upd hUa not_nob
      have hLa := hL.old (by omega) hUa (fun _ _ => not_nob)
      have hRa := hR.upd hUa (fun _ _ => not_nob)
      have hUA := hU.trans hUa (fun _ _ h => absurd h not_nob)
      have kl : (k : Int) < (is.length : Int) := by omega
      have HX := hideP hx
      have HK := hideP hk
      clear hx hL hR CB hk
      go_upto_region 6 with fail
      generalize wr.alloc (.cells #[.int .i64 op, .int .i64 xx, .int .i64 yy, .int .i64 arg, .slice B rs.length c'] 48) = wA at *
      have hxl := CX.lt
      have hsr := hU.size
      generalize wr.heap.size = xb at *
      clear c0 c1 c2 c3 c4 hadd hg b0 hU hUa
      go_cut [] from 23 to 38 (fun wc => ∃ gl : Nat, wA.heap.size ≤ gl ∧ gl ≠ xb ∧ wc.ownsRow w.heap.size 50 2 (.slice (some ⟨gl, 0, none⟩) (rs.length + 1) (rs.length + 1)) (rs.length + 1) (lentRanges rs) ∧ Cells wc xb 48 #[.int .i64 op, .int .i64 xx, .int .i64 yy, .int .i64 arg, .slice (some ⟨gl, 0, none⟩) rs.length (rs.length + 1)] ∧ Upd (fun b => b = xb) wA wc)
      case first =>
        have HSL := hideP (show ∀ w', Upd Nob wA w' → Cells w' xb 48 #[.int .i64 op, .int .i64 xx, .int .i64 yy, .int .i64 arg, .slice B rs.length c'] from fun w' hv => CX.upd hv not_nob)
        have U0 := (Upd.refl Nob wA).drew
        have k1 : IntKind.i64.wrap ((rs.length : Int) + 1) = (rs.length : Int) + 1 := by rw [IntKind.wrap_i64]; omega
        have k2 : (rs.length : Int) ≤ (rs.length : Int) + 1 := by omega
        have HRA := hideP hRa.r
        have HP1 := hideP (pairv_one rs)
        have hgA : w3.heap.size ≤ wA.heap.size := hUA.size
        refine AnyJ.begin 16 (fun w' => w'.cell? ⟨xb, 0 + 4, none⟩ = some (.slice B rs.length c')) (by kernel_rfl) (CX.cellv rfl) (fun hSS => ?_)
        refine AnyJ.take (i := 0) (oi := { dst := some 23, op := Op.fieldAddr 48 (Operand.tmp 5) 4, type := 0, pos := "law.go:27", after := #[], guard := none }) (v := ?v0n1) ?a0n1 ?b0n1 ?c0n1 ?d0n1 ?e0n1 (fun _ _ _ h => h) (Or.inl ⟨?f0n1, ?y0n1⟩) (by assumption) ?r0n1
        case a0n1 => rfl
        case b0n1 => kernel_rfl
        case c0n1 => kernel_rfl
        case d0n1 => kernel_rfl
        case e0n1 => kernel_rfl
        case f0n1 => rfl
        case y0n1 => (intro w' hSw; (try dsimp only at hSw); go_simp; try with_reducible rfl)
        try simp only [Act.put, List.setIfInBounds_toArray, List.set_cons_zero, List.set_cons_succ]
        refine AnyJ.take (i := 1) (oi := { dst := some 24, op := Op.load 46 (Operand.tmp 23), type := 46, pos := "law.go:27", after := #[{ on := 0, ground := .data }], guard := none }) (v := ?v1n2) ?a1n2 ?b1n2 ?c1n2 ?d1n2 ?e1n2 (fun _ _ _ h => h) (Or.inl ⟨?f1n2, ?y1n2⟩) (by assumption) ?r1n2
        case a1n2 => rfl
        case b1n2 => kernel_rfl
        case c1n2 => kernel_rfl
        case d1n2 => kernel_rfl
        case e1n2 => kernel_rfl
        case f1n2 => rfl
        case y1n2 => (intro w' hSw; (try dsimp only at hSw); go_simp; try with_reducible rfl)
        try simp only [Act.put, List.setIfInBounds_toArray, List.set_cons_zero, List.set_cons_succ]
        refine AnyJ.take (i := 2) (oi := { dst := some 25, op := Op.call { callee := Callee.builtin Builtin.len, args := #[Operand.tmp 24], argTypes := #[46] }, type := 3, pos := "law.go:27", after := #[{ on := 1, ground := .data }], guard := none }) (v := ?v2n3) ?a2n3 ?b2n3 ?c2n3 ?d2n3 ?e2n3 (fun _ _ _ h => h) (Or.inl ⟨?f2n3, ?y2n3⟩) (by assumption) ?r2n3
        case a2n3 => rfl
        case b2n3 => kernel_rfl
        case c2n3 => kernel_rfl
        case d2n3 => kernel_rfl
        case e2n3 => kernel_rfl
        case f2n3 => rfl
        case y2n3 => (intro w' hSw; (try dsimp only at hSw); go_simp; try with_reducible rfl)
        try simp only [Act.put, List.setIfInBounds_toArray, List.set_cons_zero, List.set_cons_succ]
        refine AnyJ.take (i := 3) (oi := { dst := some 26, op := Op.binOp BinOp.add 3 (Operand.tmp 25) (Operand.const (Value.int IntKind.i64 1)) 3, type := 3, pos := "law.go:27", after := #[{ on := 2, ground := .data }], guard := none }) (v := ?v3n4) ?a3n4 ?b3n4 ?c3n4 ?d3n4 ?e3n4 (fun _ _ _ h => h) (Or.inl ⟨?f3n4, ?y3n4⟩) (by assumption) ?r3n4
        case a3n4 => rfl
        case b3n4 => kernel_rfl
        case c3n4 => kernel_rfl
        case d3n4 => kernel_rfl
        case e3n4 => kernel_rfl
        case f3n4 => rfl
        case y3n4 => (intro w' hSw; (try dsimp only at hSw); go_simp; try with_reducible rfl)
        try simp only [Act.put, List.setIfInBounds_toArray, List.set_cons_zero, List.set_cons_succ]
        refine AnyJ.take (i := 5) (oi := { dst := some 28, op := Op.fieldAddr 48 (Operand.tmp 5) 4, type := 0, pos := "law.go:27", after := #[], guard := none }) (v := ?v5n5) ?a5n5 ?b5n5 ?c5n5 ?d5n5 ?e5n5 (fun _ _ _ h => h) (Or.inl ⟨?f5n5, ?y5n5⟩) (by assumption) ?r5n5
        case a5n5 => rfl
        case b5n5 => kernel_rfl
        case c5n5 => kernel_rfl
        case d5n5 => kernel_rfl
        case e5n5 => kernel_rfl
        case f5n5 => rfl
        case y5n5 => (intro w' hSw; (try dsimp only at hSw); go_simp; try with_reducible rfl)
        try simp only [Act.put, List.setIfInBounds_toArray, List.set_cons_zero, List.set_cons_succ]
        refine AnyJ.take (i := 6) (oi := { dst := some 29, op := Op.load 46 (Operand.tmp 28), type := 46, pos := "law.go:27", after := #[{ on := 5, ground := .data }], guard := none }) (v := ?v6n6) ?a6n6 ?b6n6 ?c6n6 ?d6n6 ?e6n6 (fun _ _ _ h => h) (Or.inl ⟨?f6n6, ?y6n6⟩) (by assumption) ?r6n6
        case a6n6 => rfl
        case b6n6 => kernel_rfl
        case c6n6 => kernel_rfl
        case d6n6 => kernel_rfl
        case e6n6 => kernel_rfl
        case f6n6 => rfl
        case y6n6 => (intro w' hSw; (try dsimp only at hSw); go_simp; try with_reducible rfl)
        try simp only [Act.put, List.setIfInBounds_toArray, List.set_cons_zero, List.set_cons_succ]
        refine AnyJ.take (i := 8) (oi := { dst := some 31, op := Op.build 50 #[(0, Operand.const (Value.int IntKind.i64 (-77)))], type := 50, pos := "law.go:27", after := #[], guard := none }) (v := ?v8n7) ?a8n7 ?b8n7 ?c8n7 ?d8n7 ?e8n7 (fun _ _ _ h => h) (Or.inl ⟨?f8n7, ?y8n7⟩) (by assumption) ?r8n7
        case a8n7 => rfl
        case b8n7 => kernel_rfl
        case c8n7 => kernel_rfl
        case d8n7 => kernel_rfl
        case e8n7 => kernel_rfl
        case f8n7 => rfl
        case y8n7 => (intro w' hSw; (try dsimp only at hSw); go_simp; try with_reducible rfl)
        try simp only [Act.put, List.setIfInBounds_toArray, List.set_cons_zero, List.set_cons_succ]
        refine AnyJ.take (i := 11) (oi := { dst := some 34, op := Op.fieldAddr 48 (Operand.tmp 5) 4, type := 0, pos := "law.go:27", after := #[], guard := none }) (v := ?v11n8) ?a11n8 ?b11n8 ?c11n8 ?d11n8 ?e11n8 (fun _ _ _ h => h) (Or.inl ⟨?f11n8, ?y11n8⟩) (by assumption) ?r11n8
        case a11n8 => rfl
        case b11n8 => kernel_rfl
        case c11n8 => kernel_rfl
        case d11n8 => kernel_rfl
        case e11n8 => kernel_rfl
        case f11n8 => rfl
        case y11n8 => (intro w' hSw; (try dsimp only at hSw); go_simp; try with_reducible rfl)
        try simp only [Act.put, List.setIfInBounds_toArray, List.set_cons_zero, List.set_cons_succ]
        refine AnyJ.take (i := 12) (oi := { dst := some 35, op := Op.load 46 (Operand.tmp 34), type := 46, pos := "law.go:27", after := #[{ on := 11, ground := .data }], guard := none }) (v := ?v12n9) ?a12n9 ?b12n9 ?c12n9 ?d12n9 ?e12n9 (fun _ _ _ h => h) (Or.inl ⟨?f12n9, ?y12n9⟩) (by assumption) ?r12n9
        case a12n9 => rfl
        case b12n9 => kernel_rfl
        case c12n9 => kernel_rfl
        case d12n9 => kernel_rfl
        case e12n9 => kernel_rfl
        case f12n9 => rfl
        case y12n9 => (intro w' hSw; (try dsimp only at hSw); go_simp; try with_reducible rfl)
        try simp only [Act.put, List.setIfInBounds_toArray, List.set_cons_zero, List.set_cons_succ]
        refine AnyJ.take (i := 13) (oi := { dst := some 36, op := Op.call { callee := Callee.builtin Builtin.len, args := #[Operand.tmp 35], argTypes := #[46] }, type := 3, pos := "law.go:27", after := #[{ on := 12, ground := .data }], guard := none }) (v := ?v13n10) ?a13n10 ?b13n10 ?c13n10 ?d13n10 ?e13n10 (fun _ _ _ h => h) (Or.inl ⟨?f13n10, ?y13n10⟩) (by assumption) ?r13n10
        case a13n10 => rfl
        case b13n10 => kernel_rfl
        case c13n10 => kernel_rfl
        case d13n10 => kernel_rfl
        case e13n10 => kernel_rfl
        case f13n10 => rfl
        case y13n10 => (intro w' hSw; (try dsimp only at hSw); go_simp; try with_reducible rfl)
        try simp only [Act.put, List.setIfInBounds_toArray, List.set_cons_zero, List.set_cons_succ]
        clear hSS CX hRa k1
        refine AnyJ.two (i := 4) (j := 9) (o := { dst := some 27, op := Op.makeSlice 46 (Operand.const (Value.int IntKind.i64 0)) (Operand.tmp 26), type := 46, pos := "law.go:27", after := #[{ on := 3, ground := .data }], guard := none }) (p := { dst := some 32, op := Op.buildSlice 46 1 #[(0, Operand.tmp 31)], type := 46, pos := "law.go:27", after := #[{ on := 8, ground := .data }], guard := none }) ?p1 ?q1 ?r1 ?h49 ?h94
        case p1 => kernel_rfl
        case q1 => rfl
        case r1 => rfl
        case h49 =>
          intro K' hK
          refine step_make_own wA.drew rfl _ (.tmp 26) 46 rfl w.heap.size 50 j0 _ 2 Tryd.underlying46 hj0 hy0 hy1 .i64 .i64 ((rs.length : Int) + 1) (rs.length + 1) rfl rfl (by omega) (by rw [hy2]; omega) (by unfold maxLen; omega) (by have := (U0).size; omega) ?_
          intro w4 o4 g4
          have U4 := (U0).grown g4 (by simp)
          have hl4 : wA.heap.size < w4.heap.size := (o4.lt _ rfl).2
          refine hK.out _ _ (.inr ((HSL.out _ U4).cellv rfl)) ?_; clear hK K'
          try simp only [Act.put, List.setIfInBounds_toArray, List.set_cons_zero, List.set_cons_succ]
          refine AnyJ.two (i := 7) (j := 9) (o := { dst := some 30, op := Op.call { callee := Callee.builtin Builtin.append, args := #[Operand.tmp 27, Operand.tmp 29], argTypes := #[46, 46] }, type := 46, pos := "law.go:27", after := #[{ on := 4, ground := .data }, { on := 6, ground := .data }], guard := none }) (p := { dst := some 32, op := Op.buildSlice 46 1 #[(0, Operand.tmp 31)], type := 46, pos := "law.go:27", after := #[{ on := 8, ground := .data }], guard := none }) ?p2 ?q2 ?r2 ?h79 ?h97
          case p2 => kernel_rfl
          case q2 => rfl
          case r2 => rfl
          case h79 =>
            intro K' hK
            refine step_append_room_reads _ rfl (.tmp 27) (.tmp 29) 46 rfl w.heap.size 50 j0 2 Tryd.underlying46 hj0 hy1 (wA.heap.size) 0 (rs.length + 1) [] rfl (o4) S B rs.length c' (pairv rs) rfl (HRA.out.upd (U4) (fun _ _ => not_nob)) HP1.out (by omega) rs.length (by omega) ?_
            intro w7 o7 g7; rw [List.nil_append] at o7
            have U7 := (U4).grown g7 (fun b hb h => by injection hb with hb; omega)
            refine hK.out _ _ (.inr ((HSL.out _ U7).cellv rfl)) ?_; clear hK K'
            try simp only [Act.put, List.setIfInBounds_toArray, List.set_cons_zero, List.set_cons_succ]
            refine AnyJ.one (i := 9) (o := { dst := some 32, op := Op.buildSlice 46 1 #[(0, Operand.tmp 31)], type := 46, pos := "law.go:27", after := #[{ on := 8, ground := .data }], guard := none }) ?p3 ?q3 ?_
            case p3 => kernel_rfl
            case q3 => rfl
            intro K' hK
            go_simp
            have U9 := (U7).alloc (.cells #[.int .i64 (-77), .int .i64 0] 50)
            refine hK.out _ _ (.inr ((HSL.out _ U9).cellv rfl)) ?_; clear hK K'
            try simp only [Act.put, List.setIfInBounds_toArray, List.set_cons_zero, List.set_cons_succ]
            refine AnyJ.one (i := 10) (o := { dst := some 33, op := Op.call { callee := Callee.builtin Builtin.append, args := #[Operand.tmp 30, Operand.tmp 32], argTypes := #[46, 46] }, type := 46, pos := "law.go:27", after := #[{ on := 7, ground := .data }, { on := 9, ground := .data }, { on := 7, ground := .chain }], guard := none }) ?p4 ?q4 ?_
            case p4 => kernel_rfl
            case q4 => rfl
            intro K' hK
            refine step_append_room_reads _ rfl (.tmp 30) (.tmp 32) 46 rfl w.heap.size 50 j0 2 Tryd.underlying46 hj0 hy1 (wA.heap.size) rs.length (rs.length + 1) (pairv rs) rfl (own_upd o7 (F := Nob) ((Upd.refl _ _).alloc _) (fun _ _ => not_nob)) (fun b => b = w7.heap.size) (some ⟨w7.heap.size, 0, none⟩) 1 1 [.int .i64 (-77), .int .i64 0] rfl (reads_mark w7) (by intro u hu; simp at hu; rcases hu with rfl | rfl <;> rfl) (by omega) (rs.length + 1) (by omega) ?_
            intro w10 o10 g10
            have U10 := (U9).grown g10 (fun b hb h => by injection hb with hb; omega)
            refine hK.out _ _ (.inr ((HSL.out _ U10).cellv rfl)) ?_; clear hK K'
            try simp only [Act.put, List.setIfInBounds_toArray, List.set_cons_zero, List.set_cons_succ]
            have CXS := HSL.out _ U10
            have x4 : w10.cell? ⟨xb, 0 + 4, none⟩ = some (.slice B rs.length c') := CXS.cellv rfl
            refine AnyJ.take (i := 14) (oi := { dst := some 37, op := Op.slice 46 (Operand.tmp 33) none (some (Operand.tmp 36)) none, type := 46, pos := "law.go:27", after := #[{ on := 10, ground := .data }, { on := 13, ground := .data }], guard := none }) (v := ?v14n11) ?a14n11 ?b14n11 ?c14n11 ?d14n11 ?e14n11 (fun _ _ _ h => h) (Or.inl ⟨?f14n11, ?y14n11⟩) (by assumption) ?r14n11
            case a14n11 => rfl
            case b14n11 => kernel_rfl
            case c14n11 => kernel_rfl
            case d14n11 => kernel_rfl
            case e14n11 => kernel_rfl
            case f14n11 => rfl
            case y14n11 => (intro w' hSw; (try dsimp only at hSw); go_simp; try with_reducible rfl)
            try simp only [Act.put, List.setIfInBounds_toArray, List.set_cons_zero, List.set_cons_succ]
            refine AnyJ.take (i := 15) (oi := { dst := some 38, op := Op.fieldAddr 48 (Operand.tmp 5) 4, type := 0, pos := "law.go:27", after := #[{ on := 0, ground := .phase }, { on := 1, ground := .phase }, { on := 2, ground := .phase }, { on := 3, ground := .phase }, { on := 4, ground := .phase }, { on := 5, ground := .phase }, { on := 6, ground := .phase }, { on := 7, ground := .phase }, { on := 8, ground := .phase }, { on := 9, ground := .phase }, { on := 10, ground := .phase }, { on := 11, ground := .phase }, { on := 12, ground := .phase }, { on := 13, ground := .phase }, { on := 14, ground := .phase }], guard := none }) (v := ?v15n12) ?a15n12 ?b15n12 ?c15n12 ?d15n12 ?e15n12 (fun _ _ _ h => h) (Or.inl ⟨?f15n12, ?y15n12⟩) (by assumption) ?r15n12
            case a15n12 => rfl
            case b15n12 => kernel_rfl
            case c15n12 => kernel_rfl
            case d15n12 => kernel_rfl
            case e15n12 => kernel_rfl
            case f15n12 => rfl
            case y15n12 => (intro w' hSw; (try dsimp only at hSw); go_simp; try with_reducible rfl)
            try simp only [Act.put, List.setIfInBounds_toArray, List.set_cons_zero, List.set_cons_succ]
            refine AnyJ.one (i := 16) (o := { dst := none, op := Op.store 46 (Operand.tmp 38) (Operand.tmp 37), type := 0, pos := "law.go:27", after := #[{ on := 15, ground := .data }, { on := 14, ground := .data }, { on := 10, ground := .chain }, { on := 0, ground := .phase }, { on := 1, ground := .phase }, { on := 2, ground := .phase }, { on := 3, ground := .phase }, { on := 4, ground := .phase }, { on := 5, ground := .phase }, { on := 6, ground := .phase }, { on := 7, ground := .phase }, { on := 8, ground := .phase }, { on := 9, ground := .phase }, { on := 10, ground := .phase }, { on := 11, ground := .phase }, { on := 12, ground := .phase }, { on := 13, ground := .phase }, { on := 14, ground := .phase }], guard := none }) ?p5 ?q5 ?_
            case p5 => kernel_rfl
            case q5 => rfl
            intro K' hK
            have z4 : w10.frozen? ⟨xb, 0 + 4, none⟩ = false := CXS.frozen _
            go_simp
            refine hK.out _ _ (.inl rfl) ?_; clear hK K'
            refine AnyJ.done ?_ ?_ _
            · kernel_rfl
            go_wp2_with fail
            go_meet
            exact ⟨wA.heap.size, by omega, by omega, own_far (by unfold lentRanges; rw [pairv_append]; exact o10) _ _ (by simp [Value.ownBlock]; omega), CXS.set_ 4 _, (U10.mono (G := fun b => b = xb) (fun _ _ h => absurd h not_nob)).setCell _ _ (fun _ => rfl)⟩
          case h97 =>
            intro K' hK
            go_simp
            have U9 := (U4).alloc (.cells #[.int .i64 (-77), .int .i64 0] 50)
            refine hK.out _ _ (.inr ((HSL.out _ U9).cellv rfl)) ?_; clear hK K'
            try simp only [Act.put, List.setIfInBounds_toArray, List.set_cons_zero, List.set_cons_succ]
            have hA4 := U4.size
            refine AnyJ.one (i := 7) (o := { dst := some 30, op := Op.call { callee := Callee.builtin Builtin.append, args := #[Operand.tmp 27, Operand.tmp 29], argTypes := #[46, 46] }, type := 46, pos := "law.go:27", after := #[{ on := 4, ground := .data }, { on := 6, ground := .data }], guard := none }) ?p6 ?q6 ?_
            case p6 => kernel_rfl
            case q6 => rfl
            intro K' hK
            refine step_append_room_reads _ rfl (.tmp 27) (.tmp 29) 46 rfl w.heap.size 50 j0 2 Tryd.underlying46 hj0 hy1 (wA.heap.size) 0 (rs.length + 1) [] rfl (own_upd o4 (F := Nob) ((Upd.refl _ _).alloc _) (fun _ _ => not_nob)) S B rs.length c' (pairv rs) rfl (HRA.out.upd (U9) (fun _ _ => not_nob)) HP1.out (by omega) rs.length (by omega) ?_
            intro w7 o7 g7; rw [List.nil_append] at o7
            have U7 := (U9).grown g7 (fun b hb h => by injection hb with hb; omega)
            refine hK.out _ _ (.inr ((HSL.out _ U7).cellv rfl)) ?_; clear hK K'
            try simp only [Act.put, List.setIfInBounds_toArray, List.set_cons_zero, List.set_cons_succ]
            refine AnyJ.one (i := 10) (o := { dst := some 33, op := Op.call { callee := Callee.builtin Builtin.append, args := #[Operand.tmp 30, Operand.tmp 32], argTypes := #[46, 46] }, type := 46, pos := "law.go:27", after := #[{ on := 7, ground := .data }, { on := 9, ground := .data }, { on := 7, ground := .chain }], guard := none }) ?p7 ?q7 ?_
            case p7 => kernel_rfl
            case q7 => rfl
            intro K' hK
            refine step_append_room_reads _ rfl (.tmp 30) (.tmp 32) 46 rfl w.heap.size 50 j0 2 Tryd.underlying46 hj0 hy1 (wA.heap.size) rs.length (rs.length + 1) (pairv rs) rfl (o7) (fun b => b = w4.heap.size) (some ⟨w4.heap.size, 0, none⟩) 1 1 [.int .i64 (-77), .int .i64 0] rfl ((reads_mark w4).upd ((Upd.refl (fun b => b = wA.heap.size) _).grown g7 (fun b hb _ => by injection hb with hb; exact hb.symm)) (fun b hb e => by omega)) (by intro u hu; simp at hu; rcases hu with rfl | rfl <;> rfl) (by omega) (rs.length + 1) (by omega) ?_
            intro w10 o10 g10
            have U10 := (U7).grown g10 (fun b hb h => by injection hb with hb; omega)
            refine hK.out _ _ (.inr ((HSL.out _ U10).cellv rfl)) ?_; clear hK K'
            try simp only [Act.put, List.setIfInBounds_toArray, List.set_cons_zero, List.set_cons_succ]
            have CXS := HSL.out _ U10
            have x4 : w10.cell? ⟨xb, 0 + 4, none⟩ = some (.slice B rs.length c') := CXS.cellv rfl
            refine AnyJ.take (i := 14) (oi := { dst := some 37, op := Op.slice 46 (Operand.tmp 33) none (some (Operand.tmp 36)) none, type := 46, pos := "law.go:27", after := #[{ on := 10, ground := .data }, { on := 13, ground := .data }], guard := none }) (v := ?v14n13) ?a14n13 ?b14n13 ?c14n13 ?d14n13 ?e14n13 (fun _ _ _ h => h) (Or.inl ⟨?f14n13, ?y14n13⟩) (by assumption) ?r14n13
            case a14n13 => rfl
            case b14n13 => kernel_rfl
            case c14n13 => kernel_rfl
            case d14n13 => kernel_rfl
            case e14n13 => kernel_rfl
            case f14n13 => rfl
            case y14n13 => (intro w' hSw; (try dsimp only at hSw); go_simp; try with_reducible rfl)
            try simp only [Act.put, List.setIfInBounds_toArray, List.set_cons_zero, List.set_cons_succ]
            refine AnyJ.take (i := 15) (oi := { dst := some 38, op := Op.fieldAddr 48 (Operand.tmp 5) 4, type := 0, pos := "law.go:27", after := #[{ on := 0, ground := .phase }, { on := 1, ground := .phase }, { on := 2, ground := .phase }, { on := 3, ground := .phase }, { on := 4, ground := .phase }, { on := 5, ground := .phase }, { on := 6, ground := .phase }, { on := 7, ground := .phase }, { on := 8, ground := .phase }, { on := 9, ground := .phase }, { on := 10, ground := .phase }, { on := 11, ground := .phase }, { on := 12, ground := .phase }, { on := 13, ground := .phase }, { on := 14, ground := .phase }], guard := none }) (v := ?v15n14) ?a15n14 ?b15n14 ?c15n14 ?d15n14 ?e15n14 (fun _ _ _ h => h) (Or.inl ⟨?f15n14, ?y15n14⟩) (by assumption) ?r15n14
            case a15n14 => rfl
            case b15n14 => kernel_rfl
            case c15n14 => kernel_rfl
            case d15n14 => kernel_rfl
            case e15n14 => kernel_rfl
            case f15n14 => rfl
            case y15n14 => (intro w' hSw; (try dsimp only at hSw); go_simp; try with_reducible rfl)
            try simp only [Act.put, List.setIfInBounds_toArray, List.set_cons_zero, List.set_cons_succ]
            refine AnyJ.one (i := 16) (o := { dst := none, op := Op.store 46 (Operand.tmp 38) (Operand.tmp 37), type := 0, pos := "law.go:27", after := #[{ on := 15, ground := .data }, { on := 14, ground := .data }, { on := 10, ground := .chain }, { on := 0, ground := .phase }, { on := 1, ground := .phase }, { on := 2, ground := .phase }, { on := 3, ground := .phase }, { on := 4, ground := .phase }, { on := 5, ground := .phase }, { on := 6, ground := .phase }, { on := 7, ground := .phase }, { on := 8, ground := .phase }, { on := 9, ground := .phase }, { on := 10, ground := .phase }, { on := 11, ground := .phase }, { on := 12, ground := .phase }, { on := 13, ground := .phase }, { on := 14, ground := .phase }], guard := none }) ?p8 ?q8 ?_
            case p8 => kernel_rfl
            case q8 => rfl
            intro K' hK
            have z4 : w10.frozen? ⟨xb, 0 + 4, none⟩ = false := CXS.frozen _
            go_simp
            refine hK.out _ _ (.inl rfl) ?_; clear hK K'
            refine AnyJ.done ?_ ?_ _
            · kernel_rfl
            go_wp2_with fail
            go_meet
            exact ⟨wA.heap.size, by omega, by omega, own_far (by unfold lentRanges; rw [pairv_append]; exact o10) _ _ (by simp [Value.ownBlock]; omega), CXS.set_ 4 _, (U10.mono (G := fun b => b = xb) (fun _ _ h => absurd h not_nob)).setCell _ _ (fun _ => rfl)⟩
        case h94 =>
          intro K' hK
          go_simp
          have U9 := (U0).alloc (.cells #[.int .i64 (-77), .int .i64 0] 50)
          refine hK.out _ _ (.inr ((HSL.out _ U9).cellv rfl)) ?_; clear hK K'
          try simp only [Act.put, List.setIfInBounds_toArray, List.set_cons_zero, List.set_cons_succ]
          refine AnyJ.one (i := 4) (o := { dst := some 27, op := Op.makeSlice 46 (Operand.const (Value.int IntKind.i64 0)) (Operand.tmp 26), type := 46, pos := "law.go:27", after := #[{ on := 3, ground := .data }], guard := none }) ?p9 ?q9 ?_
          case p9 => kernel_rfl
          case q9 => rfl
          intro K' hK
          refine step_make_own (wA.drew.alloc (.cells #[.int .i64 (-77), .int .i64 0] 50)) rfl _ (.tmp 26) 46 rfl w.heap.size 50 j0 _ 2 Tryd.underlying46 hj0 hy0 hy1 .i64 .i64 ((rs.length : Int) + 1) (rs.length + 1) rfl rfl (by omega) (by rw [hy2]; omega) (by unfold maxLen; omega) (by have := (U9).size; omega) ?_
          intro w4 o4 g4
          have U4 := (U9).grown g4 (by simp)
          have hl4 : (wA.drew.alloc (.cells #[.int .i64 (-77), .int .i64 0] 50)).heap.size < w4.heap.size := (o4.lt _ rfl).2
          refine hK.out _ _ (.inr ((HSL.out _ U4).cellv rfl)) ?_; clear hK K'
          try simp only [Act.put, List.setIfInBounds_toArray, List.set_cons_zero, List.set_cons_succ]
          have hsz : (wA.drew.alloc (.cells #[.int .i64 (-77), .int .i64 0] 50)).heap.size = wA.heap.size + 1 := World.size_alloc _ _
          have hm9 := (reads_mark wA.drew).upd ((Upd.refl Nob _).grown g4 (by simp)) (fun _ _ => not_nob)
          generalize (wA.drew.alloc (.cells #[.int .i64 (-77), .int .i64 0] 50)).heap.size = gl at *
          refine AnyJ.one (i := 7) (o := { dst := some 30, op := Op.call { callee := Callee.builtin Builtin.append, args := #[Operand.tmp 27, Operand.tmp 29], argTypes := #[46, 46] }, type := 46, pos := "law.go:27", after := #[{ on := 4, ground := .data }, { on := 6, ground := .data }], guard := none }) ?p10 ?q10 ?_
          case p10 => kernel_rfl
          case q10 => rfl
          intro K' hK
          refine step_append_room_reads _ rfl (.tmp 27) (.tmp 29) 46 rfl w.heap.size 50 j0 2 Tryd.underlying46 hj0 hy1 (gl) 0 (rs.length + 1) [] rfl (o4) S B rs.length c' (pairv rs) rfl (HRA.out.upd (U4) (fun _ _ => not_nob)) HP1.out (by omega) rs.length (by omega) ?_
          intro w7 o7 g7; rw [List.nil_append] at o7
          have U7 := (U4).grown g7 (fun b hb h => by injection hb with hb; omega)
          refine hK.out _ _ (.inr ((HSL.out _ U7).cellv rfl)) ?_; clear hK K'
          try simp only [Act.put, List.setIfInBounds_toArray, List.set_cons_zero, List.set_cons_succ]
          refine AnyJ.one (i := 10) (o := { dst := some 33, op := Op.call { callee := Callee.builtin Builtin.append, args := #[Operand.tmp 30, Operand.tmp 32], argTypes := #[46, 46] }, type := 46, pos := "law.go:27", after := #[{ on := 7, ground := .data }, { on := 9, ground := .data }, { on := 7, ground := .chain }], guard := none }) ?p11 ?q11 ?_
          case p11 => kernel_rfl
          case q11 => rfl
          intro K' hK
          refine step_append_room_reads _ rfl (.tmp 30) (.tmp 32) 46 rfl w.heap.size 50 j0 2 Tryd.underlying46 hj0 hy1 (gl) rs.length (rs.length + 1) (pairv rs) rfl (o7) (fun b => b = wA.drew.heap.size) (some ⟨wA.drew.heap.size, 0, none⟩) 1 1 [.int .i64 (-77), .int .i64 0] rfl (hm9.upd ((Upd.refl (fun b => b = gl) _).grown g7 (fun b hb _ => by injection hb with hb; exact hb.symm)) (fun b hb e => by have h1 : b = wA.heap.size := hb; omega)) (by intro u hu; simp at hu; rcases hu with rfl | rfl <;> rfl) (by omega) (rs.length + 1) (by omega) ?_
          intro w10 o10 g10
          have U10 := (U7).grown g10 (fun b hb h => by injection hb with hb; omega)
          refine hK.out _ _ (.inr ((HSL.out _ U10).cellv rfl)) ?_; clear hK K'
          try simp only [Act.put, List.setIfInBounds_toArray, List.set_cons_zero, List.set_cons_succ]
          have CXS := HSL.out _ U10
          have x4 : w10.cell? ⟨xb, 0 + 4, none⟩ = some (.slice B rs.length c') := CXS.cellv rfl
          refine AnyJ.take (i := 14) (oi := { dst := some 37, op := Op.slice 46 (Operand.tmp 33) none (some (Operand.tmp 36)) none, type := 46, pos := "law.go:27", after := #[{ on := 10, ground := .data }, { on := 13, ground := .data }], guard := none }) (v := ?v14n15) ?a14n15 ?b14n15 ?c14n15 ?d14n15 ?e14n15 (fun _ _ _ h => h) (Or.inl ⟨?f14n15, ?y14n15⟩) (by assumption) ?r14n15
          case a14n15 => rfl
          case b14n15 => kernel_rfl
          case c14n15 => kernel_rfl
          case d14n15 => kernel_rfl
          case e14n15 => kernel_rfl
          case f14n15 => rfl
          case y14n15 => (intro w' hSw; (try dsimp only at hSw); go_simp; try with_reducible rfl)
          try simp only [Act.put, List.setIfInBounds_toArray, List.set_cons_zero, List.set_cons_succ]
          refine AnyJ.take (i := 15) (oi := { dst := some 38, op := Op.fieldAddr 48 (Operand.tmp 5) 4, type := 0, pos := "law.go:27", after := #[{ on := 0, ground := .phase }, { on := 1, ground := .phase }, { on := 2, ground := .phase }, { on := 3, ground := .phase }, { on := 4, ground := .phase }, { on := 5, ground := .phase }, { on := 6, ground := .phase }, { on := 7, ground := .phase }, { on := 8, ground := .phase }, { on := 9, ground := .phase }, { on := 10, ground := .phase }, { on := 11, ground := .phase }, { on := 12, ground := .phase }, { on := 13, ground := .phase }, { on := 14, ground := .phase }], guard := none }) (v := ?v15n16) ?a15n16 ?b15n16 ?c15n16 ?d15n16 ?e15n16 (fun _ _ _ h => h) (Or.inl ⟨?f15n16, ?y15n16⟩) (by assumption) ?r15n16
          case a15n16 => rfl
          case b15n16 => kernel_rfl
          case c15n16 => kernel_rfl
          case d15n16 => kernel_rfl
          case e15n16 => kernel_rfl
          case f15n16 => rfl
          case y15n16 => (intro w' hSw; (try dsimp only at hSw); go_simp; try with_reducible rfl)
          try simp only [Act.put, List.setIfInBounds_toArray, List.set_cons_zero, List.set_cons_succ]
          refine AnyJ.one (i := 16) (o := { dst := none, op := Op.store 46 (Operand.tmp 38) (Operand.tmp 37), type := 0, pos := "law.go:27", after := #[{ on := 15, ground := .data }, { on := 14, ground := .data }, { on := 10, ground := .chain }, { on := 0, ground := .phase }, { on := 1, ground := .phase }, { on := 2, ground := .phase }, { on := 3, ground := .phase }, { on := 4, ground := .phase }, { on := 5, ground := .phase }, { on := 6, ground := .phase }, { on := 7, ground := .phase }, { on := 8, ground := .phase }, { on := 9, ground := .phase }, { on := 10, ground := .phase }, { on := 11, ground := .phase }, { on := 12, ground := .phase }, { on := 13, ground := .phase }, { on := 14, ground := .phase }], guard := none }) ?p12 ?q12 ?_
          case p12 => kernel_rfl
          case q12 => rfl
          intro K' hK
          have z4 : w10.frozen? ⟨xb, 0 + 4, none⟩ = false := CXS.frozen _
          go_simp
          refine hK.out _ _ (.inl rfl) ?_; clear hK K'
          refine AnyJ.done ?_ ?_ _
          · kernel_rfl
          go_wp2_with fail
          go_meet
          subst hsz
          exact ⟨wA.heap.size + 1, by omega, by omega, own_far (by unfold lentRanges; rw [pairv_append]; exact o10) _ _ (by simp [Value.ownBlock]; omega), CXS.set_ 4 _, (U10.mono (G := fun b => b = xb) (fun _ _ h => absurd h not_nob)).setCell _ _ (fun _ => rfl)⟩
      case rest =>
        obtain ⟨gl, hgw, hgx, ol, CX2, hUc⟩ := hcut
        have HGW := hideP hgw
        have hgl : w3.heap.size ≤ gl := by have := hUA.size; omega
        clear hgw
        have hx4 := CX2.lt
        have HUX := hideP (hUA.trans hUc (fun b hb h => absurd h (by have := HK.out; omega)))
        have hLc := hLa.upd (by omega) hUc (by omega) (fun i hi => by
          have h1 := hLa.done i _ hi (List.getElem?_eq_getElem (show i < is.length by omega))
          have h2 := own_ne h1.2 CX (by decide)
          simpa [Value.ownBlock] using h2)
        have l0 : wc.cell? ⟨xb, 0, none⟩ = some (.int .i64 op) := CX2.cellv rfl
        have l1 : wc.cell? ⟨xb, 0 + 1, none⟩ = some (.int .i64 xx) := CX2.cellv rfl
        have l2 : wc.cell? ⟨xb, 0 + 2, none⟩ = some (.int .i64 yy) := CX2.cellv rfl
        have l3 : wc.cell? ⟨xb, 0 + 3, none⟩ = some (.int .i64 arg) := CX2.cellv rfl
        have l4 : wc.cell? ⟨xb, 0 + 4, none⟩ = some (.slice (some ⟨gl, 0, none⟩) rs.length (rs.length + 1)) := CX2.cellv rfl
        have ho5 := hLc.own (by omega) (by unfold maxLen; omega)
        have hUal := (Upd.refl Nob wc).alloc (.cells (instCells ⟨op, xx, yy, arg, rs⟩ (some ⟨gl, 0, none⟩) rs.length (rs.length + 1)) 48)
        have HLC := hideP (hLc.old (by omega) hUal (fun _ _ => not_nob))
        have HOL := hideP (own_upd ol hUal (fun _ _ => not_nob))
        have HO5 := hideP (own_upd ho5 hUal (fun _ _ => not_nob))
        have HNG := hideP (show ∀ i, i < k → gr i ≠ gl from fun i hi e => by
          have h1 := hLa.lt (by omega) hi
          have h2 := HGW.out
          omega)
        have HU9 := hideP (HUX.out.trans hUal (fun _ _ h => absurd h not_nob))
        clear hUal hLc ol ho5 hLa CX CBa hRa hUA hUc CX2
        go_wp2_with (at_builtin; refine wpList_append_own_spare _ rfl (.tmp 39) (.tmp 41) 22 rfl w.heap.size 48 i0 5 Tryd.underlying22 hi0 hz1 ga k (is.length + 1) _ rfl HO5.out ⟨wc.heap.size, 0, none⟩ 1 1 ((instCells ⟨op, xx, yy, arg, rs⟩ (some ⟨gl, 0, none⟩) rs.length (rs.length + 1))).toList rfl rfl (World.news_of_block (cs := (instCells ⟨op, xx, yy, arg, rs⟩ (some ⟨gl, 0, none⟩) rs.length (rs.length + 1))) (t := 48) (fr := (0, 0)) (heap_alloc_new wc _)) (by intro u hu; simp [instCells] at hu; rcases hu with rfl | rfl | rfl | rfl | rfl <;> rfl) (by omega) ?_; intro w9 o9 g9)
        obtain ⟨cs', hL9⟩ := HLC.out.more HX.out HOL.out HNG.out o9 g9
        have hk := HK.out
        go_roundg (is.length - (k + 1))
        case measure => omega
        case rel =>
          refine ⟨k + 1, _, _, by omega, rfl, by go_num, hL9, fun i hi => ?_, HU9.out.grown g9 (fun b hb _ => by injection hb with hb; exact hb.symm)⟩
          by_cases h : i = k
          · rw [if_pos h]; exact hgl
          · rw [if_neg h]; exact hgr i (by omega)
    · have hkn : k = is.length := by omega
      clear hk
      subst hkn
      have kg : ¬ (is.length : Int) < (is.length : Int) := by omega
      have ho5 := hL.own (Nat.le_refl _) (by unfold maxLen; omega)
      have hUal := (Upd.refl Nob wr).alloc (.cells #[.int .i64 (-77), .int .i64 0, .int .i64 0, .int .i64 0, .slice none 0 0] 48)
      have HLC := hideP (hL.old (Nat.le_refl _) hUal (fun _ _ => not_nob))
      have HO5 := hideP (own_upd ho5 hUal (fun _ _ => not_nob))
      have HU9 := hideP (hU.trans hUal (fun _ _ h => absurd h not_nob))
      have HC90 := hideP (HC0.out.upd HU9.out hb0)
      have HC91 := hideP (HC1.out.upd HU9.out (show w.heap.size + 1 ≠ ga by omega))
      have kk : (is.length : Int) ≤ (is.length : Int) + 1 := by omega
      clear hUal hL ho5 CB
      go_wp2_with (at_builtin; refine wpList_append_own_spare _ rfl (.tmp 43) (.tmp 45) 22 rfl w.heap.size 48 i0 5 Tryd.underlying22 hi0 hz1 ga is.length (is.length + 1) _ rfl HO5.out ⟨wr.heap.size, 0, none⟩ 1 1 (#[.int .i64 (-77), .int .i64 0, .int .i64 0, .int .i64 0, .slice none 0 0]).toList rfl rfl (World.news_of_block (cs := #[.int .i64 (-77), .int .i64 0, .int .i64 0, .int .i64 0, .slice none 0 0]) (t := 48) (fr := (0, 0)) (heap_alloc_new wr _)) (by intro u hu; simp at hu; rcases hu with rfl | rfl | rfl <;> rfl) (by omega) ?_; intro w9 o9 g9; have C09 := HC90.out.grown g9 (by simp; omega); have C19 := HC91.out.grown g9 (by simp; omega); have e0 := C09.cellv (i := 0) rfl; have e1 := C09.cellv (i := 0 + 1) rfl; have e2 := C09.cellv (i := 0 + 2) rfl; have f0 := C09.frozen 0; have d0 := C19.cellv (i := 0) rfl; have d1 := C19.cellv (i := 0 + 1) rfl; have d2 := C19.cellv (i := 0 + 2) rfl; have h0 := C19.frozen 0; have h1 := C19.frozen (0 + 1); have h2 := C19.frozen (0 + 2))
      obtain ⟨cs', hL9, hM⟩ := HLC.out.mark o9 g9
      have hU9 := HU9.out.grown g9 (fun b hb _ => by injection hb with hb; exact hb.symm)
      have HL9 := hideP hL9
      have HM := hideP hM
      have C15 : Cells ((((w9.setCell ⟨w.heap.size, 0, none⟩ (.slice (some ⟨ga, 0, none⟩) is.length (is.length + 1))).setCell ⟨w.heap.size + 1, 0, none⟩ (.slice (some ⟨ga, 0, none⟩) is.length (is.length + 1))).setCell ⟨w.heap.size + 1, 1, none⟩ (.int .i64 start)).setCell ⟨w.heap.size + 1, 2, none⟩ (.int .i64 caps)) (w.heap.size + 1) 24 #[(.slice (some ⟨ga, 0, none⟩) is.length (is.length + 1)), .int .i64 start, .int .i64 caps] := (((C19.far ⟨w.heap.size, 0, none⟩ (.slice (some ⟨ga, 0, none⟩) is.length (is.length + 1)) (by simp)).set_ 0 (.slice (some ⟨ga, 0, none⟩) is.length (is.length + 1))).set_ 1 (.int .i64 start)).set_ 2 (.int .i64 caps)
      have HL15 : LendR ((((w9.setCell ⟨w.heap.size, 0, none⟩ (.slice (some ⟨ga, 0, none⟩) is.length (is.length + 1))).setCell ⟨w.heap.size + 1, 0, none⟩ (.slice (some ⟨ga, 0, none⟩) is.length (is.length + 1))).setCell ⟨w.heap.size + 1, 1, none⟩ (.int .i64 start)).setCell ⟨w.heap.size + 1, 2, none⟩ (.int .i64 caps)) w.heap.size ga is gr _ is.length := HL9.out.upd (Nat.le_refl _) (((((Upd.refl (fun b => b = w.heap.size ∨ b = w.heap.size + 1) w9).setCell ⟨w.heap.size, 0, none⟩ (.slice (some ⟨ga, 0, none⟩) is.length (is.length + 1)) (fun _ => .inl rfl)).setCell ⟨w.heap.size + 1, 0, none⟩ (.slice (some ⟨ga, 0, none⟩) is.length (is.length + 1)) (fun _ => .inr rfl)).setCell ⟨w.heap.size + 1, 1, none⟩ (.int .i64 start) (fun _ => .inr rfl)).setCell ⟨w.heap.size + 1, 2, none⟩ (.int .i64 caps) (fun _ => .inr rfl)) (by omega) (fun i hi => by have := hgr i hi; omega)
      have HU15 : Upd Nob w ((((w9.setCell ⟨w.heap.size, 0, none⟩ (.slice (some ⟨ga, 0, none⟩) is.length (is.length + 1))).setCell ⟨w.heap.size + 1, 0, none⟩ (.slice (some ⟨ga, 0, none⟩) is.length (is.length + 1))).setCell ⟨w.heap.size + 1, 1, none⟩ (.int .i64 start)).setCell ⟨w.heap.size + 1, 2, none⟩ (.int .i64 caps)) := ((((HU3.out.trans hU9 (fun b hb h => absurd h (by omega))).setCell _ _ (fun h => absurd h (by simp))).setCell _ _ (fun h => absurd h (by simp))).setCell _ _ (fun h => absurd h (by simp))).setCell _ _ (fun h => absurd h (by simp))
      clear e0 e1 e2 f0 d0 d1 d2 h0 h1 h2
      generalize ((((w9.setCell ⟨w.heap.size, 0, none⟩ (.slice (some ⟨ga, 0, none⟩) is.length (is.length + 1))).setCell ⟨w.heap.size + 1, 0, none⟩ (.slice (some ⟨ga, 0, none⟩) is.length (is.length + 1))).setCell ⟨w.heap.size + 1, 1, none⟩ (.int .i64 start)).setCell ⟨w.heap.size + 1, 2, none⟩ (.int .i64 caps)) = w15 at *
      have e0 : w15.cell? ⟨w.heap.size + 1, 0, none⟩ = some (.slice (some ⟨ga, 0, none⟩) is.length (is.length + 1)) := C15.cellv rfl
      have e1 : w15.cell? ⟨w.heap.size + 1, 1, none⟩ = some (.int .i64 start) := C15.cellv rfl
      have e2 : w15.cell? ⟨w.heap.size + 1, 2, none⟩ = some (.int .i64 caps) := C15.cellv rfl
      refine bodyPost_ret (by simp [results, Tryd.results9, go_sem, e0, e1, e2]; try rfl) rfl ?_
      exact ⟨ga, gr, _, rfl, HL15, HM.out, HU15⟩
end Go.Proofs.YtdbdokjlcdogiaaDoor
