/-
  The walks of literal.New and literal.Next: the table of a row, the search by it.
-/
import Derived.Test.YtebbnjbgmcdbcaaRows
import Derived.Test.YtebbnjbgmcdbcaaView
import Derived.Test.YtebbnjbgmcdbcaaLaws
import Derived.Test.YtebbnjbgmcdbcaaPlain
import Derived.WalkSpells
import Derived.WalkLawsBesides
import Derived.RegionTactic
import Derived.Deep.RegionLaw
import Derived.Deep.DeepCutAuto
import Derived.Deep.LoopGhost
import Derived.ChangeAlike
import Derived.BigQuiet
import Derived.Deep.QuietTactic
import Derived.Outline
import Derived.PlainAid
namespace Go.Proofs.Ytebbnjbgmcdbcaa
open Go.RowKit
set_option linter.unusedVariables false

theorem add_zero_ (a : Addr) : a.add 0 = a := by simp [Addr.add]
theorem hide {p : Prop} (h : p) : Hid p := h
theorem info_int : (Try.prog.info? 3).map (fun i => (i.zero, i.size, i.bytes)) = some (some (.int .i64 0), 1, 8) := by kernel_rfl

/-- The finder at block fb: its row P, the table 'back' at block bb. -/
structure FindR (w : World) (base fb bb : Nat) (A : Option Addr) (c : Nat) (P back : List Int) : Prop where
  blk : Cells w fb 65 #[.slice A P.length c, .slice (some ⟨bb, 0, none⟩) (P.length + 1) (P.length + 1)]
  own : w.ownsRow base 3 1 (.slice A P.length c) P.length (intv P)
  at_ : w.ownsRow base 3 1 (.slice (some ⟨bb, 0, none⟩) (P.length + 1) (P.length + 1)) (P.length + 1) (intv back)
  apart : (Value.slice A P.length c).ownBlock ≠ some bb
  low : base ≤ fb

namespace FindR
variable {F : Nat → Prop} {w w' : World} {base fb bb : Nat} {A : Option Addr} {c : Nat} {P back : List Int}
theorem upd (h : FindR w base fb bb A c P back) (hU : Upd F w w') (hF : ∀ k, base ≤ k → ¬ F k) : FindR w' base fb bb A c P back :=
  ⟨h.blk.upd hU (hF _ h.low), own_upd h.own hU (fun k hk => hF k (h.own.lt k hk).1), own_upd h.at_ hU (fun k hk => hF k (h.at_.lt k hk).1), h.apart, h.low⟩
theorem drewN (h : FindR w base fb bb A c P back) (n : Nat) : FindR (w.drewN n) base fb bb A c P back := h.upd ((Upd.refl Nob w).drewN n) (fun _ _ => not_nob)
theorem len (h : FindR w base fb bb A c P back) : back.length = P.length + 1 := by have := h.at_.1; simpa [intv] using this
theorem store (h : FindR w base fb bb A c P back) (j : Nat) (x : Int) : FindR (w.setCell ⟨bb, j, none⟩ (.int .i64 x)) base fb bb A c P (back.set j x) := by
  have hne : fb ≠ bb := by
    have h2 := own_ne h.at_ h.blk (by decide)
    simp [Value.ownBlock] at h2
    omega
  refine ⟨h.blk.far _ _ hne, own_far h.own _ _ h.apart, ?_, h.apart, h.low⟩
  have := (h.at_.stored j (.int .i64 x)).1
  have e : (intv back).set j (.int .i64 x) = intv (back.set j x) := by simp [intv, List.map_set]
  rwa [e] at this
end FindR

def NewPost (w : World) (P : List Int) (e : Ending) (w' : World) : Prop :=
  ∃ fb bb A c back, e = .returned (.tuple #[.pointer (some ⟨fb, 0, none⟩), .int .i64 0]) ∧ FindR w' w.heap.size fb bb A c P back ∧ Table P back P.length ∧ Upd Nob w w'

section
variable {P : Program} {w : World}
/-- append of what reads as a list, at a step of a region that draws its order -/
theorem step_append_reads {ops : Array Oper} {o : Oper} {a : Act} {K : Act → World → Prop} {Q : Exit → Act → World → Prop} {E : Prop} (hgd : o.guard = none) (s x : Operand) (t : TypeId)
    (ho : o.op = .call { callee := .builtin .append, args := #[s, x], argTypes := #[t, t] })
    (base : Nat) (e : TypeId) (i : TypeInfo) (z : Value) (size bytes : Nat) (ht : P.underlying t = some (.slice e)) (hi : P.info? e = some i) (hz : i.zero = some z)
    (hsize : i.size = size) (hby : i.bytes = bytes) (hzs : z.cells.size = size) (hsz : 0 < size)
    (v : Value) (n : Nat) (xs : List Value) (hs : a.eval s = v) (hown : w.ownsRow base e size v n xs)
    (S : Nat → Prop) (A : Option Addr) (m c : Nat) (news : List Value) (hx : a.eval x = .slice A m c) (hr : Reads w S size A m news) (h1 : ∀ u ∈ news, u.oneCell' = true)
    (h63 : n + m ≤ maxLen) (hbytes : (n + m) * bytes ≤ 140737488355328) (hbase : base ≤ w.heap.size)
    (h : ∀ v' w', w'.ownsRow base e size v' (n + m) (xs ++ news) → w.grownBy w' v.ownBlock → (v'.ownBlock = v.ownBlock ∨ v'.ownBlock = some w.heap.size) → K (a.put o.dst v') w') :
    if Region.wanted o (yielded ops a.tmps) = true then Oper.wp P o a w K Q else E := by
  have hw : Region.wanted o (yielded ops a.tmps) = true := by simp [Region.wanted, hgd]
  rw [if_pos hw]
  obtain ⟨v', w', hrun, h2, h3, h4⟩ := run_append_reads (P := P) base t o.type e i z size bytes ht hi hz hsize hby hzs hsz v n xs hown S A m c news hr h1 h63 hbytes hbase
  unfold Oper.wp execOp
  simp only [ho, resolve, invoke, builtin, Sem.run_bind, Sem.run_pure, Result.andThen_ok, List.map_toArray, List.map_cons, List.map_nil, hs, hx, hrun]
  exact h v' w' h2 h3 h4
end

theorem zeros_intv (n : Nat) : (madeCells #[Value.int .i64 0] n).toList = intv (List.replicate n 0) := by
  rw [toList_madeCells_one]
  simp [intv]
theorem FindR.made {w3 : World} {base bb : Nat} {A : Option Addr} {c : Nat} {P : List Int} (o2 : w3.ownsRow base 3 1 (.slice A P.length c) P.length (intv P))
    (o3 : w3.ownsRow base 3 1 (.slice (some ⟨bb, 0, none⟩) (P.length + 1) (P.length + 1)) (P.length + 1) (madeCells #[Value.int .i64 0] (P.length + 1)).toList)
    (apart : (Value.slice A P.length c).ownBlock ≠ some bb) (hb : base ≤ w3.heap.size) (fb : Nat) (hfb : w3.heap.size = fb) :
    FindR (w3.alloc (.cells #[.slice A P.length c, .slice (some ⟨bb, 0, none⟩) (P.length + 1) (P.length + 1)] 65)) base fb bb A c P (List.replicate (P.length + 1) 0) := by
  subst hfb
  rw [zeros_intv] at o3
  exact ⟨Cells.new _ _ _, o2.alloc _, o3.alloc _, apart, hb⟩

set_option maxHeartbeats 1000000 in
theorem new_any (w : World) (S : Nat → Prop) (A : Option Addr) (n c : Nat) (P : List Int) (hr : Reads w S 1 A n (intv P)) (hn : n ≤ 4194304) :
    Calls Try.prog 19 #[.slice A n c] w (NewPost w P) := by
  obtain rfl : P.length = n := by have := hr.1; simpa [intv] using this
  obtain ⟨i0, hi0, hz0, hz1, hz2⟩ := info_parts info_int
  have hmk : ∀ (W : World), (Instr.makeSlice 29 (.int .i64 ((P.length : Int) + 1)) (.int .i64 ((P.length : Int) + 1))).run Try.prog W = .ok (.slice (some ⟨W.heap.size, 0, none⟩) (P.length + 1) (P.length + 1)) (W.alloc (.cells (madeCells #[Value.int .i64 0] (P.length + 1)) 3)) := by
    intro W
    have := run_make (P := Try.prog) W 29 3 i0 _ Try.underlying29 hi0 hz0 .i64 .i64 ((P.length : Int) + 1) ((P.length : Int) + 1) (by omega) (Int.le_refl _) (by rw [hz2]; omega) (by omega)
    rw [hz1, Nat.mul_one] at this
    exact this
  go_enter Try.func19, Try.ntmps19
  have hB : ∀ W : World, w.heap.size ≤ W.heap.size → (W.alloc (.cells #[] 3)).ownsRow w.heap.size 3 1 (.slice (some ⟨W.heap.size, 0, none⟩) 0 0) 0 [] := fun W hW => World.ownsRow_lit (size := 1) W #[] 0 hW (by unfold maxLen; omega) rfl
  have hB' : ∀ o, ((w.alloc o).alloc (.cells #[] 3)).ownsRow w.heap.size 3 1 (.slice (some ⟨w.heap.size + 1, 0, none⟩) 0 0) 0 [] := fun o => by
    have := hB (w.alloc o) (by simp)
    simpa using this
  have hw1 : IntKind.i64.wrap ((P.length : Int) + 1) = (P.length : Int) + 1 := by rw [IntKind.wrap_i64]; omega
  go_upto_region 3 with fail
  go_cut [4] from 10 to 18 (fun v4 wc => ∃ fb bb A' c', v4 = .pointer (some ⟨fb, 0, none⟩) ∧ FindR wc w.heap.size fb bb A' c' P (List.replicate (P.length + 1) 0) ∧ Upd Nob w wc)
  case first =>
    go_region_law ((refine step_append_reads rfl (.tmp 10) (.tmp 11) 29 rfl w.heap.size 3 i0 (.int .i64 0) 1 8 Try.underlying29 hi0 hz0 hz1 hz2 rfl (by decide) _ 0 [] (by rfl) (by first | exact (hB w (Nat.le_refl _)).drew | exact ((hB w (Nat.le_refl _)).alloc _).drew | exact (hB' _).drew) S A P.length c (intv P) (by rfl) (by first | exact (hr.alloc _).drew | exact ((hr.alloc _).alloc _).drew) (intv_one P) (by unfold maxLen; omega) (by omega) (by simp <;> omega) ?_; intro v2 w2 o2 g2 a2; simp only [Nat.zero_add, List.nil_append] at o2; obtain ⟨A2, c2, rfl⟩ := own_shape o2))
    all_goals clear hB hB' hmk
    all_goals go_wp2_with fail
    all_goals go_meet
    · have g : ((w.alloc (.cells #[] 3)).drew).grownBy w2 (some w.heap.size) := g2
      have hU2 : Upd Nob w w2 := (((Upd.refl Nob w).alloc _).drew).grown g (fun k hk h => by injection hk with hk; omega)
      have h2 := hU2.size
      refine ⟨w2.heap.size + 1, w2.heap.size, A2, c2, rfl, ?_, (hU2.alloc _).alloc _⟩
      refine FindR.made (o2.alloc _) ?_ (fun h => ?_) (by simp; omega) _ (by simp)
      · exact World.ownsRow_lit (size := 1) w2 _ _ h2 (by unfold maxLen; omega) (by simp [size_madeCells])
      · have := (o2.lt _ h).2
        omega
    · have g : ((w.alloc (.cells #[] 3)).alloc (.cells (madeCells #[Value.int .i64 0] (P.length + 1)) 3)).drew.grownBy w2 (some w.heap.size) := g2
      have a : (Value.slice A2 P.length c2).ownBlock = some w.heap.size ∨ (Value.slice A2 P.length c2).ownBlock = some ((w.alloc (.cells #[] 3)).alloc (.cells (madeCells #[Value.int .i64 0] (P.length + 1)) 3)).drew.heap.size := a2
      have hU2 : Upd Nob w w2 := ((((Upd.refl Nob w).alloc _).alloc _).drew).grown g (fun k hk h => by injection hk with hk; omega)
      have h2 := hU2.size
      refine ⟨w2.heap.size, w.heap.size + 1, A2, c2, rfl, ?_, hU2.alloc _⟩
      refine FindR.made o2 ?_ (fun h => ?_) h2 _ rfl
      · have o3 := (World.ownsRow_lit (base := w.heap.size) (e := 3) (size := 1) (w.alloc (.cells #[] 3)) (madeCells #[Value.int .i64 0] (P.length + 1)) (P.length + 1) (by simp) (by unfold maxLen; omega) (by simp [size_madeCells])).drew
        have e1 : (w.alloc (.cells #[] 3)).heap.size = w.heap.size + 1 := by simp
        rw [e1] at o3
        refine own_upd (F := fun k => k = w.heap.size) o3 ((Upd.refl _ _).grown g (fun k hk _ => by injection hk with hk; exact hk.symm)) (fun k hk => ?_)
        simp [Value.ownBlock] at hk
        omega
      · rw [h] at a
        simp at a
    · have g : ((w.alloc (.cells (madeCells #[Value.int .i64 0] (P.length + 1)) 3)).alloc (.cells #[] 3)).drew.grownBy w2 (some (w.heap.size + 1)) := g2
      have a : (Value.slice A2 P.length c2).ownBlock = some (w.heap.size + 1) ∨ (Value.slice A2 P.length c2).ownBlock = some ((w.alloc (.cells (madeCells #[Value.int .i64 0] (P.length + 1)) 3)).alloc (.cells #[] 3)).drew.heap.size := a2
      have hU2 : Upd Nob w w2 := ((((Upd.refl Nob w).alloc _).alloc _).drew).grown g (fun k hk h => by injection hk with hk; omega)
      have h2 := hU2.size
      refine ⟨w2.heap.size, w.heap.size, A2, c2, rfl, ?_, hU2.alloc _⟩
      refine FindR.made o2 ?_ (fun h => ?_) h2 _ rfl
      · have o3 := ((World.ownsRow_lit (base := w.heap.size) (e := 3) (size := 1) w (madeCells #[Value.int .i64 0] (P.length + 1)) (P.length + 1) (Nat.le_refl _) (by unfold maxLen; omega) (by simp [size_madeCells])).alloc (.cells #[] 3)).drew
        refine own_upd (F := fun k => k = w.heap.size + 1) o3 ((Upd.refl _ _).grown g (fun k hk _ => by injection hk with hk; exact hk.symm)) (fun k hk => ?_)
        simp [Value.ownBlock] at hk
        omega
      · rw [h] at a
        simp at a
        omega
  case rest =>
    obtain ⟨fb, bb, A2, c2, rfl, hF0, hU0⟩ := hcut
    have HR := hide hr
    clear hB hB' hmk hw1 hr
    go_wp2_with fail
    go_loopg [5, 6] (P.length - 1) (fun gk v5 v6 wr => ∃ (i k : Nat) (back : List Int), P.length - i = gk ∧ 1 ≤ i ∧ i ≤ 4194304 ∧ v5 = .int .i64 (k : Int) ∧ v6 = .int .i64 (i : Int) ∧ FindR wr w.heap.size fb bb A2 c2 P back ∧ Upd Nob w wr ∧ Table P back (min i P.length) ∧ IsMax P ((P.take i).drop 1) k ∧ k < i)
    case atStart =>
      refine ⟨1, 0, _, rfl, by omega, by omega, rfl, rfl, hF0, hU0, Table.start P, ?_, by omega⟩
      have : (P.take 1).drop 1 = [] := by apply List.drop_eq_nil_of_le; simp; omega
      rw [this]
      exact isMax_nil P
    case round =>
      obtain ⟨i, k, back, rfl, hi1, hi2, rfl, rfl, hF, hU, hT, hM, hk⟩ := hrel
      by_cases hlt : i < P.length
      · obtain ⟨ad, x, rfl, hx, hcx⟩ := (HR.out.upd hU (fun _ _ => not_nob)).int1 hlt
        have hx' : P[i]? = some x := hx
        have HX := hide hx'
        have e : min i P.length = i := by omega
        rw [e] at hT
        have hlen := hF.len
        have hblk : wr.cell? ⟨fb, 0 + 1, none⟩ = some (.slice (some ⟨bb, 0, none⟩) (P.length + 1) (P.length + 1)) := hF.blk.cellv rfl
        have fz : wr.frozen? ⟨bb, i + 1, none⟩ = false := hF.at_.frozenAt (i + 1)
        have cz : ∃ u, wr.cell? ⟨bb, i + 1, none⟩ = some u := by
          have := hF.at_.cellAt (i + 1) (by omega)
          rw [List.getElem?_eq_getElem (by rw [intv_length]; omega)] at this
          exact ⟨_, this⟩
        obtain ⟨u, cz⟩ := cz
        have HF := hide hF
        have HU := hide hU
        have HT := hide hT
        have Fall0 : Falls P ((P.take i).drop 1) x k := falls_of_max hM
        clear hF hU hT hM hx hx' e hlen
        go_wp2_with fail
        go_loopg [5] k (fun gk v5 wq => v5 = .int .i64 (gk : Int) ∧ (∃ q, wq = wr.drewN q) ∧ Falls P ((P.take i).drop 1) x gk ∧ gk < i)
        case atStart => exact ⟨rfl, ⟨0, rfl⟩, Fall0, hk⟩
        case round =>
          obtain ⟨rfl, ⟨q, rfl⟩, hf, hj⟩ := hrel
          obtain ⟨ad', y, e1, hy, hcy⟩ := (HR.out.upd HU.out (fun _ _ => not_nob)).int1 (k := gk) (by omega)
          injection e1 with e1
          subst e1
          have d1 : wr.cell? (ad.add i) = some (.int .i64 x) := hcx
          have d2 : wr.cell? (ad.add gk) = some (.int .i64 y) := hcy
          have HY := hide hy
          clear hcy hy Fall0
          have fin : ∀ (k' : Nat) (w5 : World) (q5 : Nat), w5 = (wr.drewN q5).setCell ⟨bb, i + 1, none⟩ (.int .i64 (k' : Int)) → k' ≤ i → IsMax P ((P.take i).drop 1 ++ [x]) k' →
              ∃ (back : List Int), FindR w5 w.heap.size fb bb A2 c2 P back ∧ Upd Nob w w5 ∧ Table P back (min (i + 1) P.length) ∧ IsMax P ((P.take (i + 1)).drop 1) k' := by
            rintro k' w5 q5 rfl hk' hm
            have e5 : (P.take (i + 1)).drop 1 = (P.take i).drop 1 ++ [x] := take_drop_succ hi1 HX.out
            refine ⟨_, (HF.out.drewN q5).store (i + 1) k', (HU.out.drewN q5).setCell _ _ (fun h => ?_), ?_, by rw [e5]; exact hm⟩
            · have := (HF.out.at_.lt bb rfl).1
              simp at h
              omega
            · have e6 : min (i + 1) P.length = i + 1 := by omega
              rw [e6]
              exact HT.out.more HF.out.len (by omega) (by omega) (by rw [e5]; exact hm)
          have hp0 : (0 : Int) < (P.length : Int) := by omega
          have g1 : (gk : Int) < (P.length : Int) := by omega
          by_cases hxy : x = y
          · subst hxy
            have hm := max_same hf HY.out
            by_cases h0 : gk = 0
            · subst h0
              have d0 : wr.cell? ad = some (.int .i64 x) := by rw [add_zero_] at d2; exact d2
              go_wp2_with fail
              go_quiet (fail)
              go_wp2_with fail
              go_quiet (fail)
              go_wp2_with fail
              go_roundg (P.length - (i + 1))
              case measure => omega
              case rel =>
                obtain ⟨back', f1, f2, f3, f4⟩ := fin (1) _ _ (by rfl) (by omega) hm
                exact ⟨i + 1, 1, back', rfl, by omega, by omega, by go_num, by go_num, f1, f2, f3, f4, by omega⟩
            · have h1 : 0 < gk := by omega
              go_wp2_with fail
              go_quiet (fail)
              go_wp2_with fail
              go_quiet (fail)
              go_wp2_with fail
              go_roundg (P.length - (i + 1))
              case measure => omega
              case rel =>
                obtain ⟨back', f1, f2, f3, f4⟩ := fin (gk + 1) _ _ (by rfl) (by omega) hm
                exact ⟨i + 1, gk + 1, back', rfl, by omega, by omega, by go_num, by go_num, f1, f2, f3, f4, by omega⟩
          · have hxe : (x == y) = false := by simpa using hxy
            by_cases h0 : gk = 0
            · subst h0
              have d0 : wr.cell? ad = some (.int .i64 y) := by rw [add_zero_] at d2; exact d2
              have hm := max_none hf HY.out hxy
              go_wp2_with fail
              go_quiet (fail)
              go_wp2_with fail
              go_quiet (fail)
              go_wp2_with fail
              go_roundg (P.length - (i + 1))
              case measure => omega
              case rel =>
                obtain ⟨back', f1, f2, f3, f4⟩ := fin (0) _ _ (by rfl) (by omega) hm
                exact ⟨i + 1, 0, back', rfl, by omega, by omega, by go_num, by go_num, f1, f2, f3, f4, by omega⟩
            · have h1 : 0 < gk := by omega
              obtain ⟨b, hb, hbl, hbm⟩ := HT.out gk (by omega) (by omega)
              have hfb := falls_back hf HY.out hxy hbm (by omega)
              have db : wr.cell? ⟨bb, gk, none⟩ = some (.int .i64 (b : Int)) := by
                rw [HF.out.at_.cellAt gk (by omega)]
                exact intv_at hb
              clear hb hbm
              go_wp2_with fail
              go_quiet (fail)
              go_wp2_with fail
              go_roundg b
              case measure => omega
              case rel => exact ⟨rfl, ⟨_, by first | rfl | rw [World.drewN_drewN]⟩, hfb, by omega⟩
      · go_wp2_with fail
        go_ret2
        have e : min i P.length = P.length := by omega
        rw [e] at hT
        exact ⟨fb, bb, A2, c2, back, rfl, hF, hT, hU⟩

theorem nextOf_empty {text : List Int} {a : Nat} (ha : a ≤ text.length) : nextOf [] text (a : Int) = a := by
  have := nextOf_some (P := []) (text := text) (a := a) (i := a) (Nat.le_refl _) (by simp [standsB]; exact ha) (fun s h1 h2 => by omega)
  rw [this]

set_option maxHeartbeats 1000000 in
theorem next_any (w : World) (base fb bb : Nat) (A : Option Addr) (c : Nat) (P back : List Int) (hF : FindR w base fb bb A c P back) (hT : Table P back P.length) (hP : P.length ≤ 4194304)
    (S : Nat → Prop) (T : Option Addr) (m d : Nat) (text : List Int) (hr : Reads w S 1 T m (intv text)) (hm : m ≤ 140737488355328) (at_ : Int) (hat : In64 at_) :
    Calls Try.prog 22 #[.pointer (some ⟨fb, 0, none⟩), .slice T m d, .int .i64 at_] w fun e w' => e = .returned (.int .i64 (nextOf P text at_)) ∧ ∃ q, w' = w.drewN q := by
  obtain rfl : text.length = m := by have := hr.1; simpa [intv] using this
  have h1 := hat.1
  have h2 := hat.2
  have e0 : w.cell? ⟨fb, 0, none⟩ = some (.slice A P.length c) := hF.blk.cellv rfl
  have e1 : w.cell? ⟨fb, 0 + 1, none⟩ = some (.slice (some ⟨bb, 0, none⟩) (P.length + 1) (P.length + 1)) := hF.blk.cellv rfl
  by_cases hlow : at_ < 0
  · rw [nextOf_out (.inl hlow)]
    go_enter Try.func22, Try.ntmps22
    go_wp2_with fail
    go_ret
    exact ⟨rfl, 0, rfl⟩
  obtain ⟨a, rfl⟩ := Int.eq_ofNat_of_zero_le (by omega : 0 ≤ at_)
  by_cases hhigh : text.length < a
  · rw [nextOf_out (.inr (by omega))]
    go_enter Try.func22, Try.ntmps22
    go_wp2_with fail
    go_ret
    exact ⟨rfl, 0, rfl⟩
  have ha : a ≤ text.length := by omega
  by_cases hp : P.length = 0
  · have hP0 : P = [] := List.eq_nil_of_length_eq_zero hp
    subst hP0
    rw [nextOf_empty ha]
    have e0' : w.cell? ⟨fb, 0, none⟩ = some (.slice A 0 c) := e0
    clear e0
    go_enter Try.func22, Try.ntmps22
    go_wp2_with fail
    go_ret
    exact ⟨rfl, 0, rfl⟩
  have hpp : ((P.length : Int) == 0) = false := beq_eq_false_iff_ne.2 (by omega)
  have hpos : 0 < P.length := by omega
  have hlit := Reads.of_own hF.own
  obtain ⟨ad, x0, rfl, -, -⟩ := hlit.int1 hpos
  have hp0 : (0 : Int) < (P.length : Int) := by omega
  have HR := hide hr
  have HL := hide hlit
  have HF := hide hF
  have HT := hide hT
  clear hr hlit hF hT
  go_enter Try.func22, Try.ntmps22
  go_wp2_with fail
  go_loopg [7, 8] (text.length - a) (fun gk v7 v8 wr => ∃ (i k q : Nat), text.length - i = gk ∧ v7 = .int .i64 (k : Int) ∧ v8 = .int .i64 (i : Int) ∧ wr = w.drewN q ∧ Reading P text a i k ∧ k < P.length ∧ i ≤ text.length)
  case atStart => exact ⟨a, 0, 0, rfl, rfl, rfl, rfl, reading_zero hpos, hpos, ha⟩
  case round =>
    obtain ⟨i, k, q, rfl, rfl, rfl, rfl, hR, hk, hi⟩ := hrel
    by_cases hlt : i < text.length
    · obtain ⟨td, x, rfl, hx, hcx⟩ := HR.out.int1 hlt
      have HX := hide hx
      have HG := hide hR
      have Fall0 : Falls P ((text.take i).drop a) x k := falls_of_max hR.max
      have t1 : (i : Int) < (text.length : Int) := by omega
      clear hx hR
      go_wp2_with fail
      go_loopg [7] k (fun gk v7 wq => v7 = .int .i64 (gk : Int) ∧ (∃ q, wq = w.drewN q) ∧ Falls P ((text.take i).drop a) x gk ∧ gk < P.length)
      case atStart => exact ⟨rfl, ⟨q, rfl⟩, Fall0, hk⟩
      case round =>
        obtain ⟨rfl, ⟨q1, rfl⟩, hf, hj⟩ := hrel
        obtain ⟨ad', y, e2, hy, hcy⟩ := HL.out.int1 (k := gk) hj
        injection e2 with e2
        subst e2
        have HY := hide hy
        have g1 : (gk : Int) < (P.length : Int) := by omega
        clear hy Fall0
        by_cases hxy : x = y
        · subst hxy
          have hm := max_same hf HY.out
          by_cases h0 : gk = 0
          · subst h0
            have d0 : w.cell? ad = some (.int .i64 x) := by rw [add_zero_] at hcy; exact hcy
            by_cases hend : 0 + 1 = P.length
            · have hm1 : IsMax P ((text.take i).drop a ++ [x]) P.length := by rw [← hend]; exact hm
              obtain ⟨hres, hle⟩ := reading_found HG.out HX.out hm1
              have hb1 : ((1 : Int) == (P.length : Int)) = true := beq_iff_eq.2 (by omega)
              go_wp2_with fail
              go_quiet (fail)
              go_wp2_with fail
              go_quiet (fail)
              go_wp2_with fail
              go_ret
              have hval : (i : Int) + 1 - (P.length : Int) = nextOf P text (a : Int) := hres.symm
              refine ⟨congrArg Ending.returned (congrArg (Value.int .i64) ?_), _, by first | rfl | rw [World.drewN_drewN]⟩
              rw [← hval]
              omega
            · have hb1 : ((1 : Int) == (P.length : Int)) = false := beq_eq_false_iff_ne.2 (by omega)
              have hR1 := reading_more HG.out HX.out hm (by omega)
              go_wp2_with fail
              go_quiet (fail)
              go_wp2_with fail
              go_quiet (fail)
              go_wp2_with fail
              go_roundg (text.length - (i + 1))
              case measure => omega
              case rel => exact ⟨i + 1, 1, _, rfl, by go_num, by go_num, by first | rfl | rw [World.drewN_drewN], hR1, by omega, by omega⟩
          · have h1 : 0 < gk := by omega
            by_cases hend : gk + 1 = P.length
            · have hm1 : IsMax P ((text.take i).drop a ++ [x]) P.length := by rw [← hend]; exact hm
              obtain ⟨hres, hle⟩ := reading_found HG.out HX.out hm1
              have hb1 : ((gk : Int) + 1 == (P.length : Int)) = true := beq_iff_eq.2 (by omega)
              go_wp2_with fail
              go_quiet (fail)
              go_wp2_with fail
              go_quiet (fail)
              go_wp2_with fail
              go_ret
              have hval : (i : Int) + 1 - (P.length : Int) = nextOf P text (a : Int) := hres.symm
              refine ⟨congrArg Ending.returned (congrArg (Value.int .i64) ?_), _, by first | rfl | rw [World.drewN_drewN]⟩
              rw [← hval]
              omega
            · have hb1 : ((gk : Int) + 1 == (P.length : Int)) = false := beq_eq_false_iff_ne.2 (by omega)
              have hR1 := reading_more HG.out HX.out hm (by omega)
              go_wp2_with fail
              go_quiet (fail)
              go_wp2_with fail
              go_quiet (fail)
              go_wp2_with fail
              go_roundg (text.length - (i + 1))
              case measure => omega
              case rel => exact ⟨i + 1, gk + 1, _, rfl, by go_num, by go_num, by first | rfl | rw [World.drewN_drewN], hR1, by omega, by omega⟩
        · have hxe : (x == y) = false := by simpa using hxy
          by_cases h0 : gk = 0
          · subst h0
            have d0 : w.cell? ad = some (.int .i64 y) := by rw [add_zero_] at hcy; exact hcy
            have hm := max_none hf HY.out hxy
            have hR1 := reading_more HG.out HX.out hm hpos
            have he0 : ((0 : Int) == (P.length : Int)) = false := beq_eq_false_iff_ne.2 (by omega)
            go_wp2_with fail
            go_quiet (fail)
            go_wp2_with fail
            go_quiet (fail)
            go_wp2_with fail
            go_roundg (text.length - (i + 1))
            case measure => omega
            case rel => exact ⟨i + 1, 0, _, rfl, rfl, by go_num, by first | rfl | rw [World.drewN_drewN], hR1, hpos, by omega⟩
          · have h1 : 0 < gk := by omega
            obtain ⟨b, hb, hbl, hbm⟩ := HT.out gk (by omega) (by omega)
            have hfb := falls_back hf HY.out hxy hbm (by omega)
            have db : w.cell? ⟨bb, gk, none⟩ = some (.int .i64 (b : Int)) := by
              rw [HF.out.at_.cellAt gk (by omega)]
              exact intv_at hb
            clear hb hbm
            go_wp2_with fail
            go_quiet (fail)
            go_wp2_with fail
            go_roundg b
            case measure => omega
            case rel => exact ⟨rfl, ⟨_, by first | rfl | rw [World.drewN_drewN]⟩, hfb, by omega⟩
    · have hie : i = text.length := by omega
      subst hie
      have hend := reading_end hR
      go_wp2_with fail
      go_ret
      exact ⟨congrArg Ending.returned (congrArg (Value.int .i64) hend.symm), q, rfl⟩
end Go.Proofs.Ytebbnjbgmcdbcaa
