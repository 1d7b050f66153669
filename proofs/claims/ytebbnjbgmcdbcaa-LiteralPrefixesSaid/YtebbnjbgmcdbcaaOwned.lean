/-
  The walk of owned: numbers that came out are their owner's.
-/
import Derived.Test.YtebbnjbgmcdbcaaPrefix
import Derived.Test.YtebbnjbgmcdbcaaLent
import Derived.ArgAppend
namespace Go.Proofs.Ytebbnjbgmcdbcaa
open Go.RowKit
set_option linter.unusedVariables false

/-- a block of numbers -/
def IntB (w : World) (b : Nat) : Prop := ∃ cs, Cells w b 3 cs
/-- The slice's n numbers are all v; they lie in a block of numbers below bnd. -/
def AllV (w : World) (bnd : Nat) (A : Option Addr) (n : Nat) (v : Int) : Prop := Reads w (fun b => IntB w b ∧ b < bnd) 1 A n (intv (List.replicate n v))
theorem AllV.upd {F : Nat → Prop} {w w' : World} {bnd bnd' : Nat} {A : Option Addr} {n : Nat} {v : Int} (h : AllV w bnd A n v) (hU : Upd F w w') (hF : ∀ b, IntB w b → b < bnd → ¬ F b) (hb : bnd ≤ bnd') : AllV w' bnd' A n v := by
  refine ⟨h.1, fun hn => ?_⟩
  obtain ⟨ad, e, hlt, ⟨⟨cs, hcs⟩, hbd⟩, hc⟩ := h.2 hn
  have hnf := hF _ ⟨cs, hcs⟩ hbd
  exact ⟨ad, e, Nat.lt_of_lt_of_le hlt hU.size, ⟨⟨cs, hcs.upd hU hnf⟩, by omega⟩, fun j u hu => (hU.cell (p := ad.add j) (by rw [add_block]; exact hlt) (by rw [add_block]; exact hnf)).trans (hc j u hu)⟩

/-- One row that came out: numbers in a block of their own, or nothing. -/
def RowOk (w : World) (r : Option Addr × Nat) : Prop := (r.1 = none ∧ r.2 = 0) ∨ ∃ g cur, r.1 = some ⟨g, 0, none⟩ ∧ Cells w g 3 cur ∧ r.2 ≤ cur.size
def rowBlock (r : Option Addr × Nat) (b : Nat) : Prop := ∃ o x, r.1 = some ⟨b, o, x⟩
def rowV (r : Option Addr × Nat) : Value := .slice r.1 r.2 r.2
/-- blocks of rows -/
def OfRows (rows : List (Option Addr × Nat)) : Nat → Prop := fun b => ∃ r ∈ rows, rowBlock r b
structure RowsR (w : World) (rb : Nat) (rows : List (Option Addr × Nat)) : Prop where
  blk : Cells w rb 29 (rows.map rowV).toArray
  ok : ∀ r ∈ rows, RowOk w r
  apart : ∀ (i j : Nat) r s b, rows[i]? = some r → rows[j]? = some s → rowBlock r b → rowBlock s b → i = j
  few : rows.length ≤ 1000
  short : ∀ r ∈ rows, r.2 ≤ 1000000

theorem RowOk.fill {w : World} {r : Option Addr × Nat} (h : RowOk w r) {k : Nat} (hk : k < r.2) : ∃ g u, r.1 = some ⟨g, 0, none⟩ ∧ w.cell? ⟨g, k, none⟩ = some u ∧ w.frozen? ⟨g, k, none⟩ = false := by
  rcases h with ⟨_, h0⟩ | ⟨g, cur, hg, hc, hn⟩
  · omega
  · exact ⟨g, cur[k], hg, hc.cellv (Array.getElem?_eq_getElem (by omega)), hc.frozen k⟩
theorem RowOk.set_ {w : World} {r : Option Addr × Nat} (h : RowOk w r) (p k : Nat) (u : Value) : RowOk (w.setCell ⟨p, k, none⟩ u) r := by
  rcases h with h | ⟨g, cur, hg, hc, hn⟩
  · exact .inl h
  · by_cases e : g = p
    · subst e
      exact .inr ⟨g, _, hg, hc.set_ k u, by simpa using hn⟩
    · exact .inr ⟨g, cur, hg, hc.far ⟨p, k, none⟩ u e, hn⟩
theorem RowsR.set_ {w : World} {rb g k : Nat} {rows : List (Option Addr × Nat)} (h : RowsR w rb rows) (u : Value) (hne : rb ≠ g) : RowsR (w.setCell ⟨g, k, none⟩ u) rb rows :=
  ⟨h.blk.far _ _ hne, fun r hr => RowOk.set_ (h.ok r hr) _ _ _, h.apart, h.few, h.short⟩
theorem RowsR.ne {w : World} {rb g : Nat} {rows : List (Option Addr × Nat)} (h : RowsR w rb rows) {r : Option Addr × Nat} (hr : r ∈ rows) (hg : r.1 = some ⟨g, 0, none⟩) : rb ≠ g := by
  rcases h.ok r hr with ⟨h0, _⟩ | ⟨g', cur, hg', hc, _⟩
  · rw [h0] at hg; cases hg
  · rw [hg'] at hg
    injection hg with hg
    injection hg with hg
    subst hg
    exact Cells.ne_ h.blk hc (by decide)

/-- row i's first k numbers are written -/
def Wrote (w : World) (rows : List (Option Addr × Nat)) (i k : Nat) : Prop := ∀ r g, rows[i]? = some r → r.1 = some ⟨g, 0, none⟩ → ∀ j, j < k → w.cell? ⟨g, j, none⟩ = some (.int .i64 (-9 - (i : Int)))

theorem Wrote.zero (w : World) (rows : List (Option Addr × Nat)) (i : Nat) : Wrote w rows i 0 := fun r g _ _ j hj => by omega
theorem Wrote.more {w : World} {rows : List (Option Addr × Nat)} {i k g : Nat} {r : Option Addr × Nat} (h : Wrote w rows i k) (hr : rows[i]? = some r) (hg : r.1 = some ⟨g, 0, none⟩) {u : Value} (hc : w.cell? ⟨g, k, none⟩ = some u) (hf : w.frozen? ⟨g, k, none⟩ = false) : Wrote (w.setCell ⟨g, k, none⟩ (.int .i64 (-9 - (i : Int)))) rows i (k + 1) := by
  intro r' g' hr' hg' j hj
  rw [hr] at hr'
  injection hr' with hr'
  subst hr'
  rw [hg] at hg'
  injection hg' with hg'
  injection hg' with hg'
  subst hg'
  by_cases hjk : j = k
  · subst hjk
    exact World.cell?_setCell_same' w _ _ (by rw [hc]; rfl)
  · have h1 := h r g hr hg j (by omega)
    have hne : (⟨g, k, none⟩ : Addr) ≠ ⟨g, j, none⟩ := fun e => hjk (by injection e with _ e _; exact e.symm)
    rw [World.cell?_setCell_other (h := hne)]
    exact h1
theorem Wrote.far {w : World} {rows : List (Option Addr × Nat)} {rb i j k g : Nat} {r : Option Addr × Nat} (H : RowsR w rb rows) (h : Wrote w rows j k) (hij : j ≠ i) (hr : rows[i]? = some r) (hg : r.1 = some ⟨g, 0, none⟩) (q : Nat) (u : Value) : Wrote (w.setCell ⟨g, q, none⟩ u) rows j k := by
  intro s g' hs hg' m hm
  have hne : g' ≠ g := fun e => hij (H.apart j i s r g' hs hr ⟨_, _, hg'⟩ (by subst e; exact ⟨_, _, hg⟩))
  exact (World.cell?_of_block (Below.heap_setCell w ⟨g, q, none⟩ u g' hne)).trans (h s g' hs hg' m hm)

section
variable {P : Program} {w : World}
/-- append of one element to a slice that is full -/
theorem wpList_append_full {ops : Array Oper} {rest : List Oper} {o : Oper} {a : Act} {Q : Exit → Act → World → Prop} (hgd : o.guard = none) (s x : Operand) (t : TypeId)
    (ho : o.op = .call { callee := .builtin .append, args := #[s, x], argTypes := #[t, t] })
    (e : TypeId) (i : TypeInfo) (z : Value) (bytes : Nat) (ht : P.underlying t = some (.slice e)) (hi : P.info? e = some i) (hz : i.zero = some z)
    (hsize : i.size = 1) (hby : i.bytes = bytes) (hzs : z.cells.size = 1)
    (A : Option Addr) (n : Nat) (S : Nat → Prop) (xs : List Value) (hs : a.eval s = .slice A n n) (hr : Reads w S 1 A n xs)
    (b : Addr) (c : Nat) (u : Value) (hx : a.eval x = .slice (some b) 1 c) (hu : w.cell? b = some u) (h1 : u.oneCell' = true)
    (h63 : n + 1 ≤ maxLen) (hbytes : (n + 1) * bytes ≤ 140737488355328)
    (h : ∀ v' w', w'.ownsRow w.heap.size e 1 v' (n + 1) (xs ++ [u]) → w.grownBy w' none → wpList P ops Q rest (a.put o.dst v') w') : wpList P ops Q (o :: rest) a w := by
  have hnews : ∀ j v, ([u] : List Value)[j]? = some v → w.cell? (b.add j) = some v := by
    intro j v hv
    match j, hv with
    | 0, hv => injection hv with hv; subst hv; rw [add_zero_]; exact hu
  have hone : ∀ v ∈ ([u] : List Value), v.oneCell' = true := by intro v hv; simp at hv; subst hv; exact h1
  have key : ∃ v' w', (Builtin.append_ #[t, t] o.type #[.slice A n n, .slice (some b) 1 c]).run P w = .ok v' w' ∧ w'.ownsRow w.heap.size e 1 v' (n + 1) (xs ++ [u]) ∧ w.grownBy w' none := by
    rcases A with _ | ad
    · have hn : n = 0 := by
        rcases Nat.eq_zero_or_pos n with h0 | h0
        · exact h0
        · obtain ⟨_, h, _⟩ := hr.2 h0; cases h
      subst hn
      have hx0 : xs = [] := List.eq_nil_of_length_eq_zero (by simpa using hr.1)
      subst hx0
      obtain ⟨v', w', r1, r2, r3, _, _⟩ := run_append_own_at (P := P) w w.heap.size t o.type e i z 1 bytes ht hi hz hsize hby hzs (by decide) (.slice none 0 0) 0 [] (World.ownsRow_nil _ _ _ _) b 1 c [u] rfl hnews hone h63 hbytes (Nat.le_refl _)
      exact ⟨v', w', r1, r2, r3⟩
    · refine run_append_arg_grows (P := P) w t o.type e i z 1 bytes ht hi hz hsize hby hzs (by decide) ad n n xs hr.1 (fun j v hv => ?_) b 1 c [u] rfl hnews (by omega) h63 hbytes
      rcases Nat.eq_zero_or_pos n with h0 | h0
      · subst h0
        have hx0 : xs = [] := List.eq_nil_of_length_eq_zero (by simpa using hr.1)
        subst hx0
        simp at hv
      · obtain ⟨_, h, _, _, hc⟩ := hr.2 h0
        injection h with h
        subst h
        exact hc j v hv
  refine wpList_plain hgd fun K hK => ?_
  obtain ⟨v', w', hrun, h2, h3⟩ := key
  unfold Oper.wp execOp
  simp only [ho, resolve, invoke, builtin, Sem.run_bind, Sem.run_pure, Result.andThen_ok, List.map_toArray, List.map_cons, List.map_nil, hs, hx, hrun]
  exact hK _ _ (h v' w' h2 h3)
end
theorem rep_more (n : Nat) (v : Int) : intv (List.replicate n v) ++ [.int .i64 v] = intv (List.replicate (n + 1) v) := by
  rw [List.replicate_succ', intv_append]
  rfl
theorem info_slice : (Try.prog.info? 29).map (fun i => (i.zero, i.size, i.bytes)) = some (some (.slice none 0 0), 1, 24) := by kernel_rfl
set_option maxRecDepth 100000 in
set_option maxHeartbeats 4000000 in
theorem owned_any (w : World) (rb c : Nat) (rows : List (Option Addr × Nat)) (h : RowsR w rb rows) :
    Calls Try.prog 17 #[.slice (some ⟨rb, 0, none⟩) rows.length c] w fun e w' => e = .returned (.bool true) ∧ Upd (OfRows rows) w w' := by
  have hfew := h.few
  have HF := hide (And.intro h.apart h.short)
  go_enter Try.func17, Try.ntmps17
  go_wp2_with fail
  go_loopg [3] rows.length (fun gk v3 wr => ∃ i : Nat, i + gk = rows.length ∧ v3 = .int .i64 (i : Int) ∧ RowsR wr rb rows ∧ Upd (OfRows rows) w wr ∧ ∀ j r, j < i → rows[j]? = some r → Wrote wr rows j r.2)
  case atStart => exact ⟨0, by omega, rfl, h, Upd.refl _ _, fun j r hj => by omega⟩
  case round =>
    obtain ⟨i, hk, rfl, hR, hU, hW⟩ := hrel
    by_cases hlt : i < rows.length
    · obtain ⟨⟨A, n⟩, hr⟩ : ∃ r, rows[i]? = some r := ⟨_, List.getElem?_eq_getElem hlt⟩
      have cb : #[rowV (A, n)] = #[rowV (A, n)] := rfl
      have hci : (rows.map rowV).toArray[i]? = some (.slice A n n) := by simp [hr, rowV]
      have il : (i : Int) < (rows.length : Int) := by omega
      have hm := List.mem_of_getElem? hr
      have hsh : n ≤ 1000000 := HF.out.2 _ hm
      have HR := hide hr
      have HK := hide hk
      have HM := hide hm
      have HC := hide hci
      clear hr hk hm cb hci
      go_wp2_with fail
      go_loopg [4] n (fun gk v4 wq => ∃ k : Nat, k + gk = n ∧ v4 = .int .i64 (k : Int) ∧ RowsR wq rb rows ∧ Upd (OfRows rows) w wq ∧ (∀ j r, j < i → rows[j]? = some r → Wrote wq rows j r.2) ∧ Wrote wq rows i k)
      case atStart => exact ⟨0, by omega, rfl, hR, hU, hW, Wrote.zero _ _ _⟩
      case round =>
        obtain ⟨k, hk, rfl, hRq, hUq, hWq, hWk⟩ := hrel
        have b0 : wr.cell? ⟨rb, i, none⟩ = some (.slice A n n) := hRq.blk.cellv HC.out
        by_cases hkn : k < n
        · obtain ⟨g, u, hg, cg, fg⟩ := (hRq.ok _ HM.out).fill hkn
          simp only at hg
          subst hg
          have kn : (k : Int) < (n : Int) := by omega
          have HRq := hide (hRq.set_ (k := k) (.int .i64 (-9 - (i : Int))) (hRq.ne HM.out rfl))
          have HUq := hide (hUq.setCell ⟨g, k, none⟩ (.int .i64 (-9 - (i : Int))) (fun _ => ⟨_, HM.out, _, _, rfl⟩))
          have HWq := hide (fun (j : Nat) r (hj : j < i) (hr : rows[j]? = some r) => (hWq j r hj hr).far hRq (by omega) HR.out rfl k (.int .i64 (-9 - (i : Int))))
          have HWk := hide (hWk.more HR.out rfl cg fg)
          clear hRq hUq hWq hWk
          go_wp2_with fail
          go_roundg (n - (k + 1))
          case measure => omega
          case rel => exact ⟨k + 1, by omega, by go_num, HRq.out, HUq.out, HWq.out, HWk.out⟩
        · have kn : ¬ (k : Int) < (n : Int) := by omega
          have hkn2 : k = n := by omega
          have HRq := hide hRq
          have HUq := hide hUq
          have HWq := hide hWq
          have HWk := hide hWk
          clear hRq hUq hWq hWk
          go_wp2_with fail
          have hk := HK.out
          go_roundg (rows.length - (i + 1))
          case measure => omega
          case rel => exact ⟨i + 1, by omega, by go_num, HRq.out, HUq.out, fun j r hj hr => (by
            by_cases hji : j = i
            · subst hji
              rw [HR.out] at hr
              injection hr with hr
              subst hr
              rw [← hkn2]
              exact HWk.out
            · exact HWq.out j r (by omega) hr)⟩
    · have hie : i = rows.length := by omega
      clear hk
      subst hie
      have HR := hide hR
      have HU := hide hU
      have HALL := hide (fun (j : Nat) (r : Option Addr × Nat) (hj : rows[j]? = some r) => (show AllV wr wr.heap.size r.1 r.2 (-9 - (j : Int)) from (by
        have hjl := (List.getElem?_eq_some_iff.1 hj).1
        have hw := hW j r hjl hj
        refine ⟨by simp [intv], fun hn => ?_⟩
        rcases hR.ok r (List.mem_of_getElem? hj) with ⟨_, h0⟩ | ⟨g, cur, hg, hc, hl⟩
        · omega
        · refine ⟨_, hg, hc.lt, ⟨⟨cur, hc⟩, hc.lt⟩, fun q u hq => ?_⟩
          have hql : q < r.2 := by have := (List.getElem?_eq_some_iff.1 hq).1; simpa [intv] using this
          rw [add_lit_, Nat.zero_add, hw r g hj hg q hql]
          rw [intv, List.getElem?_map, List.getElem?_replicate, if_pos hql] at hq
          exact hq)))
      clear hR hU hW
      obtain ⟨i0, hi0, hz0, hz1, hz2⟩ := info_parts info_int
      obtain ⟨s0, hs0, hy0, hy1, hy2⟩ := info_parts info_slice
      have hRB := hide (fun (j : Nat) (r : Option Addr × Nat) (hj : rows[j]? = some r) => (show (rows.map rowV).toArray[j]? = some (rowV r) by simp [hj]))
      go_wp2_with fail
      obtain ⟨w1, hw1⟩ : ∃ w1, w1 = wr := ⟨_, rfl⟩
      rw [← hw1]
      rw [← hw1] at HR HU HALL
      clear hw1
      go_loopg [5, 6] rows.length (fun gk v5 v6 wr => ∃ (i : Nat) (A5 : Option Addr) (c5 : Nat) (L : List Value) (w2 : World), w2 = wr ∧ i + gk = rows.length ∧ v5 = .slice A5 (2 * i) c5 ∧ v6 = .int .i64 (i : Int) ∧ Upd Nob w1 wr ∧
        wr.ownsRow w1.heap.size 29 1 (.slice A5 (2 * i) c5) (2 * i) L ∧ ∀ p, p < 2 * i → ∃ A' n' c', L[p]? = some (.slice A' n' c') ∧ n' ≤ 2000000 ∧ AllV wr wr.heap.size A' n' (-9 - ((p / 2 : Nat) : Int)))
      case atStart => exact ⟨0, none, 0, [], _, rfl, by omega, rfl, rfl, Upd.refl _ _, World.ownsRow_nil _ _ _ _, fun p hp => by omega⟩
      case round =>
        obtain ⟨i, A5, c5, L, w2, rfl, hk, rfl, rfl, hU2, o5, hL⟩ := hrel
        by_cases hlt : i < rows.length
        · obtain ⟨⟨A, n⟩, hr⟩ : ∃ r, rows[i]? = some r := ⟨_, List.getElem?_eq_getElem hlt⟩
          have b0 : w2.cell? ⟨rb, i, none⟩ = some (.slice A n n) := (HR.out.blk.upd hU2 not_nob).cellv (hRB.out i _ hr)
          have il : (i : Int) < (rows.length : Int) := by omega
          have hsh : n ≤ 1000000 := HF.out.2 _ (List.mem_of_getElem? hr)
          have HV := hide ((HALL.out i _ hr).upd hU2 (fun _ _ _ => not_nob) hU2.size)
          have HK := hide hk
          have HU2 := hide hU2
          have HO5 := hide o5
          have HL := hide hL
          clear hr hk hU2 o5 hL
          go_wp2_with fail
          go_loopg [7, 8] 20 (fun gk v7 v8 wr => ∃ (k : Nat) (A7 : Option Addr) (c7 : Nat), k + gk = 20 ∧ v8 = .int .i64 (k : Int) ∧ v7 = .slice A7 (n + k) c7 ∧ Upd Nob w2 wr ∧
            ((k = 0 ∧ A7 = A ∧ c7 = n) ∨ (0 < k ∧ wr.ownsRow w2.heap.size 3 1 (.slice A7 (n + k) c7) (n + k) (intv (List.replicate (n + k) (-9 - (i : Int)))))))
          case atStart => exact ⟨0, A, n, by omega, rfl, rfl, Upd.refl _ _, .inl ⟨rfl, rfl, rfl⟩⟩
          case round =>
            obtain ⟨k, A7, c7, hk, rfl, rfl, hU7, h7⟩ := hrel
            by_cases hk20 : k < 20
            · have k20 : (k : Int) < 20 := by omega
              have vw : IntKind.i64.wrap (-9 - (i : Int)) = -9 - (i : Int) := by rw [IntKind.wrap_i64]; omega
              have hsr := hU7.size
              rcases h7 with ⟨rfl, rfl, rfl⟩ | ⟨hk0, o7⟩
              · have HRd := hide ((HV.out.upd hU7 (fun _ _ _ => not_nob) hsr).upd ((Upd.refl Nob wr).alloc (.cells #[(.int .i64 (-9 - (i : Int)))] 3)) (fun _ _ _ => not_nob) (Nat.le_refl _))
                have HU7 := hide hU7
                clear hU7
                go_wp2_with (at_builtin; refine wpList_append_full rfl _ _ 29 rfl 3 i0 (.int .i64 0) 8 Try.underlying29 hi0 hz0 hz1 hz2 rfl A7 c7 _ _ rfl HRd.out ⟨wr.heap.size, 0, none⟩ 1 (.int .i64 (-9 - (i : Int))) rfl ?c1 rfl ?c2 ?c3 ?_)
                case c1 => exact World.news_of_block (cs := #[(.int .i64 (-9 - (i : Int)))]) (t := 3) (fr := (0, 0)) (heap_alloc_new _ _) 0 _ rfl
                case c2 => unfold maxLen; omega
                case c3 => omega
                intro v8 w8 o8 g8
                obtain ⟨A8, c8, rfl⟩ := own_shape o8
                have hU8 := (HU7.out.alloc (.cells #[(.int .i64 (-9 - (i : Int)))] 3)).grown g8 (by simp)
                rw [rep_more] at o8
                have HO8 := hide (own_base (base' := w2.heap.size) o8 (fun g hg => by have := (o8.lt g hg).1; first | omega | (simp at this; omega)))
                clear o8 g8
                go_wp2_with fail
                go_roundg 19
                case measure => omega
                case rel => exact ⟨1, A8, c8, by omega, by go_num, rfl, hU8, .inr ⟨by omega, HO8.out⟩⟩
              · have HU7 := hide hU7
                have HO7 := hide o7
                clear hU7 o7
                go_wp2_with (at_builtin; refine wpList_append_own_at _ rfl _ _ 29 rfl w2.heap.size 3 i0 (.int .i64 0) 1 8 Try.underlying29 hi0 hz0 hz1 hz2 rfl (by decide) _ _ _ rfl (HO7.out.alloc _) ⟨wr.heap.size, 0, none⟩ 1 1 [(.int .i64 (-9 - (i : Int)))] rfl rfl ?d1 ?d2 ?d3 ?d4 ?d5 ?_)
                case d1 => exact World.news_of_block (cs := #[(.int .i64 (-9 - (i : Int)))]) (t := 3) (fr := (0, 0)) (heap_alloc_new _ _)
                case d2 => intro u hu; simp at hu; subst hu; rfl
                case d3 => unfold maxLen; omega
                case d4 => omega
                case d5 => simp; omega
                intro v8 w8 o8 g8 _ hat
                obtain ⟨A8, c8, rfl⟩ := own_shape o8
                have hU8 := HU7.out.trans (((Upd.refl (fun b => (Value.slice A7 (n + k) c7).ownBlock = some b) wr).alloc (.cells #[(.int .i64 (-9 - (i : Int)))] 3)).grown g8 (fun b hb _ => hb)) (fun b hb h => absurd (HO7.out.lt b h).1 (by omega))
                rw [rep_more] at o8
                have HO8 := hide o8
                clear o8 g8 hat
                go_wp2_with fail
                go_roundg (20 - (k + 1))
                case measure => omega
                case rel => exact ⟨k + 1, A8, c8, by omega, by go_num, rfl, hU8, .inr ⟨by omega, HO8.out⟩⟩
            · have k20 : ¬ (k : Int) < 20 := by omega
              obtain rfl : k = 20 := by omega
              obtain ⟨-, o7⟩ : 0 < 20 ∧ wr.ownsRow w2.heap.size 3 1 (.slice A7 (n + 20) c7) (n + 20) (intv (List.replicate (n + 20) (-9 - (i : Int)))) := by
                rcases h7 with ⟨h0, _⟩ | h
                · omega
                · exact h
              have hsr := hU7.size
              have b0 : wr.cell? ⟨rb, i, none⟩ = some (.slice A n n) := (World.cell?_of_block (hU7.block rb ((HR.out.blk.upd HU2.out not_nob).lt) not_nob)).trans b0
              have HU7 := hide hU7
              have HO7 := hide o7
              have HO5w := hide (own_upd HO5.out hU7 (fun _ _ => not_nob))
              clear hU7 o7 h7
              go_wp2_with (at_builtin; refine wpList_append_own_at _ rfl _ _ 37 rfl w1.heap.size 29 s0 (.slice none 0 0) 1 24 Try.underlying37 hs0 hy0 hy1 hy2 rfl (by decide) _ _ _ rfl (HO5w.out.alloc _) ⟨wr.heap.size, 0, none⟩ 2 2 [.slice A7 (n + 20) c7, .slice A n n] rfl rfl ?m1 ?m2 ?m3 ?m4 ?m5 ?_)
              case m2 => exact ⟨rfl, rfl⟩
              case m3 => unfold maxLen; omega
              case m4 => omega
              case m5 => have := HU2.out.size; simp; omega
              intro v9 w9 o9 g9 _ hat
              obtain ⟨A9, c9, rfl⟩ := own_shape o9
              have hUx : Upd (fun b => (Value.slice A5 (2 * i) c5).ownBlock = some b) wr w9 := ((Upd.refl (fun b => (Value.slice A5 (2 * i) c5).ownBlock = some b) wr).alloc (.cells #[.slice A7 (n + 20) c7, .slice A n n] 29)).grown g9 (fun b hb _ => hb)
              have hUw : Upd (fun b => (Value.slice A5 (2 * i) c5).ownBlock = some b) w2 w9 := (HU7.out.mono (fun _ _ h => absurd h not_nob)).trans hUx (fun _ _ h => h)
              have hint : ∀ b, IntB wr b → ¬ (Value.slice A5 (2 * i) c5).ownBlock = some b := fun b ⟨cs, hcs⟩ => own_ne HO5w.out hcs (by decide)
              have hU9 := HU2.out.trans hUw (fun b hb h => absurd (HO5.out.lt b h).1 (by omega))
              have hL9 : ∀ p, p < 2 * (i + 1) → ∃ A' n' c', (L ++ [Value.slice A7 (n + 20) c7, Value.slice A n n])[p]? = some (.slice A' n' c') ∧ n' ≤ 2000000 ∧ AllV w9 w9.heap.size A' n' (-9 - ((p / 2 : Nat) : Int)) := by
                intro p hp
                have hll : L.length = 2 * i := by have := HO5.out.1; omega
                have hi2 : ∀ b, IntB w2 b → ¬ (Value.slice A5 (2 * i) c5).ownBlock = some b := fun b ⟨cs, hcs⟩ => own_ne HO5.out hcs (by decide)
                by_cases h1 : p < 2 * i
                · obtain ⟨A', n', c', g1, g2, g3⟩ := HL.out p h1
                  exact ⟨A', n', c', by rw [List.getElem?_append_left (by omega)]; exact g1, g2, g3.upd hUw (fun b hb _ => hi2 b hb) hUw.size⟩
                · rcases (by omega : p = 2 * i ∨ p = 2 * i + 1) with rfl | rfl
                  · refine ⟨A7, n + 20, c7, by rw [List.getElem?_append_right (by omega), hll, Nat.sub_self]; rfl, by omega, ?_⟩
                    rw [show 2 * i / 2 = i by omega]
                    have hr7 : AllV wr wr.heap.size A7 (n + 20) (-9 - (i : Int)) := (Reads.of_own HO7.out).weaken (fun b hb => by
                      obtain ⟨cur, hc, _⟩ := own_cells HO7.out hb
                      exact ⟨⟨cur, hc⟩, hc.lt⟩)
                    exact hr7.upd hUx (fun b hb _ => hint b hb) hUx.size
                  · refine ⟨A, n, n, by rw [List.getElem?_append_right (by omega), hll, show 2 * i + 1 - 2 * i = 1 by omega]; rfl, by omega, ?_⟩
                    rw [show (2 * i + 1) / 2 = i by omega]
                    exact HV.out.upd hUw (fun b hb _ => hi2 b hb) hUw.size
              have HU9 := hide hU9
              have HO9 := hide o9
              have HL9 := hide hL9
              clear hU9 o9 hL9 hUx hUw hint g9 hat
              go_wp2_with fail
              have hk := HK.out
              go_roundg (rows.length - (i + 1))
              case measure => omega
              case rel => exact ⟨i + 1, A9, c9, _, w9, rfl, by omega, rfl, by go_num, HU9.out, HO9.out, HL9.out⟩
        · have il : ¬ (i : Int) < (rows.length : Int) := by omega
          obtain rfl : i = rows.length := by omega
          have HU2 := hide hU2
          have HO5 := hide o5
          have HL := hide hL
          clear hU2 o5 hL hk
          go_wp2_with fail
          go_loopg [9] (2 * rows.length) (fun gk v9 wr => ∃ p : Nat, p + gk = 2 * rows.length ∧ v9 = .int .i64 (p : Int) ∧ w2 = wr)
          case atStart => exact ⟨0, by omega, rfl, rfl⟩
          case round =>
            obtain ⟨p, hp, rfl, rfl⟩ := hrel
            by_cases hpl : p < 2 * rows.length
            · obtain ⟨A', n', c', g1, g2, g3⟩ := HL.out p hpl
              have cl : ∃ gl : Nat, A5 = some ⟨gl, 0, none⟩ ∧ w2.cell? ⟨gl, p, none⟩ = some (.slice A' n' c') := by
                obtain ⟨gl, cap, hv, _, _⟩ := HO5.out.form (by omega)
                injection hv with e1 _ _
                subst e1
                exact ⟨gl, rfl, (HO5.out.cellAt p (by omega)).trans g1⟩
              obtain ⟨gl, rfl, cl⟩ := cl
              have pl : (p : Int) < 2 * (rows.length : Int) := by omega
              have HG3 := hide g3
              have HPp := hide hp
              clear g1 g3 hp
              go_wp2_with fail
              go_loopg [10] n' (fun gk v10 wr => ∃ k : Nat, k + gk = n' ∧ v10 = .int .i64 (k : Int) ∧ w2 = wr)
              case atStart => exact ⟨0, by omega, rfl, rfl⟩
              case round =>
                obtain ⟨k, hk, rfl, rfl⟩ := hrel
                by_cases hkn : k < n'
                · obtain ⟨ad, x, rfl, hx, hcx⟩ := Reads.int1 HG3.out hkn
                  obtain rfl : (-9 - ((p / 2 : Nat) : Int)) = x := by
                    rw [List.getElem?_replicate, if_pos hkn] at hx
                    injection hx
                  have kn : (k : Int) < (n' : Int) := by omega
                  have q1 : (p : Int) / 2 = ((p / 2 : Nat) : Int) := by omega
                  have q2 : (p : Int).tdiv 2 = ((p / 2 : Nat) : Int) := by rw [Int.tdiv_eq_ediv_of_nonneg (by omega)]; omega
                  have hpb : p / 2 ≤ 1000 := by omega
                  have w1 : IntKind.i64.wrap ((p / 2 : Nat) : Int) = ((p / 2 : Nat) : Int) := by rw [IntKind.wrap_i64]; omega
                  generalize p / 2 = ph at *
                  clear hx
                  go_wp2_with fail
                  go_roundg (n' - (k + 1))
                  case measure => omega
                  case rel => exact ⟨k + 1, by omega, by go_num, rfl⟩
                · have kn : ¬ (k : Int) < (n' : Int) := by omega
                  go_wp2_with fail
                  have hp := HPp.out
                  go_roundg (2 * rows.length - (p + 1))
                  case measure => omega
                  case rel => exact ⟨p + 1, by omega, by go_num, rfl⟩
            · have pl : ¬ (p : Int) < 2 * (rows.length : Int) := by omega
              go_wp2_with fail
              go_ret
              exact ⟨rfl, HU.out.trans HU2.out (fun _ _ h => absurd h not_nob)⟩
end Go.Proofs.Ytebbnjbgmcdbcaa
