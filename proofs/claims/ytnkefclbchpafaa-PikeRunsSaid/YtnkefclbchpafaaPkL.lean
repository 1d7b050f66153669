/-
  What the walk of pike.Run holds between the places.
-/
import Derived.Test.YtnkefclbchpafaaPkStep
import Derived.Test.YtnkefclbchpafaaRefRun
namespace Go.Proofs.Ytnkefclbchpafaa
open Go.RowKit
set_option linter.unusedVariables false

def capsOf (fo : Option (List Int × Int)) : List Int := match fo with | none => [] | some x => x.1
def whOf (fo : Option (List Int × Int)) : Int := match fo with | none => 0 | some x => x.2
theorem FoundQ.reads {w : World} {sg m : Nat} {O : Option Nat} {fo : Option (List Int × Int)} {A : Option Addr} {fn : Nat} {wh : Int} (h : FoundQ w sg O m fo A fn wh) : Reads w (IntB w) 1 A fn (intv (capsOf fo)) ∧ fn ≤ m ∧ wh = whOf fo ∧ fn = (capsOf fo).length := by
  rcases h with ⟨rfl, rfl, rfl⟩ | ⟨caps, rfl, rfl, h1, h2⟩
  · exact ⟨.nil_, Nat.zero_le _, rfl, rfl⟩
  · exact ⟨h2.weaken (fun k hk => hk.1), Nat.le_refl _, rfl, h1.symm⟩
/-- what pike.Run answers: in memory of its own -/
def PkPost (w : World) (a : (Option (List Int × Int) × Nat) × Int) (e : Ending) (w' : World) : Prop :=
  ∃ FA fn fc, e = .returned (.tuple #[.agg #[.bool a.1.1.isSome, .slice FA fn fc, .int .i64 (whOf a.1.1), .int .i64 (a.1.2 : Int)], .int .i64 a.2]) ∧ fn = (capsOf a.1.1).length ∧ fn ≤ 1002 ∧
    w'.ownsRow w.heap.size 3 1 (.slice FA fn fc) fn (intv (capsOf a.1.1)) ∧ Upd Nob w w'

theorem SetR.rebase {w : World} {base base' b g N : Nat} {A : Option Addr} {c : Nat} {ats L : List Nat} (h : SetR w base b g N A c ats L) (hb : base' ≤ base) : SetR w base' b g N A c ats L :=
  ⟨h.blk, own_base h.own (fun k hk => Nat.le_trans hb (h.own.lt k hk).1), own_base h.at_ (fun k hk => Nat.le_trans hb (h.at_.lt k hk).1), h.apart, Nat.le_trans hb h.low, h.ok⟩

section
variable {w w' : World} {e0 b sb sg : Nat} {O O' NO NO' : Option Nat} {A : Option Addr} {c : Nat} {is : List PInst} {st : Int} {m : Nat} {T : Option Addr} {tc : Nat} {text : List Int} {j : Nat} {fo : Option (List Int × Int)} {steps : Nat} {N : Option Addr} {ths : List (Nat × List Int)}
theorem PkI.far_t (h : PkI w e0 b sb sg O A c is st m T tc text j fo steps N ths) {k : Nat} {t : TypeId} {cs : Array Value} (hk : Cells w k t cs) (h1 : t ≠ 73) (h2 : t ≠ 105) (h3 : t ≠ 3) : ¬ Fp b sb sg O none k := by
  obtain ⟨SA, sc, ats, L, hS, hO⟩ := h.set_
  obtain ⟨bits, nv, FA, fn, fc, wh, hC, -⟩ := h.run
  rintro (e | e | e | e | e)
  · exact Cells.ne_ hk hC h1 e
  · exact Cells.ne_ hk hS.blk h2 e
  · obtain ⟨cg, hcg, -⟩ := own_cells hS.at_ rfl
    exact Cells.ne_ hk hcg h3 e
  · obtain ⟨co, hco, -⟩ := own_cells hS.own (hO.trans e)
    exact Cells.ne_ hk hco h3 rfl
  · cases e
theorem PkI.old (h : PkI w e0 b sb sg O A c is st m T tc text j fo steps N ths) {k : Nat} (hk : k < e0) : ¬ Fp b sb sg O none k := by
  obtain ⟨SA, sc, ats, L, hS, hO⟩ := h.set_
  have h1 := hS.low
  have h2 := (hS.at_.lt sg rfl).1
  have h3 := h.eb
  rintro (e | e | e | e | e)
  · omega
  · omega
  · omega
  · have := (hS.own.lt k (hO.trans e)).1; omega
  · cases e
/-- the next place -/
theorem PkI.next {s9 : VSt} {nc : Nat} {xs : List Value} {FA : Option Addr} {fn fc : Nat} {wh : Int} {n0 : Nat} (h : PkR w n0 e0 b sb sg O NO A c is st m T tc text j s9)
    (hC : Cells w b 73 (pikeCells A is.length c st m T text.length tc j (part text j 6) sb N s9.next.length nc s9.found.isSome FA fn fc wh s9.steps))
    (hN : w.ownsRow n0 108 2 (.slice N s9.next.length nc) s9.next.length xs) (hT : ThQ w sg O is.length m s9.next xs) (hF : FoundQ w sg O m s9.found FA fn wh) :
    PkI (w.setCell ⟨b, 0 + 4, none⟩ (.int .i64 ((j : Int) + 1))) e0 b sb sg O A c is st m T tc text (j + 1) s9.found s9.steps N s9.next := by
  obtain ⟨SA, sc, ats, L, hS, hO, -⟩ := h.set_
  obtain ⟨f1, f2, f3, f4, f5, f6, f7⟩ := h.facts
  have heb := h.eb
  have hU : Upd (fun k => k = b) w (w.setCell ⟨b, 0 + 4, none⟩ (.int .i64 ((j : Int) + 1))) := setCell_upd _ _ _ rfl
  have hk : CapKeep sg O O w (w.setCell ⟨b, 0 + 4, none⟩ (.int .i64 ((j : Int) + 1))) := ⟨hU.size, fun k hk hi h1 h2 => ⟨hU.block k hk (fun e => h.b_int (e ▸ hi)), h2⟩⟩
  refine ⟨h.insts.upd hU (fun k hk e => by omega), h.txt.upd hU (fun k hk e => by omega), h.eb, Nat.le_trans h.en (Nat.le_trans h.n0w hU.size), ⟨SA, sc, ats, L, hS.upd hU (fun e => f4 e.symm) (fun e => f5 e.symm) (fun k hk e => f6 k (hO.symm.trans hk) e), hO⟩,
    ⟨_, _, FA, fn, fc, wh, hC.set_ (0 + 4) _, hF.keep hk⟩, ⟨xs, ?_, hT.keep hk⟩, fun hn => ?_⟩
  · have h1 : Reads w (fun k => ∃ cs, Cells w k 108 cs) 2 N s9.next.length xs := (Reads.of_own hN).weaken (fun k hk => by obtain ⟨cur, hC, -⟩ := own_cells hN hk; exact ⟨cur, hC⟩)
    have hne : ∀ k, (∃ cs, Cells w k 108 cs) → ¬ k = b := by
      rintro k ⟨cs, hk⟩ e
      exact Cells.ne_ hk hC (by decide) e
    exact (h1.upd hU hne).weaken (fun k hk => by
      have h2 := hne k hk
      obtain ⟨cs, hk⟩ := hk
      exact ⟨cs, hk.far _ _ h2⟩)
  · rcases hN.2 with ⟨-, h0⟩ | ⟨gN, cap, cur, hv, -⟩
    · omega
    · injection hv with hv
      exact ⟨gN, hv⟩
end

/-- the end of the search: what is found, Steps -/
structure PkFin (w0 w : World) (b sg : Nat) (m : Nat) (fo : Option (List Int × Int)) (steps : Nat) : Prop where
  upd : Upd Nob w0 w
  res : Cells w (w0.heap.size + 1) 33 #[.bool false, .slice none 0 0, .int .i64 0, .int .i64 0]
  run : ∃ v0 v1 v2 v3 v4 v5 v6 v7 FA fn fc O, Cells w b 73 #[v0, v1, v2, v3, v4, v5, v6, v7, .bool fo.isSome, .slice FA fn fc, .int .i64 (whOf fo), .int .i64 0, .int .i64 (steps : Int)] ∧ FoundQ w sg O m fo FA fn (whOf fo)
/-- the search between two places -/
structure PkL (w0 w : World) (b sb sg : Nat) (O : Option Nat) (A : Option Addr) (c : Nat) (is : List PInst) (st : Int) (m : Nat) (T : Option Addr) (tc : Nat) (text : List Int) (j : Nat) (fo : Option (List Int × Int)) (steps : Nat) (N : Option Addr) (ths : List (Nat × List Int)) : Prop where
  upd : Upd Nob w0 w
  box : Cells w w0.heap.size 27 #[.slice A is.length c, .int .i64 st, .int .i64 m]
  res : Cells w (w0.heap.size + 1) 33 #[.bool false, .slice none 0 0, .int .i64 0, .int .i64 0]
  pk : PkI w w0.heap.size b sb sg O A c is st m T tc text j fo steps N ths
section
variable {w0 w w' : World} {b sb sg : Nat} {O O' NO' : Option Nat} {A : Option Addr} {c : Nat} {is : List PInst} {st : Int} {m : Nat} {T : Option Addr} {tc : Nat} {text : List Int} {j : Nat} {fo : Option (List Int × Int)} {steps : Nat} {N : Option Addr} {ths : List (Nat × List Int)}
theorem PkL.fin (h : PkL w0 w b sb sg O A c is st m T tc text j fo steps N ths) : PkFin w0 w b sg m fo steps := by
  obtain ⟨bits, nv, FA, fn, fc, wh, hC, hF⟩ := h.pk.run
  obtain ⟨-, -, hw, -⟩ := hF.reads
  subst hw
  exact ⟨h.upd, h.res, ⟨_, _, _, _, _, _, _, _, FA, fn, fc, O, hC, hF⟩⟩
/-- a step's frame, seen from the search's beginning -/
theorem PkL.step (h : PkL w0 w b sb sg O A c is st m T tc text j fo steps N ths) (hU : PkUpd b sb sg O O' none NO' w w') :
    Upd Nob w0 w' ∧ Cells w' w0.heap.size 27 #[.slice A is.length c, .int .i64 st, .int .i64 m] ∧ Cells w' (w0.heap.size + 1) 33 #[.bool false, .slice none 0 0, .int .i64 0, .int .i64 0] :=
  ⟨h.upd.trans hU.upd (fun k hk e => absurd e (h.pk.old hk)), h.box.upd hU.upd (h.pk.far_t h.box (by decide) (by decide) (by decide)), h.res.upd hU.upd (h.pk.far_t h.res (by decide) (by decide) (by decide))⟩
end
end Go.Proofs.Ytnkefclbchpafaa
