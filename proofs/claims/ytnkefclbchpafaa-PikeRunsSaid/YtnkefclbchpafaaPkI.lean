/-
  The run of pike between two places.
-/
import Derived.Test.YtnkefclbchpafaaPkStk
import Derived.Test.YtnkefclbchpafaaLeast
namespace Go.Proofs.Ytnkefclbchpafaa
open Go.RowKit
set_option linter.unusedVariables false

/-- pike's run between two places: the threads ths of the place j -/
structure PkI (w : World) (e0 b sb sg : Nat) (O : Option Nat) (A : Option Addr) (c : Nat) (is : List PInst) (st : Int) (m : Nat) (T : Option Addr) (tc : Nat) (text : List Int) (j : Nat) (fo : Option (List Int × Int)) (steps : Nat) (N : Option Addr) (ths : List (Nat × List Int)) : Prop where
  insts : InstsR w (· < e0) A is.length is
  txt : TextR w (· < e0) T text.length text
  eb : e0 ≤ b
  ew : e0 ≤ w.heap.size
  set_ : ∃ SA sc ats L, SetR w e0 sb sg is.length SA sc ats L ∧ (Value.slice SA L.length sc).ownBlock = O
  run : ∃ bits nv FA fn fc wh, Cells w b 73 #[.slice A is.length c, .int .i64 st, .int .i64 m, .slice T text.length tc, .int .i64 (j : Int), bits, .pointer (some ⟨sb, 0, none⟩), nv, .bool fo.isSome, .slice FA fn fc, .int .i64 wh, .int .i64 0, .int .i64 (steps : Int)] ∧ FoundQ w sg O m fo FA fn wh
  now : ∃ xs, Reads w (fun k => ∃ cs, Cells w k 108 cs) 2 N ths.length xs ∧ ThQ w sg O is.length m ths xs
  lit : 0 < ths.length → ∃ gN, N = some ⟨gN, 0, none⟩

section
variable {w w' : World} {e0 b sb sg : Nat} {O O' NO NO' : Option Nat} {A : Option Addr} {c : Nat} {is : List PInst} {st : Int} {m : Nat} {T : Option Addr} {tc : Nat} {text : List Int} {j : Nat} {fo : Option (List Int × Int)} {steps : Nat} {N : Option Addr} {ths : List (Nat × List Int)}
theorem CapKeep.of_upd (hb : ¬ IntB w b) (hs : ¬ IntB w sb) (hU : PkUpd b sb sg O O' none NO' w w') : CapKeep sg O O' w w' := by
  refine ⟨hU.upd.size, fun k hk hi h1 h2 => ⟨hU.upd.block k hk ?_, ?_⟩⟩
  · rintro (e | e | e | e | e)
    · exact hb (e ▸ hi)
    · exact hs (e ▸ hi)
    · exact h1 e
    · exact h2 e
    · cases e
  · intro e
    rcases hU.own with h3 | ⟨k1, h3, h4⟩
    · exact h2 (h3 ▸ e)
    · rw [h3] at e; injection e with e; omega
theorem PkI.keep (h : PkI w e0 b sb sg O A c is st m T tc text j fo steps N ths) (hU : PkUpd b sb sg O O' none NO' w w') : CapKeep sg O O' w w' := by
  obtain ⟨SA, sc, ats, L, hS, -⟩ := h.set_
  obtain ⟨bits, nv, FA, fn, fc, wh, hC, -⟩ := h.run
  exact CapKeep.of_upd (hC.not_int (by decide)) (hS.blk.not_int (by decide)) hU
/-- a block of threads is none of what a step turns -/
theorem PkI.thr (h : PkI w e0 b sb sg O A c is st m T tc text j fo steps N ths) {k : Nat} {cs : Array Value} (hk : Cells w k 108 cs) : ¬ Fp b sb sg O none k := by
  obtain ⟨SA, sc, ats, L, hS, hO⟩ := h.set_
  obtain ⟨bits, nv, FA, fn, fc, wh, hC, -⟩ := h.run
  rintro (e | e | e | e | e)
  · exact Cells.ne_ hk hC (by decide) e
  · exact Cells.ne_ hk hS.blk (by decide) e
  · obtain ⟨cg, hcg, -⟩ := own_cells hS.at_ rfl
    exact Cells.ne_ hk hcg (by decide) e
  · obtain ⟨co, hco, -⟩ := own_cells hS.own (hO.trans e)
    exact Cells.ne_ hk hco (by decide) rfl
  · cases e
/-- a place begins -/
theorem PkI.begin_ {w1 w3 : World} {SA : Option Addr} {sc : Nat} {ats L : List Nat} (h : PkI w e0 b sb sg O A c is st m T tc text j fo steps N ths) (hn : is.length ≤ 20000) (hst : steps + is.length ≤ 1099511627776)
    (hO : (Value.slice SA L.length sc).ownBlock = O) (hSt : SetR w e0 sb sg is.length SA sc ats L) (hP : SetP w w1 e0 sb sg is.length SA L.length sc ats []) (hU3 : Upd Nob (w1.setCell ⟨b, 0 + 7, none⟩ (.slice none 0 0)) w3) :
    ∃ O', PkR (w3.setCell ⟨b, 0 + 5, none⟩ (.int .i64 (part text j 6))) w.heap.size e0 b sb sg O' none A c is st m T tc text j (fresh is.length fo steps) ∧ PkUpd b sb sg O O' none none w (w3.setCell ⟨b, 0 + 5, none⟩ (.int .i64 (part text j 6))) := by
  obtain ⟨⟨SA', sc', hS', hown⟩, hU1⟩ := hP
  obtain ⟨bits, nv, FA, fn, fc, wh, hC, hF⟩ := h.run
  have hb1 : b ≠ sb := Cells.ne_ hC hSt.blk (by decide)
  have hb2 : b ≠ sg := by
    have := own_ne hSt.at_ hC (by decide)
    simp [Value.ownBlock] at this
    omega
  have hb3 : (Value.slice SA L.length sc).ownBlock ≠ some b := own_ne hSt.own hC (by decide)
  have hCb : ¬ (b = sb ∨ b = sg ∨ (Value.slice SA L.length sc).ownBlock = some b) := by
    rintro (e | e | e)
    · exact hb1 e
    · exact hb2 e
    · exact hb3 e
  have hC1 := hC.upd hU1 hCb
  have hAb : (Value.slice SA' ([] : List Nat).length sc').ownBlock ≠ some b := own_ne hS'.own hC1 (by decide)
  have hUb : Upd (fun k => k = b) w1 (w3.setCell ⟨b, 0 + 5, none⟩ (.int .i64 (part text j 6))) :=
    ((setCell_upd (F := fun k => k = b) w1 ⟨b, 0 + 7, none⟩ (.slice none 0 0) rfl).trans (hU3.mono (G := fun k => k = b) (fun _ _ h => absurd h not_nob)) (fun _ _ h => h)).setCell ⟨b, 0 + 5, none⟩ _ (fun _ => rfl)
  have hU4 : Upd (Fp b sb sg O none) w (w3.setCell ⟨b, 0 + 5, none⟩ (.int .i64 (part text j 6))) := by
    refine (hU1.mono (fun k _ hk => ?_)).trans hUb (fun k _ e => .inl e)
    rcases hk with e | e | e
    · exact .inr (.inl e)
    · exact .inr (.inr (.inl e))
    · exact .inr (.inr (.inr (.inl (hO.symm.trans e))))
  have hPU : PkUpd b sb sg O (Value.slice SA' ([] : List Nat).length sc').ownBlock none none w (w3.setCell ⟨b, 0 + 5, none⟩ (.int .i64 (part text j 6))) := ⟨hU4, hown.imp (fun e => e.trans hO) id, .inl rfl⟩
  have hk := h.keep hPU
  have heb := h.eb
  have hsb := hSt.low
  have hsg := (hSt.at_.lt sg rfl).1
  have hS : ∀ k, k < e0 → ¬ Fp b sb sg O none k := by
    rintro k hk (e | e | e | e | e)
    · omega
    · omega
    · omega
    · have := (hSt.own.lt k (hO.trans e)).1; omega
    · cases e
  refine ⟨_, ⟨h.insts.upd hU4 hS, h.txt.upd hU4 hS, h.eb, h.ew, hU4.size, fresh_len _ _ _, ⟨SA', sc', ats, [], hS'.upd hUb (fun e => hb1 e.symm) (fun e => hb2 e.symm) (fun k hk e => hAb (e ▸ hk)), rfl, fun pc hpc => ?_⟩,
    ⟨none, 0, [], FA, fn, fc, wh, ?_, World.ownsRow_nil _ _ _ _, rfl, ⟨rfl, fun i pc caps hi => by simp [fresh] at hi⟩, hF.keep hk⟩, ?_, ?_⟩, hPU⟩
  · show (List.replicate is.length false)[pc]? = some true ↔ _
    rw [List.getElem?_replicate]
    simp
  · exact (((hC1.set_ (0 + 7) (.slice none 0 0)).upd hU3 not_nob).set_ (0 + 5) (.int .i64 (part text j 6)))
  · show steps + (List.replicate is.length false).count false ≤ _
    simp
    omega
  · show 0 + (List.replicate is.length false).count false ≤ _
    simp
    omega
end
end Go.Proofs.Ytnkefclbchpafaa
