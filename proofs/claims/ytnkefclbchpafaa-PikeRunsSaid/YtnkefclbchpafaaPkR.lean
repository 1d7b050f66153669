/-
  pike's run in memory: what a visit finds there and what it leaves.
-/
import Derived.Test.YtnkefclbchpafaaSpSet
namespace Go.Proofs.Ytnkefclbchpafaa
open Go.RowKit
set_option linter.unusedVariables false

theorem info_pthread : (Try.prog.info? 108).map (fun i => (i.zero, i.size, i.bytes)) = some (some (.agg #[.int .i64 0, .slice none 0 0]), 2, 32) := by kernel_rfl

/-- what a step may turn: the run's block, the set's, the next row's -/
def Fp (b sb sg : Nat) (O NO : Option Nat) (k : Nat) : Prop := k = b ∨ k = sb ∨ k = sg ∨ O = some k ∨ NO = some k
/-- a step: the set's list, the next row stay in their blocks or go to new ones -/
structure PkUpd (b sb sg : Nat) (O O' NO NO' : Option Nat) (w w' : World) : Prop where
  upd : Upd (Fp b sb sg O NO) w w'
  own : O' = O ∨ ∃ k, O' = some k ∧ w.heap.size ≤ k
  nown : NO' = NO ∨ ∃ k, NO' = some k ∧ w.heap.size ≤ k
theorem PkUpd.refl (b sb sg : Nat) (O NO : Option Nat) (w : World) : PkUpd b sb sg O O NO NO w w := ⟨Upd.refl _ _, .inl rfl, .inl rfl⟩
theorem PkUpd.still {b sb sg : Nat} {O NO : Option Nat} {w w' : World} (h : Upd Nob w w') : PkUpd b sb sg O O NO NO w w' := ⟨h.mono (fun _ _ h => absurd h not_nob), .inl rfl, .inl rfl⟩
theorem PkUpd.trans {b sb sg : Nat} {O O1 O2 NO NO1 NO2 : Option Nat} {w w1 w2 : World} (h : PkUpd b sb sg O O1 NO NO1 w w1) (g : PkUpd b sb sg O1 O2 NO1 NO2 w1 w2) : PkUpd b sb sg O O2 NO NO2 w w2 := by
  refine ⟨h.upd.trans g.upd (fun k hk hf => ?_), ?_, ?_⟩
  · rcases hf with e | e | e | e | e
    · exact .inl e
    · exact .inr (.inl e)
    · exact .inr (.inr (.inl e))
    · rcases h.own with h1 | ⟨k1, h1, h2⟩
      · exact .inr (.inr (.inr (.inl (h1 ▸ e))))
      · rw [h1] at e; injection e with e; omega
    · rcases h.nown with h1 | ⟨k1, h1, h2⟩
      · exact .inr (.inr (.inr (.inr (h1 ▸ e))))
      · rw [h1] at e; injection e with e; omega
  · rcases g.own with h1 | ⟨k1, h1, h2⟩
    · rw [h1]; exact h.own
    · exact .inr ⟨k1, h1, Nat.le_trans h.upd.size h2⟩
  · rcases g.nown with h1 | ⟨k1, h1, h2⟩
    · rw [h1]; exact h.nown
    · exact .inr ⟨k1, h1, Nat.le_trans h.upd.size h2⟩

def pikeCells (A : Option Addr) (n c : Nat) (st cp : Int) (T : Option Addr) (tn tc : Nat) (j : Nat) (bits : Int) (sb : Nat) (N : Option Addr) (nn nc : Nat) (ok : Bool) (FA : Option Addr) (fn fc : Nat) (wh : Int) (steps : Nat) : Array Value :=
  #[.slice A n c, .int .i64 st, .int .i64 cp, .slice T tn tc, .int .i64 (j : Int), .int .i64 bits, .pointer (some ⟨sb, 0, none⟩), .slice N nn nc, .bool ok, .slice FA fn fc, .int .i64 wh, .int .i64 0, .int .i64 (steps : Int)]

/-- captures in memory: of integers, none of the set's blocks -/
def CapQ (w : World) (sg : Nat) (O : Option Nat) (A : Option Addr) (n : Nat) (caps : List Int) : Prop := Reads w (fun k => IntB w k ∧ k ≠ sg ∧ O ≠ some k) 1 A n (intv caps)
def ThQ (w : World) (sg : Nat) (O : Option Nat) (n ncaps : Nat) (ths : List (Nat × List Int)) (xs : List Value) : Prop :=
  xs.length = ths.length * 2 ∧ ∀ i pc caps, ths[i]? = some (pc, caps) → pc < n ∧ caps.length = ncaps ∧ ∃ A c, xs[i * 2]? = some (.int .i64 (pc : Int)) ∧ xs[i * 2 + 1]? = some (.slice A ncaps c) ∧ CapQ w sg O A ncaps caps
def FoundQ (w : World) (sg : Nat) (O : Option Nat) (ncaps : Nat) (fo : Option (List Int × Int)) (A : Option Addr) (fn : Nat) (wh : Int) : Prop :=
  (fo = none ∧ fn = 0 ∧ wh = 0) ∨ ∃ caps, fo = some (caps, wh) ∧ fn = ncaps ∧ caps.length = ncaps ∧ CapQ w sg O A ncaps caps

/-- the blocks of captures stay -/
def CapKeep (sg : Nat) (O O' : Option Nat) (w w' : World) : Prop := w.heap.size ≤ w'.heap.size ∧ ∀ k, k < w.heap.size → IntB w k → k ≠ sg → O ≠ some k → w'.heap[k]? = w.heap[k]? ∧ O' ≠ some k
theorem CapQ.keep {w w' : World} {sg : Nat} {O O' : Option Nat} {A : Option Addr} {n : Nat} {caps : List Int} (h : CapQ w sg O A n caps) (hk : CapKeep sg O O' w w') : CapQ w' sg O' A n caps := by
  refine ⟨h.1, fun hn => ?_⟩
  obtain ⟨ad, e, hb, ⟨hi, h1, h2⟩, hc⟩ := h.2 hn
  obtain ⟨k1, k2⟩ := hk.2 _ hb hi h1 h2
  refine ⟨ad, e, Nat.lt_of_lt_of_le hb hk.1, ⟨?_, h1, k2⟩, fun j u hu => ?_⟩
  · obtain ⟨cs, fr, hs2⟩ := hi
    exact ⟨cs, fr, k1.trans hs2⟩
  · exact (World.cell?_of_block (by rw [add_block]; exact k1)).trans (hc j u hu)
theorem ThQ.keep {w w' : World} {sg : Nat} {O O' : Option Nat} {n m : Nat} {ths : List (Nat × List Int)} {xs : List Value} (h : ThQ w sg O n m ths xs) (hk : CapKeep sg O O' w w') : ThQ w' sg O' n m ths xs :=
  ⟨h.1, fun i pc caps hi => by
    obtain ⟨h1, h2, A, c, h3, h4, h5⟩ := h.2 i pc caps hi
    exact ⟨h1, h2, A, c, h3, h4, h5.keep hk⟩⟩
theorem FoundQ.keep {w w' : World} {sg : Nat} {O O' : Option Nat} {m : Nat} {fo : Option (List Int × Int)} {A : Option Addr} {fn : Nat} {wh : Int} (h : FoundQ w sg O m fo A fn wh) (hk : CapKeep sg O O' w w') : FoundQ w' sg O' m fo A fn wh := by
  rcases h with h | ⟨caps, h1, h2, h3, h4⟩
  · exact .inl h
  · exact .inr ⟨caps, h1, h2, h3, h4.keep hk⟩
theorem CapQ.of_own {w : World} {base g n c sg : Nat} {O : Option Nat} {caps : List Int} (h : w.ownsRow base 3 1 (.slice (some ⟨g, 0, none⟩) n c) n (intv caps)) (h1 : g ≠ sg) (h2 : O ≠ some g) : CapQ w sg O (some ⟨g, 0, none⟩) n caps :=
  (Reads.of_own h).weaken (fun k hk => by
    have e : g = k := by simpa [Value.ownBlock] using hk
    subst e
    obtain ⟨cur, hC, -⟩ := own_cells h rfl
    exact ⟨⟨cur, _, hC⟩, h1, h2⟩)
theorem ThQ.more {w : World} {sg : Nat} {O : Option Nat} {n m : Nat} {ths : List (Nat × List Int)} {xs : List Value} (h : ThQ w sg O n m ths xs) {pc : Nat} {caps : List Int} {A : Option Addr} {c : Nat} (hp : pc < n) (hl : caps.length = m) (hc : CapQ w sg O A m caps) :
    ThQ w sg O n m (ths ++ [(pc, caps)]) (xs ++ [.int .i64 (pc : Int), .slice A m c]) := by
  refine ⟨by simp [h.1]; omega, fun i pc2 caps2 hi => ?_⟩
  by_cases hlt : i < ths.length
  · rw [List.getElem?_append_left hlt] at hi
    obtain ⟨h1, h2, A2, c2, h3, h4, h5⟩ := h.2 i pc2 caps2 hi
    exact ⟨h1, h2, A2, c2, by rw [List.getElem?_append_left (by rw [h.1]; omega)]; exact h3, by rw [List.getElem?_append_left (by rw [h.1]; omega)]; exact h4, h5⟩
  · have hil := (List.getElem?_eq_some_iff.1 hi).1
    simp only [List.length_append, List.length_singleton] at hil
    obtain rfl : i = ths.length := by omega
    rw [List.getElem?_append_right (Nat.le_refl _)] at hi
    simp at hi
    obtain ⟨rfl, rfl⟩ := hi
    refine ⟨hp, hl, A, c, ?_, ?_, hc⟩
    · rw [List.getElem?_append_right (by rw [h.1]; omega), h.1]; simp
    · rw [List.getElem?_append_right (by rw [h.1]; omega), h.1]; simp

/-- pike's run at a place: the block of the run b, of the set sb, sg; O: the block of the set's list; NO: the block of the next row -/
structure PkR (w : World) (n0 e0 b sb sg : Nat) (O NO : Option Nat) (A : Option Addr) (c : Nat) (is : List PInst) (st : Int) (ncaps : Nat) (T : Option Addr) (tc : Nat) (text : List Int) (j : Nat) (s : VSt) : Prop where
  insts : InstsR w (· < e0) A is.length is
  txt : TextR w (· < e0) T text.length text
  eb : e0 ≤ b
  en : e0 ≤ n0
  n0w : n0 ≤ w.heap.size
  mlen : s.met.length = is.length
  set_ : ∃ SA sc ats L, SetR w e0 sb sg is.length SA sc ats L ∧ (Value.slice SA L.length sc).ownBlock = O ∧ (∀ pc, pc < is.length → (s.met[pc]? = some true ↔ pc ∈ L))
  rest : ∃ N nc xs FA fn fc wh, Cells w b 73 (pikeCells A is.length c st ncaps T text.length tc j (part text j 6) sb N s.next.length nc s.found.isSome FA fn fc wh s.steps) ∧
    w.ownsRow n0 108 2 (.slice N s.next.length nc) s.next.length xs ∧ (Value.slice N s.next.length nc).ownBlock = NO ∧ ThQ w sg O is.length ncaps s.next xs ∧ FoundQ w sg O ncaps s.found FA fn wh
  work : s.steps + s.met.count false ≤ 1099511627776
  room : s.next.length + s.met.count false ≤ 20000

section
variable {w w' : World} {n0 e0 b sb sg : Nat} {O NO : Option Nat} {A : Option Addr} {c : Nat} {is : List PInst} {st : Int} {ncaps : Nat} {T : Option Addr} {tc : Nat} {text : List Int} {j : Nat} {s : VSt}
theorem Cells.not_int {t : TypeId} {cs : Array Value} {k : Nat} (h : Cells w k t cs) (ht : t ≠ 3) : ¬ IntB w k := by
  rintro ⟨cs2, fr, hk⟩
  unfold Cells at h
  rw [h] at hk
  injection hk with hk
  injection hk with _ hk
  exact ht hk
theorem PkR.b_int (h : PkR w n0 e0 b sb sg O NO A c is st ncaps T tc text j s) : ¬ IntB w b := by
  obtain ⟨N, nc, xs, FA, fn, fc, wh, hC, -⟩ := h.rest
  exact hC.not_int (by decide)
theorem PkR.sb_int (h : PkR w n0 e0 b sb sg O NO A c is st ncaps T tc text j s) : ¬ IntB w sb := by
  obtain ⟨SA, sc, ats, L, hS, -⟩ := h.set_
  exact hS.blk.not_int (by decide)
theorem PkR.keep {O' NO' : Option Nat} (h : PkR w n0 e0 b sb sg O NO A c is st ncaps T tc text j s) (hU : PkUpd b sb sg O O' NO NO' w w') : CapKeep sg O O' w w' := by
  refine ⟨hU.upd.size, fun k hk hi h1 h2 => ⟨hU.upd.block k hk ?_, ?_⟩⟩
  · rintro (e | e | e | e | e)
    · exact h.b_int (e ▸ hi)
    · exact h.sb_int (e ▸ hi)
    · exact h1 e
    · exact h2 e
    · obtain ⟨N, nc, xs, FA, fn, fc, wh, hC, hN, hNO, -⟩ := h.rest
      obtain ⟨cn, hcn, -⟩ := own_cells hN (hNO.trans e)
      exact hcn.not_int (by decide) hi
  · intro e
    rcases hU.own with h3 | ⟨k1, h3, h4⟩
    · exact h2 (h3 ▸ e)
    · rw [h3] at e; injection e with e; omega
/-- what lies below a place's base and is none of the run's blocks stays -/
theorem PkR.facts (h : PkR w n0 e0 b sb sg O NO A c is st ncaps T tc text j s) : e0 ≤ sb ∧ e0 ≤ sg ∧ (∀ k, O = some k → e0 ≤ k) ∧ b ≠ sb ∧ b ≠ sg ∧ (∀ k, O = some k → k ≠ b) ∧ (∀ k, NO = some k → n0 ≤ k ∧ k ≠ b ∧ k ≠ sb ∧ k ≠ sg ∧ O ≠ some k) := by
  obtain ⟨SA, sc, ats, L, hS, hO, -⟩ := h.set_
  obtain ⟨N, nc, xs, FA, fn, fc, wh, hC, hN, hNO, -⟩ := h.rest
  have hb1 : b ≠ sb := Cells.ne_ hC hS.blk (by decide)
  have hb2 := own_ne hS.at_ hC (by decide)
  have hb3 := own_ne hS.own hC (by decide)
  have hb4 := own_ne hN hC (by decide)
  have hb5 := own_ne hN hS.blk (by decide)
  obtain ⟨cg, hcg, -⟩ := own_cells hS.at_ rfl
  have hb6 := own_ne hN hcg (by decide)
  refine ⟨hS.low, (hS.at_.lt sg rfl).1, fun k hk => (hS.own.lt k (hO.trans hk)).1, hb1, ?_, ?_, ?_⟩
  · simp [Value.ownBlock] at hb2; omega
  · intro k hk e; subst e; exact hb3 (hO.trans hk)
  · intro k hk
    refine ⟨(hN.lt k (hNO.trans hk)).1, ?_, ?_, ?_, ?_⟩
    · intro e; subst e; exact hb4 (hNO.trans hk)
    · intro e; subst e; exact hb5 (hNO.trans hk)
    · intro e; subst e; exact hb6 (hNO.trans hk)
    · intro e
      obtain ⟨co, hco, -⟩ := own_cells hS.own (hO.trans e)
      exact own_ne hN hco (by decide) (hNO.trans hk)
/-- a step that leaves alone what the run holds -/
theorem PkR.far {F : Nat → Prop} (h : PkR w n0 e0 b sb sg O NO A c is st ncaps T tc text j s) (hU : Upd F w w') (hb : ¬ F b) (h1 : ¬ F sb) (h2 : ¬ F sg) (h3 : ∀ k, O = some k → ¬ F k) (h4 : ∀ k, NO = some k → ¬ F k) (hi : ∀ k, IntB w k → ¬ F k) (hS : ∀ k, k < e0 → ¬ F k) :
    PkR w' n0 e0 b sb sg O NO A c is st ncaps T tc text j s := by
  obtain ⟨SA, sc, ats, L, hSt, hO, hL⟩ := h.set_
  obtain ⟨N, nc, xs, FA, fn, fc, wh, hC, hN, hNO, hT, hF⟩ := h.rest
  have hk : CapKeep sg O O w w' := ⟨hU.size, fun k hk hi2 _ h6 => ⟨hU.block k hk (hi k hi2), h6⟩⟩
  exact ⟨h.insts.upd hU hS, h.txt.upd hU hS, h.eb, h.en, Nat.le_trans h.n0w hU.size, h.mlen, ⟨SA, sc, ats, L, hSt.upd hU h1 h2 (fun k hk => h3 k (hO.symm.trans hk)), hO, hL⟩,
    ⟨N, nc, xs, FA, fn, fc, wh, hC.upd hU hb, own_upd hN hU (fun k hk => h4 k (hNO.symm.trans hk)), hNO, hT.keep hk, hF.keep hk⟩, h.work, h.room⟩
theorem PkR.still (h : PkR w n0 e0 b sb sg O NO A c is st ncaps T tc text j s) (hU : Upd Nob w w') : PkR w' n0 e0 b sb sg O NO A c is st ncaps T tc text j s :=
  h.far hU not_nob not_nob not_nob (fun _ _ => not_nob) (fun _ _ => not_nob) (fun _ _ => not_nob) (fun _ _ => not_nob)
theorem CapKeep.still {sg : Nat} {O : Option Nat} {w w' : World} (hU : Upd Nob w w') : CapKeep sg O O w w' := ⟨hU.size, fun k hk _ _ h => ⟨hU.block k hk not_nob, h⟩⟩

theorem setCell_upd {F : Nat → Prop} (w : World) (p : Addr) (u : Value) (h : F p.block) : Upd F w (w.setCell p u) := (Upd.refl F w).setCell p u (fun _ => h)
/-- an instruction is taken up -/
theorem PkR.mark {w1 : World} {pc : Nat} {SA : Option Addr} {sc : Nat} {ats' L : List Nat} (h : PkR w n0 e0 b sb sg O NO A c is st ncaps T tc text j s) (hm : s.met[pc]? = some false)
    (hO : (Value.slice SA L.length sc).ownBlock = O) (hL : ∀ q, q < is.length → (s.met[q]? = some true ↔ q ∈ L)) (hP : SetP w w1 e0 sb sg is.length SA L.length sc ats' (L ++ [pc])) :
    ∃ O', PkR (w1.setCell ⟨b, 0 + 12, none⟩ (.int .i64 ((s.steps : Int) + 1))) n0 e0 b sb sg O' NO A c is st ncaps T tc text j (markS s pc) ∧ PkUpd b sb sg O O' NO NO w (w1.setCell ⟨b, 0 + 12, none⟩ (.int .i64 ((s.steps : Int) + 1))) := by
  obtain ⟨⟨SA', sc', hS', hown⟩, hU1⟩ := hP
  obtain ⟨f1, f2, f3, f4, f5, f6, f7⟩ := h.facts
  obtain ⟨N, nc, xs, FA, fn, fc, wh, hC, hN, hNO, hT, hF⟩ := h.rest
  have hpc := (List.getElem?_eq_some_iff.1 hm).1
  have hcm := count_met hm
  have heb := h.eb
  have hCb : ¬ (b = sb ∨ b = sg ∨ (Value.slice SA L.length sc).ownBlock = some b) := by
    rintro (e | e | e)
    · exact f4 e
    · exact f5 e
    · exact f6 b (hO.symm.trans e) rfl
  have hC1 := hC.upd hU1 hCb
  have hAb : (Value.slice SA' (L ++ [pc]).length sc').ownBlock ≠ some b := own_ne hS'.own hC1 (by decide)
  have hU2 : Upd (Fp b sb sg O NO) w (w1.setCell ⟨b, 0 + 12, none⟩ (.int .i64 ((s.steps : Int) + 1))) := by
    refine (hU1.mono (fun k _ hk => ?_)).setCell _ _ (fun _ => .inl rfl)
    rcases hk with e | e | e
    · exact .inr (.inl e)
    · exact .inr (.inr (.inl e))
    · exact .inr (.inr (.inr (.inl (hO.symm.trans e))))
  have hPU : PkUpd b sb sg O (Value.slice SA' (L ++ [pc]).length sc').ownBlock NO NO w (w1.setCell ⟨b, 0 + 12, none⟩ (.int .i64 ((s.steps : Int) + 1))) := ⟨hU2, hown.imp (fun e => e.trans hO) id, .inl rfl⟩
  have hk := h.keep hPU
  have hen := h.en
  have hS : ∀ k, k < e0 → ¬ Fp b sb sg O NO k := by
    rintro k hk (e | e | e | e | e)
    · omega
    · omega
    · omega
    · have := f3 k e; omega
    · have := (f7 k e).1; omega
  have hNs : ∀ k, (Value.slice N s.next.length nc).ownBlock = some k → ¬ (k = sb ∨ k = sg ∨ (Value.slice SA L.length sc).ownBlock = some k) := by
    intro k hk
    obtain ⟨g1, g2, g3, g4, g5⟩ := f7 k (hNO.symm.trans hk)
    rintro (e | e | e)
    · exact g3 e
    · exact g4 e
    · exact g5 (hO.symm.trans e)
  have hNb : (Value.slice N s.next.length nc).ownBlock ≠ some b := own_ne hN hC (by decide)
  refine ⟨_, ⟨h.insts.upd hU2 hS, h.txt.upd hU2 hS, h.eb, h.en, Nat.le_trans h.n0w hU2.size, ?_, ⟨SA', sc', _, L ++ [pc], hS'.upd (setCell_upd (F := fun k => k = b) w1 _ _ rfl) (fun e => f4 e.symm) (fun e => f5 e.symm) (fun k hk e => hAb (e ▸ hk)), rfl, ?_⟩,
    ⟨N, nc, xs, FA, fn, fc, wh, hC1.set_ 12 _, own_far (own_upd hN hU1 hNs) _ _ hNb, hNO, hT.keep hk, hF.keep hk⟩, ?_, ?_⟩, hPU⟩
  · show (s.met.set pc true).length = _
    rw [List.length_set, h.mlen]
  · intro q hq
    show (s.met.set pc true)[q]? = some true ↔ _
    by_cases e : pc = q
    · subst e
      rw [List.getElem?_set_self hpc]
      simp
    · rw [List.getElem?_set_ne e, hL q hq]
      simp [Ne.symm e]
  · show s.steps + 1 + (s.met.set pc true).count false ≤ _
    have := h.work
    omega
  · show s.next.length + (s.met.set pc true).count false ≤ _
    have := h.room
    omega
/-- a thread is put behind the next row -/
theorem PkR.pushed {w1 w9 : World} {N : Option Addr} {nc : Nat} {xs : List Value} {FA : Option Addr} {fn fc : Nat} {wh : Int} {px : Nat} {caps : List Int} {C : Option Addr} {cc gN cN : Nat}
    (h : PkR w n0 e0 b sb sg O NO A c is st ncaps T tc text j s)
    (hC : Cells w b 73 (pikeCells A is.length c st ncaps T text.length tc j (part text j 6) sb N s.next.length nc s.found.isSome FA fn fc wh s.steps))
    (hN : w.ownsRow n0 108 2 (.slice N s.next.length nc) s.next.length xs) (hNO : (Value.slice N s.next.length nc).ownBlock = NO) (hT : ThQ w sg O is.length ncaps s.next xs) (hF : FoundQ w sg O ncaps s.found FA fn wh)
    (hp : px < is.length) (hcl : caps.length = ncaps) (hQ : CapQ w sg O C ncaps caps) (hroom : s.next.length + s.met.count false + 1 ≤ 20000)
    (hUa : Upd Nob w w1) (hg : w1.grownBy w9 (Value.slice N s.next.length nc).ownBlock)
    (hat : some gN = (Value.slice N s.next.length nc).ownBlock ∨ w.heap.size ≤ gN)
    (ho : w9.ownsRow n0 108 2 (.slice (some ⟨gN, 0, none⟩) (s.next.length + 1) cN) (s.next.length + 1) (xs ++ [.int .i64 (px : Int), .slice C ncaps cc])) :
    PkR (w9.setCell ⟨b, 0 + 7, none⟩ (.slice (some ⟨gN, 0, none⟩) (s.next.length + 1) cN)) n0 e0 b sb sg O (some gN) A c is st ncaps T tc text j { s with next := s.next ++ [(px, caps)] } ∧
    PkUpd b sb sg O O NO (some gN) w (w9.setCell ⟨b, 0 + 7, none⟩ (.slice (some ⟨gN, 0, none⟩) (s.next.length + 1) cN)) := by
  obtain ⟨f1, f2, f3, f4, f5, f6, f7⟩ := h.facts
  obtain ⟨SA, sc, ats, L, hSt, hO, hL⟩ := h.set_
  have heb := h.eb
  have hbn : (Value.slice N s.next.length nc).ownBlock ≠ some b := own_ne hN hC (by decide)
  have hB9 := (hC.upd hUa not_nob).grown hg hbn
  have hob : (Value.slice (some ⟨gN, 0, none⟩) (s.next.length + 1) cN).ownBlock ≠ some b := own_ne ho hB9 (by decide)
  have hU' : Upd (fun k => k = b ∨ NO = some k) w (w9.setCell ⟨b, 0 + 7, none⟩ (.slice (some ⟨gN, 0, none⟩) (s.next.length + 1) cN)) := by
    refine ((hUa.mono (fun _ _ h => absurd h not_nob)).grown hg (fun k hk _ => ?_)).setCell _ _ (fun _ => .inl rfl)
    exact .inr (hNO.symm.trans hk)
  have hU : Upd (Fp b sb sg O NO) w (w9.setCell ⟨b, 0 + 7, none⟩ (.slice (some ⟨gN, 0, none⟩) (s.next.length + 1) cN)) := hU'.mono (fun k _ hk => hk.elim .inl (fun h => .inr (.inr (.inr (.inr h)))))
  have hPU : PkUpd b sb sg O O NO (some gN) w (w9.setCell ⟨b, 0 + 7, none⟩ (.slice (some ⟨gN, 0, none⟩) (s.next.length + 1) cN)) := ⟨hU, .inl rfl, hat.elim (fun e => .inl (e.trans hNO)) (fun e => .inr ⟨gN, rfl, e⟩)⟩
  have hk := h.keep hPU
  have hS : ∀ k, k < e0 → ¬ (k = b ∨ NO = some k) := by
    rintro k hk (e | e)
    · omega
    · have := h.en
      have := (f7 k e).1
      omega
  have hx : ∀ k, (k = sb ∨ k = sg ∨ O = some k) → ¬ (k = b ∨ NO = some k) := by
    rintro k hk (e | e)
    · rcases hk with e2 | e2 | e2
      · exact f4 (e.symm.trans e2)
      · exact f5 (e.symm.trans e2)
      · exact f6 k e2 e
    · obtain ⟨-, -, g3, g4, g5⟩ := f7 k e
      rcases hk with e2 | e2 | e2
      · exact g3 e2
      · exact g4 e2
      · exact g5 e2
  have el : (s.next ++ [(px, caps)]).length = s.next.length + 1 := by simp
  refine ⟨⟨h.insts.upd hU' hS, h.txt.upd hU' hS, h.eb, h.en, Nat.le_trans h.n0w hU'.size, h.mlen, ⟨SA, sc, ats, L, hSt.upd hU' (hx _ (.inl rfl)) (hx _ (.inr (.inl rfl))) (fun k hk => hx k (.inr (.inr (hO.symm.trans hk)))), hO, hL⟩,
    ⟨some ⟨gN, 0, none⟩, cN, xs ++ [.int .i64 (px : Int), .slice C ncaps cc], FA, fn, fc, wh, ?_, ?_, rfl, (hT.keep hk).more hp hcl (hQ.keep hk), hF.keep hk⟩, h.work, ?_⟩, hPU⟩
  · show Cells _ b _ (pikeCells A is.length c st ncaps T text.length tc j (part text j 6) sb (some ⟨gN, 0, none⟩) (s.next ++ [(px, caps)]).length cN s.found.isSome FA fn fc wh s.steps)
    rw [el]
    exact hB9.set_ 7 _
  · show World.ownsRow _ _ _ _ (.slice (some ⟨gN, 0, none⟩) (s.next ++ [(px, caps)]).length cN) (s.next ++ [(px, caps)]).length _
    rw [el]
    exact own_far ho _ _ hob
  · show (s.next ++ [(px, caps)]).length + s.met.count false ≤ _
    rw [el]
    omega
/-- a Match is come to -/
theorem PkR.hit {C : Option Addr} {cc : Nat} {wh' : Int} {caps : List Int} {over : Bool} (h : PkR w n0 e0 b sb sg O NO A c is st ncaps T tc text j s) (hcl : caps.length = ncaps) (hQ : CapQ w sg O C ncaps caps) :
    PkR ((((w.setCell ⟨b, 0 + 8, none⟩ (.bool true)).setCell ⟨b, 0 + 8 + 1, none⟩ (.slice C ncaps cc)).setCell ⟨b, 0 + 8 + 2, none⟩ (.int .i64 wh')).setCell ⟨b, 0 + 8 + 3, none⟩ (.int .i64 0)) n0 e0 b sb sg O NO A c is st ncaps T tc text j { s with found := some (caps, wh'), over := over } ∧
    PkUpd b sb sg O O NO NO w ((((w.setCell ⟨b, 0 + 8, none⟩ (.bool true)).setCell ⟨b, 0 + 8 + 1, none⟩ (.slice C ncaps cc)).setCell ⟨b, 0 + 8 + 2, none⟩ (.int .i64 wh')).setCell ⟨b, 0 + 8 + 3, none⟩ (.int .i64 0)) := by
  obtain ⟨f1, f2, f3, f4, f5, f6, f7⟩ := h.facts
  obtain ⟨SA, sc, ats, L, hSt, hO, hL⟩ := h.set_
  obtain ⟨N, nc, xs, FA, fn, fc, wh, hC, hN, hNO, hT, hF⟩ := h.rest
  have heb := h.eb
  have hU : Upd (fun k => k = b) w ((((w.setCell ⟨b, 0 + 8, none⟩ (.bool true)).setCell ⟨b, 0 + 8 + 1, none⟩ (.slice C ncaps cc)).setCell ⟨b, 0 + 8 + 2, none⟩ (.int .i64 wh')).setCell ⟨b, 0 + 8 + 3, none⟩ (.int .i64 0)) :=
    ((((Upd.refl (fun k => k = b) w).setCell ⟨b, 0 + 8, none⟩ _ (fun _ => rfl)).setCell ⟨b, 0 + 8 + 1, none⟩ _ (fun _ => rfl)).setCell ⟨b, 0 + 8 + 2, none⟩ _ (fun _ => rfl)).setCell ⟨b, 0 + 8 + 3, none⟩ _ (fun _ => rfl)
  have hPU : PkUpd b sb sg O O NO NO w _ := ⟨hU.mono (fun k _ hk => .inl hk), .inl rfl, .inl rfl⟩
  have hk := h.keep hPU
  refine ⟨⟨h.insts.upd hU (fun k hk e => by omega), h.txt.upd hU (fun k hk e => by omega), h.eb, h.en, Nat.le_trans h.n0w hU.size, h.mlen, ⟨SA, sc, ats, L, hSt.upd hU (fun e => f4 e.symm) (fun e => f5 e.symm) (fun k hk e => f6 k (hO.symm.trans hk) e), hO, hL⟩,
    ⟨N, nc, xs, C, ncaps, cc, wh', (((hC.set_ (0 + 8) _).set_ (0 + 8 + 1) _).set_ (0 + 8 + 2) _).set_ (0 + 8 + 3) _, own_upd hN hU (fun k hk e => (f7 k (hNO.symm.trans hk)).2.1 e), hNO, hT.keep hk, .inr ⟨caps, rfl, rfl, hcl, hQ.keep hk⟩⟩, h.work, h.room⟩, hPU⟩
end
end Go.Proofs.Ytnkefclbchpafaa
