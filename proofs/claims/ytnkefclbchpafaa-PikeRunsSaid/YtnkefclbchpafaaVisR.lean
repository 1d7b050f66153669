/-
  The document's run in memory: what a visit finds there and what it leaves (VisR); plain lemmas of a visit's arms.
-/
import Derived.Test.YtnkefclbchpafaaRefHas
namespace Go.Proofs.Ytnkefclbchpafaa
open Go.RowKit
set_option linter.unusedVariables false

theorem vinfo_int : (Try.prog.info? 3).map (fun i => (i.zero, i.size, i.bytes)) = some (some (.int .i64 0), 1, 8) := by kernel_rfl
theorem vinfo_bool : (Try.prog.info? 4).map (fun i => (i.zero, i.size, i.bytes)) = some (some (.bool false), 1, 1) := by kernel_rfl
theorem vinfo_thread : (Try.prog.info? 83).map (fun i => (i.zero, i.size, i.bytes)) = some (some (.agg #[.int .i64 0, .slice none 0 0]), 2, 32) := by kernel_rfl

def bvs (bs : List Bool) : List Value := bs.map Value.bool
theorem bvs_length (bs : List Bool) : (bvs bs).length = bs.length := by simp [bvs]
theorem bvs_at {bs : List Bool} {k : Nat} {x : Bool} (h : bs[k]? = some x) : (bvs bs)[k]? = some (.bool x) := by simp [bvs, h]

/-- a block of integers -/
def IntB (w : World) (k : Nat) : Prop := ∃ cs fr, w.heap[k]? = some (.cells cs 3 fr)
/-- a block of threads -/
def ThrB (w : World) (k : Nat) : Prop := ∃ cs fr, w.heap[k]? = some (.cells cs 83 fr)
/-- what a visit may turn: the run's block; the block of what is met, threads: of the place's own -/
def Fr (n0 b mb : Nat) (w : World) (k : Nat) : Prop := k = b ∨ (n0 ≤ k ∧ (k = mb ∨ ThrB w k))
theorem Fr.back {n0 b mb : Nat} {w w1 : World} (h : Upd (Fr n0 b mb w) w w1) {k : Nat} (hk : k < w.heap.size) (hf : Fr n0 b mb w1 k) : Fr n0 b mb w k := by
  refine Classical.byContradiction fun hn => ?_
  obtain h1 | ⟨h0, h1 | ⟨cs, fr, h1⟩⟩ := hf
  · exact hn (.inl h1)
  · exact hn (.inr ⟨h0, .inl h1⟩)
  · rw [h.block k hk hn] at h1
    exact hn (.inr ⟨h0, .inr ⟨cs, fr, h1⟩⟩)
theorem Fr.trans {n0 b mb : Nat} {w w1 w2 : World} (h : Upd (Fr n0 b mb w) w w1) (g : Upd (Fr n0 b mb w1) w1 w2) : Upd (Fr n0 b mb w) w w2 :=
  h.trans g (fun k hk hf => Fr.back h hk hf)

/-- the program's slice, its Start and Caps; the text; the place; met; next; found (Ok, Caps, Which, Steps); over -/
def runCells (A : Option Addr) (n c : Nat) (st cp : Int) (T : Option Addr) (tn tc j mb mc : Nat) (N : Option Addr) (nn nc : Nat) (ok : Bool) (FA : Option Addr) (fn fc : Nat) (wh : Int) (steps : Nat) (over : Bool) : Array Value :=
  #[.slice A n c, .int .i64 st, .int .i64 cp, .slice T tn tc, .int .i64 (j : Int), .slice (some ⟨mb, 0, none⟩) n mc, .slice N nn nc, .bool ok, .slice FA fn fc, .int .i64 wh, .int .i64 (steps : Int), .bool over]

/-- captures in memory -/
def CapR (w : World) (A : Option Addr) (n : Nat) (caps : List Int) : Prop := Reads w (IntB w) 1 A n (intv caps)
theorem capR_own {w : World} {base g n c : Nat} {caps : List Int} (h : w.ownsRow base 3 1 (.slice (some ⟨g, 0, none⟩) n c) n (intv caps)) : CapR w (some ⟨g, 0, none⟩) n caps :=
  (Reads.of_own h).weaken (fun k hk => by obtain ⟨cur, hC, -⟩ := own_cells h hk; exact ⟨cur, _, hC⟩)
/-- threads in memory: an instruction of the program's n, so many captures -/
def ThR (w : World) (n ncaps : Nat) (ths : List (Nat × List Int)) (xs : List Value) : Prop :=
  xs.length = ths.length * 2 ∧ ∀ i pc caps, ths[i]? = some (pc, caps) → pc < n ∧ caps.length = ncaps ∧ ∃ A c, xs[i * 2]? = some (.int .i64 (pc : Int)) ∧ xs[i * 2 + 1]? = some (.slice A ncaps c) ∧ CapR w A ncaps caps
/-- what is found -/
def FoundR (w : World) (ncaps : Nat) (fo : Option (List Int × Int)) (A : Option Addr) (fn : Nat) (wh : Int) : Prop :=
  (fo = none ∧ fn = 0 ∧ wh = 0) ∨ ∃ caps, fo = some (caps, wh) ∧ fn = ncaps ∧ caps.length = ncaps ∧ CapR w A ncaps caps

theorem ThR.more {w : World} {n m : Nat} {ths : List (Nat × List Int)} {xs : List Value} (h : ThR w n m ths xs) {pc : Nat} {caps : List Int} {A : Option Addr} {c : Nat} (hp : pc < n) (hl : caps.length = m) (hc : CapR w A m caps) :
    ThR w n m (ths ++ [(pc, caps)]) (xs ++ [.int .i64 (pc : Int), .slice A m c]) := by
  refine ⟨by simp [h.1]; omega, fun i pc2 caps2 hi => ?_⟩
  by_cases hlt : i < ths.length
  · rw [List.getElem?_append_left hlt] at hi
    obtain ⟨h1, h2, A2, c2, h3, h4, h5⟩ := h.2 i pc2 caps2 hi
    exact ⟨h1, h2, A2, c2, by rw [List.getElem?_append_left (by rw [h.1]; omega)]; exact h3, by rw [List.getElem?_append_left (by rw [h.1]; omega)]; exact h4, h5⟩
  · have hil := (List.getElem?_eq_some_iff.1 hi).1
    simp only [List.length_append, List.length_singleton] at hil
    obtain rfl : i = ths.length := by omega
    rw [List.getElem?_append_right (Nat.le_refl _)] at hi
    simp at hi
    obtain ⟨rfl, rfl⟩ := hi
    refine ⟨hp, hl, A, c, ?_, ?_, hc⟩
    · rw [List.getElem?_append_right (by rw [h.1]; omega), h.1]; simp
    · rw [List.getElem?_append_right (by rw [h.1]; omega), h.1]; simp
/-- what can be said of the integers' blocks between two worlds -/
def IntKeep (w w' : World) : Prop := w.heap.size ≤ w'.heap.size ∧ ∀ k, IntB w k → w'.heap[k]? = w.heap[k]?
theorem IntB.lt {w : World} {k : Nat} (h : IntB w k) : k < w.heap.size := by
  obtain ⟨cs, fr, h⟩ := h
  exact (Array.getElem?_eq_some_iff.1 h).1
theorem CapR.keep {w w' : World} {A : Option Addr} {n : Nat} {caps : List Int} (h : CapR w A n caps) (hk : IntKeep w w') : CapR w' A n caps := by
  refine ⟨h.1, fun hn => ?_⟩
  obtain ⟨ad, e, hb, hs, hc⟩ := h.2 hn
  refine ⟨ad, e, Nat.lt_of_lt_of_le hb hk.1, ?_, fun j u hu => ?_⟩
  · obtain ⟨cs, fr, hs2⟩ := hs
    exact ⟨cs, fr, (hk.2 _ ⟨cs, fr, hs2⟩).trans hs2⟩
  · exact (World.cell?_of_block (by rw [add_block]; exact hk.2 _ hs)).trans (hc j u hu)
theorem ThR.keep {w w' : World} {n m : Nat} {ths : List (Nat × List Int)} {xs : List Value} (h : ThR w n m ths xs) (hk : IntKeep w w') : ThR w' n m ths xs :=
  ⟨h.1, fun i pc caps hi => by
    obtain ⟨h1, h2, A, c, h3, h4, h5⟩ := h.2 i pc caps hi
    exact ⟨h1, h2, A, c, h3, h4, h5.keep hk⟩⟩
theorem FoundR.keep {w w' : World} {m : Nat} {fo : Option (List Int × Int)} {A : Option Addr} {fn : Nat} {wh : Int} (h : FoundR w m fo A fn wh) (hk : IntKeep w w') : FoundR w' m fo A fn wh := by
  rcases h with h | ⟨caps, h1, h2, h3, h4⟩
  · exact .inl h
  · exact .inr ⟨caps, h1, h2, h3, h4.keep hk⟩
theorem IntKeep.trans {w w1 w2 : World} (h : IntKeep w w1) (g : IntKeep w1 w2) : IntKeep w w2 :=
  ⟨Nat.le_trans h.1 g.1, fun k hk => by
    have h1 := h.2 k hk
    obtain ⟨cs, fr, hk⟩ := hk
    exact (g.2 k ⟨cs, fr, h1.trans hk⟩).trans h1⟩
/-- a step that leaves the blocks of integers alone -/
theorem IntKeep.of {F : Nat → Prop} {w w' : World} (hU : Upd F w w') (hF : ∀ k, IntB w k → ¬ F k) : IntKeep w w' :=
  ⟨hU.size, fun k hk => hU.block k hk.lt (hF k hk)⟩

structure VisR (w : World) (n0 b mb mc : Nat) (A : Option Addr) (c : Nat) (is : List PInst) (st : Int) (ncaps : Nat) (T : Option Addr) (tc : Nat) (text : List Int) (j : Nat) (s : VSt) : Prop where
  insts : InstsR w (fun k => k < n0 ∧ k ≠ b) A is.length is
  txt : TextR w (fun k => k < n0 ∧ k ≠ b) T text.length text
  n0w : n0 ≤ w.heap.size
  mlen : s.met.length = is.length
  met : w.ownsRow n0 4 1 (.slice (some ⟨mb, 0, none⟩) is.length mc) is.length (bvs s.met)
  rest : ∃ N nc xs FA fn fc wh, Cells w b 80 (runCells A is.length c st ncaps T text.length tc j mb mc N s.next.length nc s.found.isSome FA fn fc wh s.steps s.over) ∧
    w.ownsRow n0 83 2 (.slice N s.next.length nc) s.next.length xs ∧ ThR w is.length ncaps s.next xs ∧ FoundR w ncaps s.found FA fn wh
  work : s.steps + s.met.count false ≤ 1099511627776
  room : s.next.length + s.met.count false ≤ 20000

theorem VisR.notint {w : World} {n0 b mb mc : Nat} {A : Option Addr} {c : Nat} {is : List PInst} {st : Int} {ncaps : Nat} {T : Option Addr} {tc : Nat} {text : List Int} {j : Nat} {s : VSt} (h : VisR w n0 b mb mc A c is st ncaps T tc text j s) :
    ∀ k, IntB w k → ¬ Fr n0 b mb w k := by
  rintro k ⟨cs, fr, hk⟩ (h1 | ⟨h0, h1 | ⟨cs2, fr2, h1⟩⟩)
  · subst h1
    obtain ⟨N, nc, xs, FA, fn, fc, wh, hC, -⟩ := h.rest
    unfold Cells at hC
    rw [hC] at hk
    injection hk with hk
    injection hk with _ hk
    revert hk
    decide
  · subst h1
    obtain ⟨cur, hC, -⟩ := own_cells h.met rfl
    unfold Cells at hC
    rw [hC] at hk
    injection hk with hk
    injection hk with _ hk
    revert hk
    decide
  · rw [h1] at hk
    injection hk with hk
    injection hk with _ hk
    revert hk
    decide
theorem VisR.bne {w : World} {n0 b mb mc : Nat} {A : Option Addr} {c : Nat} {is : List PInst} {st : Int} {ncaps : Nat} {T : Option Addr} {tc : Nat} {text : List Int} {j : Nat} {s : VSt} (h : VisR w n0 b mb mc A c is st ncaps T tc text j s) : b ≠ mb := by
  obtain ⟨N, nc, xs, FA, fn, fc, wh, hC, -⟩ := h.rest
  have h2 := own_ne h.met hC (by decide)
  simp [Value.ownBlock] at h2
  omega

/-- the state when an instruction has been taken up -/
def markS (s : VSt) (pc : Nat) : VSt := { s with met := s.met.set pc true, steps := s.steps + 1 }

theorem getD_of {bs : List Bool} {k : Nat} {x : Bool} (h : bs[k]? = some x) : bs.getD k true = x := by
  rw [List.getD_eq_getElem?_getD, h]; rfl
section
variable {is : List PInst} {text : List Int} {j f pc : Nat} {caps : List Int} {s : VSt} {x : PInst}
theorem visit_over (h : s.over = true) : visitF is text j (f + 1) pc caps s = s := by rw [visitF, h]; rfl
theorem visit_met (h : s.met[pc]? = some true) : visitF is text j (f + 1) pc caps s = s := by rw [visitF, getD_of h]; simp
theorem visit_go (ho : s.over = false) (h : s.met[pc]? = some false) (hx : is[pc]? = some x) : visitF is text j (f + 1) pc caps s =
      if x.op = 2 then visitF is text j f x.y.toNat caps (visitF is text j f x.x.toNat caps (markS s pc))
      else if x.op = 7 then visitF is text j f x.x.toNat caps (markS s pc)
      else if x.op = 3 then visitF is text j f x.x.toNat (caps.set x.arg.toNat (j : Int)) (markS s pc)
      else if x.op = 4 then if holdsB x.arg (part text j 6) then visitF is text j f x.x.toNat caps (markS s pc) else markS s pc
      else if x.op = 1 then if fitsB x.rs text j then { markS s pc with next := s.next ++ [(x.x.toNat, caps)] } else markS s pc
      else if x.op = 5 then { markS s pc with found := some (caps, x.arg), over := true }
      else markS s pc := by
  obtain ⟨met, next, found, steps, over⟩ := s
  simp only at ho h
  subst ho
  rw [visitF]
  simp only
  rw [getD_of h, hx]
  simp only [Bool.or_false, Bool.false_eq_true, if_false]
  rfl
/-- steps and what is unmet are as many as before; a thread costs one that was unmet -/
theorem visitF_work : ∀ (f pc : Nat) (caps : List Int) (s : VSt), (visitF is text j f pc caps s).steps + (visitF is text j f pc caps s).met.count false ≤ s.steps + s.met.count false ∧ (visitF is text j f pc caps s).next.length + (visitF is text j f pc caps s).met.count false ≤ s.next.length + s.met.count false
  | 0, pc, caps, s => ⟨Nat.le_refl _, Nat.le_refl _⟩
  | f + 1, pc, caps, s => by
    rcases ho : s.over with _ | _
    rotate_left
    · rw [visit_over ho]; exact ⟨Nat.le_refl _, Nat.le_refl _⟩
    rcases hm : s.met[pc]? with _ | m
    · rw [visitF, List.getD_eq_getElem?_getD, hm]; simp
    rcases m with _ | _
    rotate_left
    · rw [visit_met hm]; exact ⟨Nat.le_refl _, Nat.le_refl _⟩
    rcases hx : is[pc]? with _ | x
    · rw [visitF, getD_of hm, ho, hx]; simp
    have hc := count_met hm
    have hM1 : (markS s pc).steps + (markS s pc).met.count false = s.steps + s.met.count false := by
      show s.steps + 1 + (s.met.set pc true).count false = _
      omega
    have hM2 : (markS s pc).next.length + (markS s pc).met.count false + 1 = s.next.length + s.met.count false := by
      show s.next.length + (s.met.set pc true).count false + 1 = _
      omega
    rw [visit_go ho hm hx]
    split
    · have h1 := visitF_work f x.x.toNat caps (markS s pc)
      have h2 := visitF_work f x.y.toNat caps (visitF is text j f x.x.toNat caps (markS s pc))
      omega
    · split
      · have h1 := visitF_work f x.x.toNat caps (markS s pc)
        omega
      · split
        · have h1 := visitF_work f x.x.toNat (caps.set x.arg.toNat (j : Int)) (markS s pc)
          omega
        · split
          · split
            · have h1 := visitF_work f x.x.toNat caps (markS s pc)
              omega
            · omega
          · split
            · split
              · simp only [List.length_append, List.length_singleton]
                have : (markS s pc).next = s.next := rfl
                rw [this] at hM2
                omega
              · omega
            · split
              · exact ⟨by show (markS s pc).steps + (markS s pc).met.count false ≤ _; omega, by show (markS s pc).next.length + (markS s pc).met.count false ≤ _; omega⟩
              · omega
end

/-- instructions to which a visit may go -/
theorem vmay_x {x : PInst} {n : Nat} {caps : Int} (h : mayB x n caps = true) (ho : x.op = 1 ∨ x.op = 2 ∨ x.op = 3 ∨ x.op = 4 ∨ x.op = 7) : 0 ≤ x.x ∧ x.x < n := by
  rcases ho with ho | ho | ho | ho | ho <;> simp [mayB, ho, thereB] at h <;> omega
theorem vmay_y {x : PInst} {n : Nat} {caps : Int} (h : mayB x n caps = true) (ho : x.op = 2) : 0 ≤ x.y ∧ x.y < n := by
  simp [mayB, ho, thereB] at h; omega
theorem vmay_arg {x : PInst} {n : Nat} {caps : Int} (h : mayB x n caps = true) (ho : x.op = 3) : 0 ≤ x.arg ∧ x.arg < caps := by
  simp [mayB, ho, thereB] at h; omega
theorem vmay_op {x : PInst} {n : Nat} {caps : Int} (h : mayB x n caps = true) : x.op = 1 ∨ x.op = 2 ∨ x.op = 3 ∨ x.op = 4 ∨ x.op = 5 ∨ x.op = 6 ∨ x.op = 7 := by
  unfold mayB at h
  repeat (split at h; · omega)
  cases h
theorem vcheck {is : List PInst} {start caps : Int} (h : checkB is start caps = true) : (1 ≤ is.length ∧ is.length ≤ 20000 ∧ 0 ≤ start ∧ start < is.length ∧ 2 ≤ caps ∧ caps ≤ 1002) ∧ ∀ (i : Nat) (x : PInst), is[i]? = some x → mayB x is.length caps = true := by
  unfold checkB at h
  rw [Bool.and_eq_true] at h
  have h1 := of_decide_eq_true h.1
  refine ⟨by omega, fun i x hx => ?_⟩
  exact List.all_eq_true.1 h.2 x (List.mem_of_getElem? hx)

section
variable {w w' : World} {n0 b mb mc : Nat} {A : Option Addr} {c : Nat} {is : List PInst} {st : Int} {ncaps : Nat} {T : Option Addr} {tc : Nat} {text : List Int} {j : Nat} {s : VSt}
/-- a step that leaves alone what the run holds -/
theorem VisR.far {F : Nat → Prop} (h : VisR w n0 b mb mc A c is st ncaps T tc text j s) (hU : Upd F w w') (hb : ¬ F b) (hm : ¬ F mb) (ht : ∀ k, ThrB w k → ¬ F k) (hi : ∀ k, IntB w k → ¬ F k) (hS : ∀ k, (k < n0 ∧ k ≠ b) → ¬ F k) :
    VisR w' n0 b mb mc A c is st ncaps T tc text j s := by
  obtain ⟨N, nc, xs, FA, fn, fc, wh, hB, hN, hT, hF⟩ := h.rest
  have hk := IntKeep.of hU hi
  refine ⟨h.insts.upd hU hS, h.txt.upd hU hS, Nat.le_trans h.n0w hU.size, h.mlen, own_upd h.met hU (fun k hk => by simp [Value.ownBlock] at hk; subst hk; exact hm),
    ⟨N, nc, xs, FA, fn, fc, wh, hB.upd hU hb, own_upd hN hU (fun k hk => ?_), hT.keep hk, hF.keep hk⟩, h.work, h.room⟩
  obtain ⟨cur, hC, -⟩ := own_cells hN hk
  exact ht k ⟨cur, _, hC⟩
theorem VisR.still (h : VisR w n0 b mb mc A c is st ncaps T tc text j s) (hU : Upd Nob w w') : VisR w' n0 b mb mc A c is st ncaps T tc text j s :=
  h.far hU not_nob not_nob (fun _ _ => not_nob) (fun _ _ => not_nob) (fun _ _ => not_nob)
/-- an instruction is taken up -/
theorem VisR.mark (h : VisR w n0 b mb mc A c is st ncaps T tc text j s) {pc : Nat} (hm : s.met[pc]? = some false) :
    VisR ((w.setCell ⟨mb, pc, none⟩ (.bool true)).setCell ⟨b, 0 + 7 + 3, none⟩ (.int .i64 ((s.steps : Int) + 1))) n0 b mb mc A c is st ncaps T tc text j (markS s pc) ∧
    Upd (Fr n0 b mb w) w ((w.setCell ⟨mb, pc, none⟩ (.bool true)).setCell ⟨b, 0 + 7 + 3, none⟩ (.int .i64 ((s.steps : Int) + 1))) := by
  obtain ⟨N, nc, xs, FA, fn, fc, wh, hB, hN, hT, hF⟩ := h.rest
  have hne := h.bne
  have hml := (h.met.lt mb rfl).1
  have hpc := (List.getElem?_eq_some_iff.1 hm).1
  have hU : Upd (Fr n0 b mb w) w ((w.setCell ⟨mb, pc, none⟩ (.bool true)).setCell ⟨b, 0 + 7 + 3, none⟩ (.int .i64 ((s.steps : Int) + 1))) :=
    ((Upd.refl _ w).setCell _ _ (fun _ => .inr ⟨hml, .inl rfl⟩)).setCell _ _ (fun _ => .inl rfl)
  have hk := IntKeep.of hU h.notint
  have hS : ∀ k, (k < n0 ∧ k ≠ b) → ¬ Fr n0 b mb w k := fun k hk hf => hf.elim hk.2 (fun h => absurd h.1 (by omega))
  have hcm := count_met hm
  refine ⟨⟨h.insts.upd hU hS, h.txt.upd hU hS, Nat.le_trans h.n0w hU.size, ?_, ?_, ⟨N, nc, xs, FA, fn, fc, wh, ?_, ?_, hT.keep hk, hF.keep hk⟩, ?_, ?_⟩, hU⟩
  · show (s.met.set pc true).length = _
    rw [List.length_set, h.mlen]
  · have h3 := own_far (h.met.stored pc (.bool true)).1 ⟨b, 0 + 7 + 3, none⟩ (.int .i64 ((s.steps : Int) + 1)) (by simp [Value.ownBlock]; omega)
    have e3 : (bvs s.met).set pc (.bool true) = bvs (s.met.set pc true) := by simp [bvs, List.map_set]
    rwa [e3] at h3
  · exact (hB.far ⟨mb, pc, none⟩ (.bool true) hne).set_ 10 (.int .i64 ((s.steps : Int) + 1))
  · have hNb : (Value.slice N s.next.length nc).ownBlock ≠ some b := own_ne hN hB (by decide)
    obtain ⟨cur, hC, -⟩ := own_cells h.met rfl
    have hNm : (Value.slice N s.next.length nc).ownBlock ≠ some mb := own_ne hN hC (by decide)
    exact own_far (own_far hN _ _ hNm) _ _ hNb
  · show s.steps + 1 + (s.met.set pc true).count false ≤ _
    have := h.work
    omega
  · show s.next.length + (s.met.set pc true).count false ≤ _
    have := h.room
    omega
theorem VisR.mlt (h : VisR w n0 b mb mc A c is st ncaps T tc text j s) : n0 ≤ mb ∧ mb < w.heap.size := ⟨(h.met.lt mb rfl).1, (h.met.lt mb rfl).2⟩
/-- a block of another kind is none of what a visit turns -/
theorem VisR.not_fr {x : Nat} {t : TypeId} {cs : Array Value} (h : VisR w n0 b mb mc A c is st ncaps T tc text j s) (hx : Cells w x t cs) (h1 : t ≠ 80) (h2 : t ≠ 4) (h3 : t ≠ 83) : ¬ Fr n0 b mb w x := by
  obtain ⟨N, nc, xs, FA, fn, fc, wh, hB, -⟩ := h.rest
  obtain ⟨cur, hC, -⟩ := own_cells h.met rfl
  rintro (e | ⟨-, e | ⟨cs2, fr, e⟩⟩)
  · subst e; exact Cells.ne_ hx hB h1 rfl
  · subst e; exact Cells.ne_ hx hC h2 rfl
  · unfold Cells at hx
    rw [hx] at e
    injection e with e
    injection e with _ e
    exact h3 e
/-- a thread is put behind the next row -/
theorem VisR.pushed {w1 w9 : World} {N : Option Addr} {nc : Nat} {xs : List Value} {FA : Option Addr} {fn fc : Nat} {wh : Int} {px : Nat} {caps : List Int} {C : Option Addr} {cc gN cN : Nat}
    (h : VisR w n0 b mb mc A c is st ncaps T tc text j s)
    (hB : Cells w b 80 (runCells A is.length c st ncaps T text.length tc j mb mc N s.next.length nc s.found.isSome FA fn fc wh s.steps s.over))
    (hN : w.ownsRow n0 83 2 (.slice N s.next.length nc) s.next.length xs) (hT : ThR w is.length ncaps s.next xs) (hF : FoundR w ncaps s.found FA fn wh)
    (hp : px < is.length) (hcl : caps.length = ncaps) (hC : CapR w C ncaps caps) (hroom : s.next.length + s.met.count false + 1 ≤ 20000)
    (hUa : Upd Nob w w1) (hg : w1.grownBy w9 (Value.slice N s.next.length nc).ownBlock)
    (ho : w9.ownsRow n0 83 2 (.slice (some ⟨gN, 0, none⟩) (s.next.length + 1) cN) (s.next.length + 1) (xs ++ [.int .i64 (px : Int), .slice C ncaps cc])) :
    VisR (w9.setCell ⟨b, 0 + 6, none⟩ (.slice (some ⟨gN, 0, none⟩) (s.next.length + 1) cN)) n0 b mb mc A c is st ncaps T tc text j { s with next := s.next ++ [(px, caps)] } ∧
    Upd (Fr n0 b mb w) w (w9.setCell ⟨b, 0 + 6, none⟩ (.slice (some ⟨gN, 0, none⟩) (s.next.length + 1) cN)) := by
  have hbn : (Value.slice N s.next.length nc).ownBlock ≠ some b := own_ne hN hB (by decide)
  have hB1 := hB.upd hUa not_nob
  have hB9 := hB1.grown hg hbn
  have hob : (Value.slice (some ⟨gN, 0, none⟩) (s.next.length + 1) cN).ownBlock ≠ some b := own_ne ho hB9 (by decide)
  have hU' : Upd (fun k => k = b ∨ (n0 ≤ k ∧ ThrB w k)) w (w9.setCell ⟨b, 0 + 6, none⟩ (.slice (some ⟨gN, 0, none⟩) (s.next.length + 1) cN)) := by
    refine ((hUa.mono (fun _ _ h => absurd h not_nob)).grown hg (fun k hk _ => ?_)).setCell _ _ (fun _ => .inl rfl)
    obtain ⟨cur, hC, -⟩ := own_cells hN hk
    exact .inr ⟨(hN.lt k hk).1, ⟨cur, _, hC⟩⟩
  have hU : Upd (Fr n0 b mb w) w (w9.setCell ⟨b, 0 + 6, none⟩ (.slice (some ⟨gN, 0, none⟩) (s.next.length + 1) cN)) := hU'.mono (fun k _ hk => hk.elim .inl (fun h => .inr ⟨h.1, .inr h.2⟩))
  have hk := IntKeep.of hU h.notint
  have hS : ∀ k, (k < n0 ∧ k ≠ b) → ¬ Fr n0 b mb w k := fun k hk hf => hf.elim hk.2 (fun h => absurd h.1 (by omega))
  have hm : w.ownsRow n0 4 1 (.slice (some ⟨mb, 0, none⟩) is.length mc) is.length (bvs s.met) := h.met
  have hne := h.bne
  have hmb : ¬ (mb = b ∨ (n0 ≤ mb ∧ ThrB w mb)) := by
    rintro (e | ⟨-, ⟨cs2, fr, e⟩⟩)
    · exact hne e.symm
    · obtain ⟨cur, hC2, -⟩ := own_cells hm rfl
      unfold Cells at hC2
      rw [hC2] at e
      injection e with e
      injection e with _ e
      revert e
      decide
  have el : (s.next ++ [(px, caps)]).length = s.next.length + 1 := by simp
  refine ⟨⟨h.insts.upd hU hS, h.txt.upd hU hS, Nat.le_trans h.n0w hU.size, h.mlen, ?_, ⟨some ⟨gN, 0, none⟩, cN, xs ++ [.int .i64 (px : Int), .slice C ncaps cc], FA, fn, fc, wh, ?_, ?_, (hT.keep hk).more hp hcl (hC.keep hk), hF.keep hk⟩, h.work, ?_⟩, hU⟩
  · exact own_upd hm hU' (fun k hk => by simp [Value.ownBlock] at hk; subst hk; exact hmb)
  · show Cells _ b _ (runCells A is.length c st ncaps T text.length tc j mb mc (some ⟨gN, 0, none⟩) (s.next ++ [(px, caps)]).length cN s.found.isSome FA fn fc wh s.steps s.over)
    rw [el]
    exact hB9.set_ 6 _
  · show World.ownsRow _ _ _ _ (.slice (some ⟨gN, 0, none⟩) (s.next ++ [(px, caps)]).length cN) (s.next ++ [(px, caps)]).length _
    rw [el]
    exact own_far ho _ _ hob
  · show (s.next ++ [(px, caps)]).length + s.met.count false ≤ _
    rw [el]
    omega
/-- a Match is come to -/
theorem VisR.hit {N : Option Addr} {nc : Nat} {xs : List Value} {FA FA' : Option Addr} {fn fc fc' : Nat} {wh wh' : Int} {caps : List Int}
    (h : VisR w n0 b mb mc A c is st ncaps T tc text j s)
    (hB : Cells w b 80 (runCells A is.length c st ncaps T text.length tc j mb mc N s.next.length nc s.found.isSome FA fn fc wh s.steps s.over))
    (hN : w.ownsRow n0 83 2 (.slice N s.next.length nc) s.next.length xs) (hT : ThR w is.length ncaps s.next xs)
    (hcl : caps.length = ncaps) (hU : Upd (fun k => k = b) w w')
    (hB' : Cells w' b 80 (runCells A is.length c st ncaps T text.length tc j mb mc N s.next.length nc true FA' ncaps fc' wh' s.steps true)) (hC : CapR w' FA' ncaps caps) :
    VisR w' n0 b mb mc A c is st ncaps T tc text j { s with found := some (caps, wh'), over := true } ∧ Upd (Fr n0 b mb w) w w' := by
  have hU1 : Upd (Fr n0 b mb w) w w' := hU.mono (fun k _ hk => .inl hk)
  have hk := IntKeep.of hU1 h.notint
  have hS : ∀ k, (k < n0 ∧ k ≠ b) → ¬ Fr n0 b mb w k := fun k hk hf => hf.elim hk.2 (fun h => absurd h.1 (by omega))
  have hbn : (Value.slice N s.next.length nc).ownBlock ≠ some b := own_ne hN hB (by decide)
  have hne := h.bne
  refine ⟨⟨h.insts.upd hU1 hS, h.txt.upd hU1 hS, Nat.le_trans h.n0w hU.size, h.mlen, own_upd h.met hU (fun k hk => by simp [Value.ownBlock] at hk; omega), ⟨N, nc, xs, FA', ncaps, fc', wh', hB', own_upd hN hU (fun k hk e => hbn (e ▸ hk)), hT.keep hk, .inr ⟨caps, rfl, rfl, hcl, hC⟩⟩, h.work, h.room⟩, hU1⟩
end
end Go.Proofs.Ytnkefclbchpafaa
