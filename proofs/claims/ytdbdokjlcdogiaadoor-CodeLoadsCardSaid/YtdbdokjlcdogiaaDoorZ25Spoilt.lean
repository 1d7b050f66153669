/-
  Awake, Wide, Spoilt, put together.
-/
import Derived.Test.YtdbdokjlcdogiaaDoorZ24Says
import Derived.Handy
import Derived.Test.YtdbdokjlcdogiaaDoorZ01PlainP
import Derived.Test.YtdbdokjlcdogiaaDoorZ18LoadX
import Derived.Test.YtdbdokjlcdogiaaDoorZ13RefLP

/-
  The walks of heronlaw10.one, awake.
-/
namespace Go.Proofs.YtdbdokjlcdogiaaDoor
open Go.RowKit
set_option linter.unusedVariables false

def oneI : List PInst := [⟨5, 0, 0, 0, []⟩]
theorem one_check : checkB oneI 0 2 = true := by decide
theorem one_bytes : bytesOf oneI 0 2 = ([72, 82, 80, 71, 2, 0, 1, 5, 0] ++ tail4 (sumV [72, 82, 80, 71, 2, 0, 1, 5, 0]), 0) := by
  have hp : ∀ n, n < 128 → putN n = [(n : Int)] := fun n hn => by unfold putN; simp [hn]
  have hh : headB oneI.length 0 2 = [72, 82, 80, 71, 2, 0, 1] := by
    unfold headB
    rw [hp _ (by decide), hp _ (by decide), hp _ (by decide)]
    rfl
  have hi : instB ⟨5, 0, 0, 0, []⟩ = [5, 0] := by
    unfold instB
    have : numsOf ⟨5, 0, 0, 0, []⟩ = [0] := by unfold numsOf; simp
    rw [this]
    simp only [List.flatMap_cons, List.flatMap_nil]
    rw [hp _ (by decide)]
    rfl
  unfold bytesOf
  rw [one_check, hh]
  have : instsB oneI [72, 82, 80, 71, 2, 0, 1] = some [72, 82, 80, 71, 2, 0, 1, 5, 0] := by
    unfold oneI instsB
    rw [hi]
    rfl
  rw [this]
  rfl
theorem one_text : textOf oneI 0 2 = ([99, 97, 112, 115, 32, 50, 32, 115, 116, 97, 114, 116, 32, 48, 10, 32, 32, 109, 97, 116, 99, 104, 32, 48, 10], 0) := by
  have hh : headT 0 2 = [99, 97, 112, 115, 32, 50, 32, 115, 116, 97, 114, 116, 32, 48, 10] := by
    unfold headT
    rw [decDigits_small (by decide), decDigits_small (by decide)]
    rfl
  have hi : lineT ⟨5, 0, 0, 0, []⟩ = [32, 32, 109, 97, 116, 99, 104, 32, 48, 10] := by
    unfold lineT
    have : numsOf ⟨5, 0, 0, 0, []⟩ = [0] := by unfold numsOf; simp
    rw [this]
    simp only [List.flatMap_cons, List.flatMap_nil]
    unfold numT
    rw [decDigits_small (by decide)]
    rfl
  unfold textOf
  rw [one_check, hh]
  have : linesT oneI [99, 97, 112, 115, 32, 50, 32, 115, 116, 97, 114, 116, 32, 48, 10] = some [99, 97, 112, 115, 32, 50, 32, 115, 116, 97, 114, 116, 32, 48, 10, 32, 32, 109, 97, 116, 99, 104, 32, 48, 10] := by
    unfold oneI linesT
    rw [hi]
    rfl
  rw [this]
  rfl
def OnePost (w : World) (e : Ending) (w' : World) : Prop :=
  ∃ g, e = .returned (.agg #[.slice (some ⟨g, 0, none⟩) 1 1, .int .i64 0, .int .i64 2]) ∧ InstsR w' (fun k => w.heap.size ≤ k) (some ⟨g, 0, none⟩) 1 oneI ∧ Upd Nob w w'
theorem one_insts {w : World} {S : Nat → Prop} {g : Nat} {t : TypeId} (h : Cells w g t #[.int .i64 5, .int .i64 0, .int .i64 0, .int .i64 0, .slice none 0 0]) (hg : S g) : InstsR w S (some ⟨g, 0, none⟩) 1 oneI := by
  have k0 : In64 0 := by unfold In64; omega
  have k5 : In64 5 := by unfold In64; omega
  refine ⟨rfl, fun i x hx => ?_⟩
  have hl := (List.getElem?_eq_some_iff.1 hx).1
  match i, hl with
  | 0, _ =>
    obtain rfl : (⟨5, 0, 0, 0, []⟩ : PInst) = x := by injection hx
    refine ⟨_, g, 0, none, 0, 0, rfl, by rw [add_lit_], hg, h.lt, ⟨Reads.nil_, (fun x h => by cases h), by omega⟩, ⟨k5, k0, k0, k0⟩, fun j v hv => ?_⟩
    rw [h.cell, Nat.zero_add]
    exact hv
set_option maxHeartbeats 1000000 in
theorem one_any (w : World) : Calls Tryd.prog 21 #[] w (OnePost w) := by
  have hw : ∃ w2 : World, w2 = (w.alloc (.cells #[.slice (some ⟨w.heap.size + 1, 0, none⟩) 1 1, .int .i64 0, .int .i64 2] 24)).alloc (.cells #[.int .i64 5, .int .i64 0, .int .i64 0, .int .i64 0, .slice none 0 0] 48) := ⟨_, rfl⟩
  obtain ⟨w2, hw⟩ := hw
  have C1 : Cells w2 (w.heap.size + 1) 48 #[.int .i64 5, .int .i64 0, .int .i64 0, .int .i64 0, .slice none 0 0] := by
    have := Cells.new (w.alloc (.cells #[.slice (some ⟨w.heap.size + 1, 0, none⟩) 1 1, .int .i64 0, .int .i64 2] 24)) 48 #[.int .i64 5, .int .i64 0, .int .i64 0, .int .i64 0, .slice none 0 0]
    rw [World.size_alloc] at this
    rw [hw]
    exact this
  have C0 : Cells w2 w.heap.size 24 #[.slice (some ⟨w.heap.size + 1, 0, none⟩) 1 1, .int .i64 0, .int .i64 2] := by rw [hw]; exact (Cells.new _ _ _).alloc _
  have hU : Upd Nob w w2 := by rw [hw]; exact ((Upd.refl Nob w).alloc _).alloc _
  have HW := hideP hw
  clear hw
  go_enter Tryd.func21, Tryd.ntmps21
  go_wp2_with fail
  rw [← HW.out]
  have e0 : w2.cell? ⟨w.heap.size, 0, none⟩ = some (.slice (some ⟨w.heap.size + 1, 0, none⟩) 1 1) := C0.cellv rfl
  have e1 : w2.cell? ⟨w.heap.size, 1, none⟩ = some (.int .i64 0) := C0.cellv rfl
  have e2 : w2.cell? ⟨w.heap.size, 2, none⟩ = some (.int .i64 2) := C0.cellv rfl
  refine bodyPost_ret (by simp [results, Tryd.results21, go_sem, e0, e1, e2]; try rfl) rfl ?_
  exact ⟨_, rfl, one_insts C1 (by omega), hU⟩

set_option maxRecDepth 100000 in
set_option maxHeartbeats 2000000 in
theorem awake_any (w : World) (hpt : PowTab w) (hwt : WordTab w) : Calls Tryd.prog 7 #[] w fun e w' => e = .returned (.bool true) ∧ Upd Nob w w' := by
  have k0 : In64 0 := by unfold In64; omega
  have k2 : In64 2 := by unfold In64; omega
  have HPT := hideP hpt
  have HWT := hideP hwt
  have HB := hideP one_bytes
  have HT := hideP one_text
  clear hpt hwt
  go_enter Tryd.func7, Tryd.ntmps7
  go_upto_region 2 with (first
    | (go_at_call 21; refine (one_any w).mono ?_; rintro e w2 ⟨g, rfl, hI, hU⟩)
    | (go_at_call 18; refine (bytes_any _ _ _ 1 1 oneI 0 2 hI k0 k2 (by omega)).mono ?_; rintro e w3 ⟨A, c, he, ho, hU3⟩; rw [HB.out] at he ho; subst he))
  have hU3' := hU.trans hU3 (fun _ _ h => h)
  have HU3 := hideP hU3'
  obtain ⟨gb, rfl, hcb⟩ := ho.form (by decide)
  have hb0 : w3.cell? ⟨gb, 0, none⟩ = some (.int .u8 72) := by have := ho.cells rfl 0 (.int .u8 72) rfl; rw [add_lit_] at this; exact this
  have hb7 : w3.cell? ⟨gb, 7, none⟩ = some (.int .u8 5) := by have := ho.cells rfl 7 (.int .u8 5) rfl; rw [add_lit_] at this; exact this
  have HO := hideP ho
  clear ho hcb hU3 hU3' hU hI
  go_upto_region 3 with (first
    | (go_at_call 21; refine (one_any w3).mono ?_; rintro e w4 ⟨g4, rfl, hI, hU⟩)
    | (go_at_call 22; refine (print_any _ _ _ 1 1 oneI 0 2 hI k0 k2 (by omega) (HPT.out.upd (HU3.out.trans hU (fun _ _ h => h))) (HWT.out.upd (HU3.out.trans hU (fun _ _ h => h)))).mono ?_; rintro e w5 ⟨he, hU5⟩; rw [HT.out] at he; subst he))
  have hU35 := hU.trans hU5 (fun _ _ h => h)
  have hb0' : w5.cell? ⟨gb, 0, none⟩ = some (.int .u8 72) := (hU35.cell (World.block_lt_of_cell? _ _ hb0) not_nob).trans hb0
  have hb7' : w5.cell? ⟨gb, 7, none⟩ = some (.int .u8 5) := (hU35.cell (World.block_lt_of_cell? _ _ hb7) not_nob).trans hb7
  have HU5 := hideP (HU3.out.trans hU35 (fun _ _ h => h))
  clear hb0 hb7 hU hU5 hU35 hI
  go_wp2_with fail
  go_ret
  exact ⟨rfl, HU5.out⟩
end Go.Proofs.YtdbdokjlcdogiaaDoor

/-
  append of a slice that reads as a list, where the whole may be somewhat longer than what one argument may be: the bound is laid on the capacity that comes.
-/
namespace Go.Proofs.YtdbdokjlcdogiaaDoor
open Go.RowKit
set_option linter.unusedVariables false

theorem cap_quarter {need old : Nat} (h : old < need) : 4 * Builtin.nextslicecap need old ≤ 5 * need + 4000 := by
  unfold Builtin.nextslicecap
  split
  · omega
  · split
    · omega
    · rw [growBy_four]
      repeat' split
      all_goals omega

section
variable {P : Program} {w : World}
theorem run_append_wide (base : Nat) (t ty e : TypeId) (i : TypeInfo) (z : Value) (bytes : Nat) (ht : P.underlying t = some (.slice e)) (hi : P.info? e = some i) (hz : i.zero = some z)
    (hsize : i.size = 1) (hby : i.bytes = bytes) (hzs : z.cells.size = 1)
    (v : Value) (n : Nat) (xs : List Value) (hown : w.ownsRow base e 1 v n xs)
    (S : Nat → Prop) (A : Option Addr) (m c : Nat) (news : List Value) (hr : Reads w S 1 A m news) (h1 : ∀ u ∈ news, u.oneCell' = true)
    (h63 : n + m ≤ maxLen) (hfit : (5 * (n + m) + 4000) * bytes ≤ 4 * 281474976710656) (hbase : base ≤ w.heap.size) :
    ∃ v' w', (Builtin.append_ #[t, t] ty #[v, .slice A m c]).run P w = .ok v' w' ∧ w'.ownsRow base e 1 v' (n + m) (xs ++ news) ∧ w.grownBy w' v.ownBlock ∧
      (v'.ownBlock = v.ownBlock ∨ v'.ownBlock = some w.heap.size) := by
  by_cases hm : m = 0
  · -- nothing is appended: no capacity is asked
    subst hm
    have hn : news = [] := List.eq_nil_of_length_eq_zero (by simpa using hr.1)
    subst hn
    rcases hown.2 with ⟨rfl, rfl⟩ | ⟨g, cap, cur, rfl, _, hg, hnc, _⟩
    · rcases A with _ | ad
      · exact ⟨_, w, by simp [Builtin.append_, run_underlying ht, sizeOf, typeInfo, hi, Builtin.lenOf, Builtin.firstCells], by simpa using hown, World.grownBy.refl w _, .inl rfl⟩
      · exact ⟨_, w, by simp [Builtin.append_, run_underlying ht, sizeOf, typeInfo, hi, Builtin.lenOf, Builtin.firstCells, loadCells, loadCellsFrom], by simpa using hown, World.grownBy.refl w _, .inl rfl⟩
    · rcases A with _ | ad
      · exact ⟨_, w, by simp [Builtin.append_, run_underlying ht, sizeOf, typeInfo, hi, Builtin.lenOf, Builtin.firstCells, hnc, storeCells], by simpa using hown, World.grownBy.refl w _, .inl rfl⟩
      · exact ⟨_, w, by simp [Builtin.append_, run_underlying ht, sizeOf, typeInfo, hi, Builtin.lenOf, Builtin.firstCells, hnc, storeCells, loadCells, loadCellsFrom], by simpa using hown, World.grownBy.refl w _, .inl rfl⟩
  obtain ⟨ad, rfl, _, _, hc⟩ := hr.2 (by omega)
  have hl := hr.1
  have htot : (xs ++ news).length = n + m := by rw [List.length_append, hown.1, hl]; omega
  have h9 : n + m ≤ 9223372036854775807 := by simp only [maxLen] at h63; omega
  -- a new row of whatever capacity owns both
  have fresh : ∀ old, old < n + m → (w.drew.alloc (.cells ((xs.toArray ++ news.toArray) ++ Builtin.zeroCells z.cells (grownCap w (n + m) old e - (n + m))) e)).ownsRow base e 1 (.slice (some ⟨w.heap.size, 0, none⟩) (n + m) (grownCap w (n + m) old e)) (n + m) (xs ++ news) := by
    intro old ho
    have q1 := grownCap_ge w (n + m) old e
    have q2 := grownCap_le_maxLen w (n + m) old e h63
    have sz : ((xs.toArray ++ news.toArray) ++ Builtin.zeroCells z.cells (grownCap w (n + m) old e - (n + m))).size = grownCap w (n + m) old e * 1 := by
      have := htot
      rw [List.length_append] at this
      simp only [Array.size_append, List.size_toArray, size_zeroCells, hzs]
      omega
    refine ⟨by omega, .inr ⟨_, _, _, rfl, hbase, heap_alloc_new w.drew _, q1, q2, sz, ?_⟩⟩
    have e1 : ((xs.toArray ++ news.toArray) ++ Builtin.zeroCells z.cells (grownCap w (n + m) old e - (n + m))).toList = (xs ++ news) ++ (Builtin.zeroCells z.cells (grownCap w (n + m) old e - (n + m))).toList := by simp
    rw [e1]
    exact List.take_left' (by omega)
  have gr : ∀ (o : Obj) (row : Option Nat), w.grownBy (w.drew.alloc o) row := fun o row => ⟨rfl, rfl, rfl, by simp, fun k hk _ => heap_alloc_old w.drew o hk⟩
  have room : ∀ old, old < n + m → Builtin.nextslicecap (n + m) old * i.bytes ≤ 281474976710656 := by
    intro old ho
    have h4 : 4 * (Builtin.nextslicecap (n + m) old * i.bytes) ≤ (5 * (n + m) + 4000) * i.bytes := by
      rw [← Nat.mul_assoc]
      exact Nat.mul_le_mul_right _ (cap_quarter ho)
    rw [hby] at h4 ⊢
    omega
  rcases hown.2 with ⟨rfl, rfl⟩ | ⟨g, cap, cur, rfl, hbg, hg, hnc, hcm, hcs, ht2⟩
  · have hx : xs = [] := List.eq_nil_of_length_eq_zero (by simpa using hown.1)
    subst hx
    have hn0 := room 0 (by omega)
    simp only [Nat.zero_add] at hn0
    rw [nextslicecap_zero (by omega)] at hn0
    have hrun := run_append_nil (P := P) w t ty e i z ht hi hz ad m c news (by rw [hl, hsize]) hc (by omega) (by omega) hn0
    have hf := fresh 0 (by omega)
    simp only [Nat.zero_add, List.nil_append, Array.empty_append] at hf ⊢
    exact ⟨_, _, hrun, hf, gr _ _, .inr rfl⟩
  · by_cases hroom : n + m ≤ cap
    · have hfit2 : n * i.size + news.length ≤ cur.size := by rw [hl, hcs, hsize]; omega
      have hrun := run_append_room (P := P) w t ty e i ht hi g n cap cur hg ad m c news (by rw [hl, hsize]) hc h1 hroom hfit2
      rw [hsize] at hrun hfit2
      refine ⟨_, _, hrun, ⟨by omega, .inr ⟨g, cap, _, rfl, hbg, setRow_heap w g cur _ e _ hg, hroom, hcm, ?_, ?_⟩⟩, ⟨rfl, rfl, rfl, by simp, fun k _ hk => setRow_other w g k _ (fun e => hk (by simp [Value.ownBlock, e]))⟩, .inl rfl⟩
      · simp only [List.size_toArray, List.length_append, List.length_take, List.length_drop, Array.length_toList]
        omega
      · have e2 : (xs ++ news).length = (n + m) * 1 := by omega
        rw [ht2, ← e2]
        exact List.take_left
    · have ho := hown.cells (g := g) rfl
      have hrun := run_append_grow (P := P) w t ty e i z ht hi hz ⟨g, 0, none⟩ n cap xs (by rw [hown.1, hsize]) ho ad m c news (by rw [hl, hsize]) hc (by omega) (by omega) (room cap (by omega))
      exact ⟨_, _, hrun, fresh cap (by omega), gr _ _, .inr rfl⟩

theorem wpList_append_wide {ops : Array Oper} {rest : List Oper} {o : Oper} {a : Act} {Q : Exit → Act → World → Prop} (hgd : o.guard = none) (s x : Operand) (t : TypeId)
    (ho : o.op = .call { callee := .builtin .append, args := #[s, x], argTypes := #[t, t] })
    (base : Nat) (e : TypeId) (i : TypeInfo) (z : Value) (bytes : Nat) (ht : P.underlying t = some (.slice e)) (hi : P.info? e = some i) (hz : i.zero = some z)
    (hsize : i.size = 1) (hby : i.bytes = bytes) (hzs : z.cells.size = 1)
    (v : Value) (n : Nat) (xs : List Value) (hs : a.eval s = v) (hown : w.ownsRow base e 1 v n xs)
    (S : Nat → Prop) (A : Option Addr) (m c : Nat) (news : List Value) (hx : a.eval x = .slice A m c) (hr : Reads w S 1 A m news) (h1 : ∀ u ∈ news, u.oneCell' = true)
    (h63 : n + m ≤ maxLen) (hfit : (5 * (n + m) + 4000) * bytes ≤ 4 * 281474976710656) (hbase : base ≤ w.heap.size)
    (h : ∀ v' w', w'.ownsRow base e 1 v' (n + m) (xs ++ news) → w.grownBy w' v.ownBlock → (v'.ownBlock = v.ownBlock ∨ v'.ownBlock = some w.heap.size) → wpList P ops Q rest (a.put o.dst v') w') : wpList P ops Q (o :: rest) a w := by
  refine wpList_plain hgd fun K hK => ?_
  obtain ⟨v', w', hrun, h2, h3, h4⟩ := run_append_wide (P := P) base t o.type e i z bytes ht hi hz hsize hby hzs v n xs hown S A m c news hr h1 h63 hfit hbase
  unfold Oper.wp execOp
  simp only [ho, resolve, invoke, builtin, Sem.run_bind, Sem.run_pure, Result.andThen_ok, List.map_toArray, List.map_cons, List.map_nil, hs, hx, hrun]
  exact hK _ _ (h v' w' h2 h3 h4)
end
end Go.Proofs.YtdbdokjlcdogiaaDoor

/-
  The walk of heronlaw10.CodeSpoilt.
-/
namespace Go.Proofs.YtdbdokjlcdogiaaDoor
open Go.RowKit
set_option linter.unusedVariables false

/-- the error that Load tells -/
def codeOf (bs : List Int) : Int := match loadX bs with | none => loadC bs | some _ => 0
theorem load_code (w : World) (S : Nat → Prop) (A : Option Addr) (n c : Nat) (bs : List Int) (h : Reads w S 1 A n (bytv bs)) (h8 : ∀ x ∈ bs, 0 ≤ x ∧ x ≤ 255) (hS : ∀ b, S b → b < w.heap.size) (hc : n ≤ c) :
    Calls Tryd.prog 15 #[.slice A n c] w fun e w' => (∃ A' n' c' s t, e = .returned (.tuple #[.agg #[.slice A' n' c', .int .i64 s, .int .i64 t], .int .i64 (codeOf bs)])) ∧ Upd Nob w w' :=
  (load_any w S A n c bs h h8 hS hc).mono (fun e w' h => by
    unfold codeOf
    cases hx : loadX bs with
    | none =>
      rw [hx] at h
      exact ⟨⟨_, _, _, _, _, h.1⟩, h.2⟩
    | some p =>
      rw [hx] at h
      obtain ⟨is, start, caps⟩ := p
      obtain ⟨A', c', gs, h1, -, h2⟩ := h
      exact ⟨⟨_, _, _, _, _, h1⟩, h2⟩)
theorem bytes_len {is : List PInst} {start caps : Int} {bs : List Int} (h : bytesOf is start caps = (bs, 0)) : bs.length ≤ 8388608 := by
  have := bytesOf_len is start caps
  rw [h] at this
  exact this
theorem bytes_some {is : List PInst} {start caps : Int} {bs : List Int} (h : bytesOf is start caps = (bs, 0)) : 8 ≤ bs.length ∧ ∀ x ∈ bs, 0 ≤ x ∧ x ≤ 255 := by
  obtain ⟨body, e, -, -, -, hB, hl4⟩ := bytes_parts h
  have hs := sumV_range ([72, 82, 80, 71] ++ body)
  have hT := tail4_byte hs.1 hs.2
  have h4 : (tail4 (sumV ([72, 82, 80, 71] ++ body))).length = 4 := rfl
  generalize tail4 (sumV ([72, 82, 80, 71] ++ body)) = T at *
  refine ⟨by rw [e, List.length_append, h4]; simp, fun x hx => ?_⟩
  rw [e] at hx
  simp only [List.mem_append] at hx
  rcases hx with (hx | hx) | hx
  · simp at hx
    rcases hx with rfl | rfl | rfl | rfl <;> omega
  · exact hB x hx
  · exact hT x hx
theorem code_same {is : List PInst} {start caps : Int} {bs : List Int} (h : bytesOf is start caps = (bs, 0)) {k : Nat} {y : Int} (hk : bs[k]? = some y) : codeOf (bs.set k y) = 0 := by
  obtain ⟨hl, hv⟩ := List.getElem?_eq_some_iff.1 hk
  have := bytes_len h
  rw [← hv, List.set_getElem_self]
  unfold codeOf loadX
  rw [if_neg (by omega), load_bytes h]
theorem code_turn {is : List PInst} {start caps : Int} {bs : List Int} (h : bytesOf is start caps = (bs, 0)) {k : Nat} {x y : Int} (hk : bs[k]? = some x) (hy : 0 ≤ y ∧ y ≤ 255) (hne : ¬ x = y) : codeOf (bs.set k y) = 101 := by
  obtain ⟨hl, hv⟩ := List.getElem?_eq_some_iff.1 hk
  have := bytes_len h
  unfold codeOf loadX loadC
  rw [if_neg (by rw [List.length_set]; omega), load_turn h hl hy (by rw [hv]; exact hne)]
  simp only
  rw [if_neg (by rw [List.length_set]; omega)]
theorem code_cut {is : List PInst} {start caps : Int} {bs : List Int} (h : bytesOf is start caps = (bs, 0)) {k : Nat} (hk : k < bs.length) : codeOf (bs.take k) = 101 := by
  have := bytes_len h
  unfold codeOf loadX loadC
  rw [if_neg (by rw [List.length_take]; omega), load_cut h hk]
  simp only
  rw [if_neg (by rw [List.length_take]; omega)]
theorem code_more {is : List PInst} {start caps : Int} {bs more : List Int} (h : bytesOf is start caps = (bs, 0)) (hm : more ≠ []) : codeOf (bs ++ more) = if 8388608 < (bs ++ more).length then 2 else 101 := by
  unfold codeOf loadX loadC
  by_cases hl : 8388608 < (bs ++ more).length
  · simp only [if_pos hl]
  · simp only [if_neg hl, load_long h hm]
theorem code_all {is : List PInst} {start caps : Int} {bs : List Int} (h : bytesOf is start caps = (bs, 0)) : codeOf (bs ++ []) = 0 := by
  have := bytes_len h
  rw [List.append_nil]
  unfold codeOf loadX
  rw [if_neg (by omega), load_bytes h]
theorem bytv_one (xs : List Int) : ∀ u ∈ bytv xs, u.oneCell' = true := by
  intro u hu
  simp only [bytv, List.mem_map] at hu
  obtain ⟨_, _, rfl⟩ := hu
  rfl
theorem emod_nat {x : Int} {L : Nat} (h0 : 0 ≤ x) : x % (L : Int) = ((x.toNat % L : Nat) : Int) := by
  obtain ⟨a, rfl⟩ := Int.eq_ofNat_of_zero_le h0
  simp

theorem OwnT.cap_ {w : World} {base n c : Nat} {e : TypeId} {A : Option Addr} {xs : List Value} (h : OwnT w base e (.slice A n c) n xs) : n ≤ c := by
  rcases h.2 with ⟨h1, h2⟩ | ⟨g, cap, cur, fz, hv, hb, hg, hfz, h1, -⟩
  · injection h1 with _ _ h3
    omega
  · injection hv with _ _ h3
    omega
theorem bytv_set (xs : List Int) (k : Nat) (y : Int) : (bytv xs).set k (.int .u8 y) = bytv (xs.set k y) := by simp [bytv, List.map_set]
theorem set_byte {xs : List Int} {k : Nat} {y : Int} (h : ∀ x ∈ xs, 0 ≤ x ∧ x ≤ 255) (hy : 0 ≤ y ∧ y ≤ 255) : ∀ x ∈ xs.set k y, 0 ≤ x ∧ x ≤ 255 := fun x hx => by
  rcases List.mem_or_eq_of_mem_set hx with hx | rfl
  · exact h x hx
  · exact hy
theorem load_codeR (w : World) (S : Nat → Prop) (A : Option Addr) (n c : Nat) (bs : List Int) (f : Int) (hf : codeOf bs = f) (h : Reads w S 1 A n (bytv bs)) (h8 : ∀ x ∈ bs, 0 ≤ x ∧ x ≤ 255) (hS : ∀ b, S b → b < w.heap.size) (hc : n ≤ c) :
    Calls Tryd.prog 15 #[.slice A n c] w fun e w' => (∃ A' n' c' s t, e = .returned (.tuple #[.agg #[.slice A' n' c', .int .i64 s, .int .i64 t], .int .i64 f])) ∧ Upd Nob w w' := by
  subst hf
  exact load_code w S A n c bs h h8 hS hc
theorem load_codeT (w : World) (base : Nat) (A : Option Addr) (n c : Nat) (bs : List Int) (f : Int) (hf : codeOf bs = f) (h : OwnT w base 5 (.slice A n c) n (bytv bs)) (h8 : ∀ x ∈ bs, 0 ≤ x ∧ x ≤ 255) :
    Calls Tryd.prog 15 #[.slice A n c] w fun e w' => (∃ A' n' c' s t, e = .returned (.tuple #[.agg #[.slice A' n' c', .int .i64 s, .int .i64 t], .int .i64 f])) ∧ Upd Nob w w' := by
  subst hf
  exact load_code w _ A n c bs (Reads.of_ownT h) h8 (fun b hb => h.lt hb) h.cap_

set_option maxRecDepth 100000 in
set_option maxHeartbeats 4000000 in
theorem spoilt_any (w : World) (A0 : Option Addr) (n0 c0 : Nat) (is0 : List PInst) (st0 cp0 : Int) (S0 : Nat → Prop) (h0 : InstsR w S0 A0 n0 is0) (hst0 : In64 st0) (hcp0 : In64 cp0) (hn0 : n0 * 56 ≤ 140737488351232)
    (at_ tb cut : Int) (hat : In64 at_) (hto : 0 ≤ tb ∧ tb ≤ 255) (hcut : In64 cut) (A4 : Option Addr) (n4 c4 : Nat) (bh : List Int) (S4 : Nat → Prop) (h4 : Reads w S4 1 A4 n4 (bytv bh)) (h48 : ∀ x ∈ bh, 0 ≤ x ∧ x ≤ 255) (hn4 : n4 ≤ 140737488351232) (hpt : PowTab w) (hwt : WordTab w) :
    Calls Tryd.prog 5 #[.agg #[.slice A0 n0 c0, .int .i64 st0, .int .i64 cp0], .int .i64 at_, .int .u8 tb, .int .i64 cut, .slice A4 n4 c4] w fun e w' => e = .returned (.bool true) ∧ Upd Nob w w' := by
  have HPT := hideP (show ∀ w', Upd Nob w w' → PowTab w' ∧ WordTab w' from fun w' hv => ⟨hpt.upd hv, hwt.upd hv⟩)
  have H0 := hideP h0
  have H4 := hideP h4
  have H48 := hideP h48
  have C1 := Cells.new w 24 #[.slice A0 n0 c0, .int .i64 st0, .int .i64 cp0]
  have hU : Upd Nob w (w.alloc (.cells #[.slice A0 n0 c0, .int .i64 st0, .int .i64 cp0] 24)) := (Upd.refl Nob w).alloc _
  clear h0 hpt hwt h4 h48
  obtain ⟨i0, hi0, hz0, hz1, hz2⟩ := info_parts cinfo_u8
  go_enter Tryd.func5, Tryd.ntmps5
  go_upto_region 1 with fail
  generalize (w.alloc (.cells #[.slice A0 n0 c0, .int .i64 st0, .int .i64 cp0] 24)) = w2 at *
  have HC1 := hideP C1
  have HU2 := hideP hU
  have hw2 := C1.lt
  clear C1 hU
  go_upto_region 2 with (go_at_call 7; refine (awake_any _ (HPT.out _ HU2.out).1 (HPT.out _ HU2.out).2).mono ?_; rintro e w3 ⟨rfl, hU3⟩)
  have HC3 := hideP (HC1.out.upd hU3 not_nob)
  have HU3 := hideP (HU2.out.trans hU3 (fun _ _ h => h))
  have hw3 := hU3.size
  clear hU3
  have a0 := HC3.out.cellv (i := 0) rfl
  have a1 := HC3.out.cellv (i := 1) rfl
  have a2 := HC3.out.cellv (i := 2) rfl
  obtain ⟨bs, ec, hR⟩ : ∃ bs ec, bytesOf is0 st0 cp0 = (bs, ec) := ⟨_, _, rfl⟩
  go_upto_region 3 with (go_at_call 18; refine (bytes_any _ S0 A0 n0 c0 is0 st0 cp0 (H0.out.upd HU3.out (fun _ _ => not_nob)) hst0 hcp0 (by omega)).mono ?_; rw [hR]; rintro e w4 ⟨AB, cB, rfl, hoB, hU4⟩)
  have HR := hideP hR
  have HOB := hideP hoB
  have HU4 := hideP (HU3.out.trans hU4 (fun _ _ h => h))
  have hw4 := hU4.size
  clear hoB hU4 a0 a1 a2 hR
  by_cases hbad : ¬ ec = 0
  · go_wp2_with fail
    go_ret
    exact ⟨rfl, HU4.out⟩
  obtain rfl : ec = 0 := Classical.not_not.1 hbad
  by_cases hb2 : at_ < 0
  · go_wp2_with fail
    go_ret
    exact ⟨rfl, HU4.out⟩
  by_cases hb3 : cut < 0
  · go_wp2_with fail
    go_ret
    exact ⟨rfl, HU4.out⟩
  obtain ⟨hL8, hB8⟩ := bytes_some HR.out
  have hLm := bytes_len HR.out
  have HB8 := hideP hB8
  clear hB8 hbad
  obtain ⟨gB, rfl, -⟩ := HOB.out.form (by omega)
  have hlenb : (bytv bs).length = bs.length := by simp [bytv]
  obtain ⟨k, hk⟩ : ∃ k : Nat, k = at_.toNat % bs.length := ⟨_, rfl⟩
  have hkl : k < bs.length := by rw [hk]; exact Nat.mod_lt _ (by omega)
  have hk1 : at_ % (bs.length : Int) = (k : Int) := by rw [hk]; exact emod_nat (by omega)
  obtain ⟨j, hj⟩ : ∃ j : Nat, j = cut.toNat % bs.length := ⟨_, rfl⟩
  have hjl : j < bs.length := by rw [hj]; exact Nat.mod_lt _ (by omega)
  have hj1 : cut % (bs.length : Int) = (j : Int) := by rw [hj]; exact emod_nat (by omega)
  clear hk hj
  have hL0 : ¬ (bs.length : Int) = 0 := by omega
  go_upto_region 7 with (at_builtin; refine wpList_append_T rfl _ _ 30 rfl w4.heap.size 5 i0 (.int .u8 0) Tryd.underlying30 hi0 hz0 hz1 hz2 rfl (.slice none 0 0) 0 [] rfl (OwnT.nil_ w4 _ _) ⟨gB, 0, none⟩ bs.length cB (bytv bs) rfl hlenb (HOB.out.cells rfl) (bytv_one bs) (by unfold maxLen; omega) (by omega) (Nat.le_refl _) ?_; intro A5 c5 w5 oN gr hat5; simp only [Nat.zero_add, List.nil_append] at oN ⊢)
  obtain ⟨g5, rfl, hc5⟩ := oN.form (by omega)
  have hg5 := oN.lo (g := g5) rfl
  have HO5 := hideP oN
  have HV5 := hideP ((Upd.refl Nob w4).grown gr (by simp [Value.ownBlock]))
  have hs5 := HV5.out.size
  clear oN gr hat5
  obtain ⟨⟨u, hu⟩, hfz⟩ := hc5 k hkl
  clear hc5
  obtain ⟨x, hx⟩ : ∃ x, bs[k]? = some x := ⟨_, List.getElem?_eq_getElem hkl⟩
  have hcx := HO5.out.cells rfl k (.int .u8 x) (by simp [bytv, hx])
  rw [add_lit_, Nat.zero_add] at hcx
  obtain rfl : u = .int .u8 x := by rw [hcx] at hu; injection hu with hu; exact hu.symm
  go_upto_region 10 with fail
  have hO6 := HO5.out.stored (k := k) (.int .u8 tb)
  rw [bytv_set] at hO6
  have HO6 := hideP hO6
  have HV6 := hideP (HV5.out.setCell ⟨g5, k, none⟩ (.int .u8 tb) (fun h => absurd h (by show ¬ g5 < _; omega)))
  obtain ⟨f, hf⟩ : ∃ f, codeOf (bs.set k tb) = f := ⟨_, rfl⟩
  have HF := hideP hf
  clear hO6 HO5 HV5 hcx hu hfz hf
  generalize w5.setCell ⟨g5, k, none⟩ (.int .u8 tb) = w6 at *
  go_upto_region 11 with (go_at_call 15; refine (load_codeT w6 w4.heap.size (some ⟨g5, 0, none⟩) bs.length c5 (bs.set k tb) f HF.out HO6.out (set_byte HB8.out hto)).mono ?_; rintro e w7 ⟨⟨A7, n7, c7, s7, t7, rfl⟩, hU7⟩)
  have HV8 := hideP ((HV6.out.trans hU7 (fun _ _ h => h)).alloc (.cells #[.slice A7 n7 c7, .int .i64 s7, .int .i64 t7] 24))
  clear hU7
  generalize w7.alloc (.cells #[.slice A7 n7 c7, .int .i64 s7, .int .i64 t7] 24) = w8 at *
  have hs8 := HV8.out.size
  have hcB := HOB.out.cap_
  have hjc : (j : Int) ≤ (cB : Int) := by omega
  have HRB := hideP (Reads.of_ownT HOB.out)
  have HSB := hideP (show ∀ b, (Value.slice (some ⟨gB, 0, none⟩) bs.length cB).ownBlock = some b → b < w4.heap.size from fun b hb => HOB.out.lt hb)
  go_upto_region 12 with (go_at_call 15; refine (load_codeR w8 _ (some ⟨gB, 0, none⟩) j cB (bs.take j) 101 (code_cut HR.out hjl) ((reads_take HRB.out (by omega)).upd HV8.out (fun _ _ => not_nob)) (fun y hy => HB8.out y (List.mem_of_mem_take hy)) (fun b hb => by have := HSB.out b hb; omega) (by omega)).mono ?_; rintro e w9 ⟨⟨A9, n9, c9, s9, t9, rfl⟩, hU9⟩)
  have HVa := hideP ((HV8.out.trans hU9 (fun _ _ h => h)).alloc (.cells #[.slice A9 n9 c9, .int .i64 s9, .int .i64 t9] 24))
  clear hU9 HV8 HV6 HO6 hj1 hjc hs8
  generalize w9.alloc (.cells #[.slice A9 n9 c9, .int .i64 s9, .int .i64 t9] 24) = wa at *
  have hsa := HVa.out.size
  have HRBa := hideP (HRB.out.upd HVa.out (fun _ _ => not_nob))
  go_upto_region 14 with (at_builtin; refine wpList_append_reads rfl _ _ 30 rfl wa.heap.size 5 i0 (.int .u8 0) 1 1 Tryd.underlying30 hi0 hz0 hz1 hz2 rfl (by decide) (.slice none 0 0) 0 [] rfl (World.ownsRow_nil _ _ _ _) _ (some ⟨gB, 0, none⟩) bs.length cB (bytv bs) rfl HRBa.out (bytv_one bs) (by unfold maxLen; omega) (by omega) (Nat.le_refl _) ?_; intro vb wb ob gr hatb; simp only [Nat.zero_add, List.nil_append] at ob; obtain ⟨Ab, cb, rfl⟩ := own_shape ob)
  have HOb := hideP ob
  have HVb := hideP (HVa.out.trans ((Upd.refl Nob wa).grown gr (by simp [Value.ownBlock])) (fun _ _ h => h))
  have hsb := ((Upd.refl Nob wa).grown gr (by simp [Value.ownBlock])).size
  clear ob gr hatb
  have HR4 := hideP (H4.out.upd (HU4.out.trans HVb.out (fun _ _ h => h)) (fun _ _ => not_nob))
  go_upto_region 15 with (at_builtin; refine wpList_append_wide rfl _ _ 30 rfl wa.heap.size 5 i0 (.int .u8 0) 1 Tryd.underlying30 hi0 hz0 hz1 hz2 rfl (.slice Ab bs.length cb) bs.length (bytv bs) rfl HOb.out S4 A4 n4 c4 (bytv bh) rfl HR4.out (bytv_one bh) (by unfold maxLen; omega) (by omega) (by omega) ?_; intro vc wc oc gr hatc; obtain ⟨Ac, cc, rfl⟩ := own_shape oc)
  have HOc := hideP oc
  have HVc := hideP (HVb.out.grown gr (fun b hb h => by have := own_lo HOb.out hb; omega))
  clear oc gr hatc
  have hlh : bh.length = n4 := by have := H4.out.1; simpa [bytv] using this
  obtain ⟨h, hh⟩ : ∃ h, codeOf (bs ++ bh) = h := ⟨_, rfl⟩
  have hOd := OwnT.of HOc.out
  rw [← bytv_append] at hOd
  have HOd := hideP hOd
  have HH := hideP hh
  clear hOd hh
  go_upto_region 16 with (go_at_call 15; refine (load_codeT wc wa.heap.size Ac (bs.length + n4) cc (bs ++ bh) h HH.out HOd.out (fun y hy => by rcases List.mem_append.1 hy with hy | hy; exact HB8.out y hy; exact H48.out y hy)).mono ?_; rintro e wd ⟨⟨Ad, nd, cd, sd, td, rfl⟩, hUd⟩)
  have HVd := hideP (HU4.out.trans ((HVc.out.trans hUd (fun _ _ h => h)).alloc (.cells #[.slice Ad nd cd, .int .i64 sd, .int .i64 td] 24)) (fun _ _ h => h))
  clear hUd
  have hF := HF.out
  have hH := HH.out
  clear HF HH
  by_cases hxt : x = tb
  · subst hxt
    rw [code_same HR.out hx] at hF
    subst hF
    by_cases hz : n4 = 0
    · obtain rfl : bh = [] := List.eq_nil_of_length_eq_zero (by omega)
      rw [code_all HR.out] at hH
      subst hH hz
      go_wp2_with fail
      go_ret
      exact ⟨rfl, HVd.out⟩
    · have hne : bh ≠ [] := fun e => hz (by rw [← hlh, e]; rfl)
      rw [code_more HR.out hne, List.length_append, hlh] at hH
      by_cases hlong : 8388608 < bs.length + n4
      · rw [if_pos hlong] at hH
        subst hH
        go_wp2_with fail
        go_ret
        exact ⟨rfl, HVd.out⟩
      · rw [if_neg hlong] at hH
        subst hH
        go_wp2_with fail
        go_ret
        exact ⟨rfl, HVd.out⟩
  · rw [code_turn HR.out hx hto hxt] at hF
    subst hF
    have hxb : (x == tb) = false := by simp [hxt]
    rw [hxb]
    by_cases hz : n4 = 0
    · obtain rfl : bh = [] := List.eq_nil_of_length_eq_zero (by omega)
      rw [code_all HR.out] at hH
      subst hH hz
      go_wp2_with fail
      go_ret
      exact ⟨rfl, HVd.out⟩
    · have hne : bh ≠ [] := fun e => hz (by rw [← hlh, e]; rfl)
      rw [code_more HR.out hne, List.length_append, hlh] at hH
      by_cases hlong : 8388608 < bs.length + n4
      · rw [if_pos hlong] at hH
        subst hH
        go_wp2_with fail
        go_ret
        exact ⟨rfl, HVd.out⟩
      · rw [if_neg hlong] at hH
        subst hH
        go_wp2_with fail
        go_ret
        exact ⟨rfl, HVd.out⟩
end Go.Proofs.YtdbdokjlcdogiaaDoor
