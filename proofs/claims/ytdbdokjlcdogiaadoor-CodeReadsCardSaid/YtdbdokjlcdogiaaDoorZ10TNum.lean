/-
  OwnS, Word, TNum, put together.
-/
import Derived.Test.YtdbdokjlcdogiaaDoorZ09OwnR
import Derived.StillTailTactics
import Derived.Laws.Strings
import Derived.Laws.DeepStrings4

/-
  The state of heronlaw10.Owned: two lists of rows, of ranges and of instructions.
-/
namespace Go.Proofs.YtdbdokjlcdogiaaDoor
open Go.RowKit
set_option linter.unusedVariables false

def patR (j : Nat) : List Value := [.int .i64 (-1 - (j : Int)), .int .i64 0]
def patI (j : Nat) : List Value := [.int .i64 (-1 - (j : Int)), .int .i64 0, .int .i64 0, .int .i64 0, .slice none 0 0]
/-- the first k parts of a sequence, each -/
def fstAt : Code → Nat → Code
  | .seq a _, 0 => a
  | .seq _ b, n + 1 => fstAt b n
  | c, _ => c

structure St (w : World) (base : Nat) (RA : Option Addr) (rc : Nat) (rows : List Row3) (i k : Nat) (IA : Option Addr) (ic : Nat) (irows : List Row3) (i2 k2 : Nat) : Prop where
  rl : w.ownsRow base 46 1 (.slice RA rows.length rc) rows.length (rows.map rowV)
  r : RowsF w base 50 2 patR rows i k
  il : w.ownsRow base 22 1 (.slice IA irows.length ic) irows.length (irows.map rowV)
  n : RowsF w base 48 5 patI irows i2 k2

theorem own_types {w : World} {b1 b2 s1 s2 n1 n2 : Nat} {e1 e2 : TypeId} {v1 v2 : Value} {xs ys : List Value} (h1 : w.ownsRow b1 e1 s1 v1 n1 xs) (h2 : w.ownsRow b2 e2 s2 v2 n2 ys) (hne : e1 ≠ e2) {g : Nat} (hg : v2.ownBlock = some g) : v1.ownBlock ≠ some g := by
  obtain ⟨cur, hc, _⟩ := own_cells h2 hg
  exact own_ne h1 hc hne
theorem RowsF.types {w : World} {base b2 s2 n2 : Nat} {e e2 : TypeId} {size : Nat} {pat : Nat → List Value} {rows : List Row3} {i k : Nat} {v2 : Value} {ys : List Value} (h : RowsF w base e size pat rows i k) (h2 : w.ownsRow b2 e2 s2 v2 n2 ys) (hne : e ≠ e2) {g : Nat} (hg : v2.ownBlock = some g) : ∀ r b, r ∈ rows → (rowV r).ownBlock = some b → b ≠ g := fun r b hr hb e3 => by
  obtain ⟨j, hj⟩ := List.mem_iff_getElem?.1 hr
  obtain ⟨xs, hx, -⟩ := h.own j r hj
  subst e3
  exact own_types hx h2 hne hg hb
/-- a row's cells are set -/
theorem upd_cell {w : World} {g : Nat} {o : Nat} {u : Value} : Upd (fun b => b = g) w (w.setCell ⟨g, o, none⟩ u) := (Upd.refl _ w).setCell _ _ (fun _ => rfl)

section
variable {w w' : World} {base rc ic i k i2 k2 g n c : Nat} {RA IA : Option Addr} {rows irows : List Row3}
theorem St.putR (h : St w base RA rc rows i k IA ic irows i2 k2) (hr : rows[i]? = some (some ⟨g, 0, none⟩, n, c)) (hk : k < n) :
    St ((w.setCell ⟨g, k * 2, none⟩ (.int .i64 (-1 - (i : Int)))).setCell ⟨g, k * 2 + 1, none⟩ (.int .i64 0)) base RA rc rows i (k + 1) IA ic irows i2 k2 := by
  have hU : Upd (fun b => b = g) w ((w.setCell ⟨g, k * 2, none⟩ (.int .i64 (-1 - (i : Int)))).setCell ⟨g, k * 2 + 1, none⟩ (.int .i64 0)) := upd_cell.trans upd_cell (fun _ _ h => h)
  obtain ⟨xs, hx, -⟩ := h.r.own i _ hr
  exact ⟨own_upd h.rl hU (fun b hb e => own_types h.rl hx (by decide) (g := g) rfl (e ▸ hb)), h.r.put2 (p := fun j => .int .i64 (-1 - (j : Int))) (q := fun _ => .int .i64 0) hr hk,
    own_upd h.il hU (fun b hb e => own_types h.il hx (by decide) (g := g) rfl (e ▸ hb)), h.n.upd hU (fun r b hr2 hb e => h.n.types hx (by decide) (g := g) rfl r b hr2 hb e)⟩
theorem St.putI (h : St w base RA rc rows i k IA ic irows i2 k2) (hr : irows[i2]? = some (some ⟨g, 0, none⟩, n, c)) (hk : k2 < n) :
    St (((((w.setCell ⟨g, k2 * 5, none⟩ (.int .i64 (-1 - (i2 : Int)))).setCell ⟨g, k2 * 5 + 1, none⟩ (.int .i64 0)).setCell ⟨g, k2 * 5 + 2, none⟩ (.int .i64 0)).setCell ⟨g, k2 * 5 + 3, none⟩ (.int .i64 0)).setCell ⟨g, k2 * 5 + 4, none⟩ (.slice none 0 0)) base RA rc rows i k IA ic irows i2 (k2 + 1) := by
  have hU : Upd (fun b => b = g) w (((((w.setCell ⟨g, k2 * 5, none⟩ (.int .i64 (-1 - (i2 : Int)))).setCell ⟨g, k2 * 5 + 1, none⟩ (.int .i64 0)).setCell ⟨g, k2 * 5 + 2, none⟩ (.int .i64 0)).setCell ⟨g, k2 * 5 + 3, none⟩ (.int .i64 0)).setCell ⟨g, k2 * 5 + 4, none⟩ (.slice none 0 0)) :=
    (((upd_cell.trans upd_cell (fun _ _ h => h)).trans upd_cell (fun _ _ h => h)).trans upd_cell (fun _ _ h => h)).trans upd_cell (fun _ _ h => h)
  obtain ⟨xs, hx, -⟩ := h.n.own i2 _ hr
  exact ⟨own_upd h.rl hU (fun b hb e => own_types h.rl hx (by decide) (g := g) rfl (e ▸ hb)), h.r.upd hU (fun r b hr2 hb e => h.r.types hx (by decide) (g := g) rfl r b hr2 hb e),
    own_upd h.il hU (fun b hb e => own_types h.il hx (by decide) (g := g) rfl (e ▸ hb)), h.n.put5 (p := fun j => .int .i64 (-1 - (j : Int))) (q1 := .int .i64 0) (q2 := .int .i64 0) (q3 := .int .i64 0) (q4 := .slice none 0 0) hr hk⟩
theorem St.nextR (h : St w base RA rc rows i k IA ic irows i2 k2) {r : Row3} (hr : rows[i]? = some r) (hk : k = r.2.1) : St w base RA rc rows (i + 1) 0 IA ic irows i2 k2 := ⟨h.rl, h.r.next hr hk, h.il, h.n⟩
theorem St.nextI (h : St w base RA rc rows i k IA ic irows i2 k2) {r : Row3} (hr : irows[i2]? = some r) (hk : k2 = r.2.1) : St w base RA rc rows i k IA ic irows (i2 + 1) 0 := ⟨h.rl, h.r, h.il, h.n.next hr hk⟩
theorem St.upd (h : St w base RA rc rows i k IA ic irows i2 k2) (hU : Upd Nob w w') : St w' base RA rc rows i k IA ic irows i2 k2 :=
  ⟨own_upd h.rl hU (fun _ _ => not_nob), h.r.upd hU (fun _ _ _ _ => not_nob), own_upd h.il hU (fun _ _ => not_nob), h.n.upd hU (fun _ _ _ _ => not_nob)⟩
/-- the list's cell of a row -/
theorem list_cell {w : World} {base : Nat} {t : TypeId} {RA : Option Addr} {rc : Nat} {rows : List Row3} (h : w.ownsRow base t 1 (.slice RA rows.length rc) rows.length (rows.map rowV)) {i : Nat} {r : Row3} (hr : rows[i]? = some r) :
    ∃ g, RA = some ⟨g, 0, none⟩ ∧ base ≤ g ∧ w.cell? ⟨g, i, none⟩ = some (rowV r) ∧ w.frozen? ⟨g, i, none⟩ = false := by
  have hl := (List.getElem?_eq_some_iff.1 hr).1
  obtain ⟨g, cap, hv, hb, -⟩ := World.ownsRow.form h (by omega)
  injection hv with e1 _ e3
  subst e1 e3
  refine ⟨g, rfl, hb, ?_, World.ownsRow.frozenAt h i⟩
  rw [World.ownsRow.cellAt h i (by omega)]
  simp [hr]
end

section
variable {w w' : World} {base rc ic i k i2 k2 g n c gN cN gR : Nat} {RA IA A : Option Addr} {rows irows : List Row3} {xs : List Value}
theorem list_set {w : World} {base : Nat} {t : TypeId} {gR rc : Nat} {rows : List Row3} (h : w.ownsRow base t 1 (.slice (some ⟨gR, 0, none⟩) rows.length rc) rows.length (rows.map rowV)) (i : Nat) (r : Row3) :
    (w.setCell ⟨gR, i, none⟩ (rowV r)).ownsRow base t 1 (.slice (some ⟨gR, 0, none⟩) (rows.set i r).length rc) (rows.set i r).length ((rows.set i r).map rowV) := by
  have := (World.ownsRow.stored h i (rowV r)).1
  rw [rowV_set] at this
  rw [List.length_set]
  exact this
theorem St.appR (h : St w base (some ⟨gR, 0, none⟩) rc rows rows.length 0 IA ic irows i2 k2) (hr : rows[i]? = some (A, n, c)) (hx : PatTo (patR i) 2 n xs) (hox : w.ownsRow base 50 2 (.slice A n c) n xs) (hn : n + 2 ≤ 10000000)
    (oN : w'.ownsRow base 50 2 (.slice (some ⟨gN, 0, none⟩) (n + 2) cN) (n + 2) (xs ++ (patR i ++ patR i))) (gr : w.grownBy w' (Value.slice A n c).ownBlock) (hat : (Value.slice A n c).ownBlock = some gN ∨ w.heap.size ≤ gN) :
    St (w'.setCell ⟨gR, i, none⟩ (.slice (some ⟨gN, 0, none⟩) (n + 2) cN)) base (some ⟨gR, 0, none⟩) rc (rows.set i (some ⟨gN, 0, none⟩, n + 2, cN)) (rows.set i (some ⟨gN, 0, none⟩, n + 2, cN)).length 0 IA ic irows i2 k2 := by
  have UB := (Upd.refl (fun b => (Value.slice A n c).ownBlock = some b) w).grown gr (fun b hb _ => hb)
  have rl := own_upd h.rl UB (fun b hb hb2 => own_types h.rl hox (by decide) hb2 hb)
  have il := own_upd h.il UB (fun b hb hb2 => own_types h.il hox (by decide) hb2 hb)
  have rn := h.r.app hr hx hox.1 rfl hn oN gr hat
  have nn := h.n.upd UB (fun r b hr2 hb hb2 => h.n.types hox (by decide) hb2 r b hr2 hb rfl)
  have hU : Upd (fun b => b = gR) w' (w'.setCell ⟨gR, i, none⟩ (.slice (some ⟨gN, 0, none⟩) (n + 2) cN)) := upd_cell
  exact ⟨list_set rl i (some ⟨gN, 0, none⟩, n + 2, cN), rn.upd hU (fun r b hr2 hb e => rn.types rl (by decide) (g := gR) rfl r b hr2 hb e),
    own_upd il hU (fun b hb e => own_types il rl (by decide) (g := gR) rfl (e ▸ hb)), nn.upd hU (fun r b hr2 hb e => nn.types rl (by decide) (g := gR) rfl r b hr2 hb e)⟩
theorem St.appI (h : St w base RA rc rows i2 k2 (some ⟨gR, 0, none⟩) ic irows irows.length 0) (hr : irows[i]? = some (A, n, c)) (hx : PatTo (patI i) 5 n xs) (hox : w.ownsRow base 48 5 (.slice A n c) n xs) (hn : n + 2 ≤ 10000000)
    (oN : w'.ownsRow base 48 5 (.slice (some ⟨gN, 0, none⟩) (n + 2) cN) (n + 2) (xs ++ (patI i ++ patI i))) (gr : w.grownBy w' (Value.slice A n c).ownBlock) (hat : (Value.slice A n c).ownBlock = some gN ∨ w.heap.size ≤ gN) :
    St (w'.setCell ⟨gR, i, none⟩ (.slice (some ⟨gN, 0, none⟩) (n + 2) cN)) base RA rc rows i2 k2 (some ⟨gR, 0, none⟩) ic (irows.set i (some ⟨gN, 0, none⟩, n + 2, cN)) (irows.set i (some ⟨gN, 0, none⟩, n + 2, cN)).length 0 := by
  have UB := (Upd.refl (fun b => (Value.slice A n c).ownBlock = some b) w).grown gr (fun b hb _ => hb)
  have rl := own_upd h.rl UB (fun b hb hb2 => own_types h.rl hox (by decide) hb2 hb)
  have il := own_upd h.il UB (fun b hb hb2 => own_types h.il hox (by decide) hb2 hb)
  have rn := h.n.app hr hx hox.1 rfl hn oN gr hat
  have nn := h.r.upd UB (fun r b hr2 hb hb2 => h.r.types hox (by decide) hb2 r b hr2 hb rfl)
  have hU : Upd (fun b => b = gR) w' (w'.setCell ⟨gR, i, none⟩ (.slice (some ⟨gN, 0, none⟩) (n + 2) cN)) := upd_cell
  exact ⟨own_upd rl hU (fun b hb e => own_types rl il (by decide) (g := gR) rfl (e ▸ hb)), nn.upd hU (fun r b hr2 hb e => nn.types il (by decide) (g := gR) rfl r b hr2 hb e),
    list_set il i (some ⟨gN, 0, none⟩, n + 2, cN), rn.upd hU (fun r b hr2 hb e => rn.types il (by decide) (g := gR) rfl r b hr2 hb e)⟩
end
end Go.Proofs.YtdbdokjlcdogiaaDoor

/-
  The walks of code's blank and of (*code.reader).word.
-/
namespace Go.Proofs.YtdbdokjlcdogiaaDoor
open Go.RowKit
set_option linter.unusedVariables false

def blankN (c : Nat) : Bool := decide (c = 32 ∨ c = 9 ∨ c = 10 ∨ c = 13)
set_option maxRecDepth 100000 in
theorem blank_any (w : World) (c : Nat) (hc : c < 256) : Calls Tryd.prog 58 #[.int .u8 (c : Nat)] w fun e w' => e = .returned (.bool (blankN c)) ∧ w' = w := by
  by_cases h1 : c = 32
  · subst h1
    go_enter Tryd.func58, Tryd.ntmps58
    go_wp2_with fail
    go_ret
    exact ⟨rfl, rfl⟩
  by_cases h2 : c = 9
  · subst h2
    go_enter Tryd.func58, Tryd.ntmps58
    go_wp2_with fail
    go_ret
    exact ⟨rfl, rfl⟩
  by_cases h3 : c = 10
  · subst h3
    go_enter Tryd.func58, Tryd.ntmps58
    go_wp2_with fail
    go_ret
    exact ⟨rfl, rfl⟩
  by_cases h4 : c = 13
  · subst h4
    go_enter Tryd.func58, Tryd.ntmps58
    go_wp2_with fail
    go_ret
    exact ⟨rfl, rfl⟩
  have e1 : ((c : Int) == 32) = false := by simp; omega
  have e2 : ((c : Int) == 9) = false := by simp; omega
  have e3 : ((c : Int) == 10) = false := by simp; omega
  have e4 : ((c : Int) == 13) = false := by simp; omega
  have e5 : blankN c = false := by unfold blankN; simp [h1, h2, h3, h4]
  rw [e5]
  go_enter Tryd.func58, Tryd.ntmps58
  go_wp2_with fail
  go_ret
  exact ⟨rfl, rfl⟩

/-- the reader at tb stands at k of the text s -/
structure TxtR (w : World) (tb : Nat) (s : ByteArray) (k : Nat) : Prop where
  c : Cells w tb 77 #[.string s, .int .i64 (k : Nat)]
  le : k ≤ s.size
  few : s.size ≤ 8388608
theorem TxtR.upd {F : Nat → Prop} {w w' : World} {tb : Nat} {s : ByteArray} {k : Nat} (h : TxtR w tb s k) (hU : Upd F w w') (h1 : ¬ F tb) : TxtR w' tb s k := ⟨h.c.upd hU h1, h.le, h.few⟩
/-- the next place, from k on, where a byte is none of p (or the end) -/
def skipN (s : ByteArray) (p : Nat → Bool) : Nat → Nat → Nat
  | 0, k => k
  | f + 1, k => if h : k < s.size then (if p (s[k]'h).toNat then skipN s p f (k + 1) else k) else k
theorem skipN_le (s : ByteArray) (p : Nat → Bool) : ∀ (f k : Nat), k ≤ s.size → k ≤ skipN s p f k ∧ skipN s p f k ≤ s.size
  | 0, k, h => ⟨Nat.le_refl _, h⟩
  | f + 1, k, h => by
    unfold skipN
    split
    · split
      · have := skipN_le s p f (k + 1) (by omega)
        omega
      · exact ⟨Nat.le_refl _, h⟩
    · exact ⟨Nat.le_refl _, h⟩
def wordAt (s : ByteArray) (k : Nat) : Nat := skipN s blankN (s.size - k) k
def wordEnd (s : ByteArray) (k : Nat) : Nat := skipN s (fun c => !blankN c) (s.size - k) k
theorem skipN_yes {s : ByteArray} {p : Nat → Bool} {f k : Nat} (h : k < s.size) (hp : p (s[k]'h).toNat = true) : skipN s p (f + 1) k = skipN s p f (k + 1) := by
  rw [skipN, dif_pos h, if_pos hp]
theorem skipN_no {s : ByteArray} {p : Nat → Bool} {f k : Nat} (h : k < s.size) (hp : p (s[k]'h).toNat = false) : skipN s p (f + 1) k = k := by
  rw [skipN, dif_pos h, if_neg (by simp [hp])]
theorem TxtR.drew_ {w : World} {tb : Nat} {s : ByteArray} {k : Nat} (h : TxtR w tb s k) : TxtR w.drew tb s k := ⟨h.c.drew, h.le, h.few⟩
theorem TxtR.step {w : World} {tb : Nat} {s : ByteArray} {k : Nat} (h : TxtR w tb s k) (hk : k < s.size) : TxtR (w.setCell ⟨tb, 1, none⟩ (.int .i64 ((k : Int) + 1))) tb s (k + 1) := ⟨h.c.set_ 1 (.int .i64 ((k : Int) + 1)), hk, h.few⟩
set_option maxRecDepth 100000 in
set_option maxHeartbeats 4000000 in
theorem tword_one (Q : Exit → Act → World → Prop) (K rest : Code) (w : World) (tb : Nat) (s : ByteArray) (k : Nat) (x1 x2 x3 x4 x5 x6 x7 x8 x9 x10 x11 x12 x13 x14 x15 x16 x17 x18 x19 x20 x21 x22 x23 x24 x25 x26 x27 x28 x29 x30 x31 x32 x33 x34 x35 x36 x37 x38 x39 x40 x41 x42 x43 x44 x45 x46 x47 x48 x49 x50 x51 x52 x53 x54 x55 x56 x57 x58 x59 x60 x61 x62 x63 x64 x65 x66 x67 x68 x69 x70 x71 x72 x73 x74 x75 x76 : Value) (hK : Tryd.f43.body = some K) (h : TxtR w tb s k)
    (hnext : ∀ (x1 x2 x3 x4 x5 x6 x7 x8 x9 x10 x11 x12 x13 x14 x15 x16 x17 x18 x19 x20 x21 x22 x23 x24 x25 x26 x27 x28 x29 x30 x31 x32 x33 x34 x35 x36 x37 x38 x39 x40 x41 x42 x43 x44 x45 x46 x47 x48 x49 x50 x51 x52 x53 x54 x55 x56 x57 x58 x59 x60 x61 x62 x63 x64 x65 x66 x67 x68 x69 x70 x71 x72 x73 x74 x75 x76 : Value) (w' : World), TxtR w' tb s (wordAt s k) → Upd (fun b => b = tb) w w' → rest.wp Tryd.prog Q ⟨#[.pointer (some ⟨tb, 0, none⟩), x1, x2, x3, x4, x5, x6, x7, x8, x9, x10, x11, x12, x13, x14, x15, x16, x17, x18, x19, x20, x21, x22, x23, x24, x25, x26, x27, x28, x29, x30, x31, x32, x33, x34, x35, x36, x37, x38, x39, x40, x41, x42, x43, x44, x45, x46, x47, x48, x49, x50, x51, x52, x53, x54, x55, x56, x57, x58, x59, x60, x61, x62, x63, x64, x65, x66, x67, x68, x69, x70, x71, x72, x73, x74, x75, x76], []⟩ w') :
    (Code.seq (fstAt K 0) (Code.seq (fstAt K 1) rest)).wp Tryd.prog Q ⟨#[.pointer (some ⟨tb, 0, none⟩), x1, x2, x3, x4, x5, x6, x7, x8, x9, x10, x11, x12, x13, x14, x15, x16, x17, x18, x19, x20, x21, x22, x23, x24, x25, x26, x27, x28, x29, x30, x31, x32, x33, x34, x35, x36, x37, x38, x39, x40, x41, x42, x43, x44, x45, x46, x47, x48, x49, x50, x51, x52, x53, x54, x55, x56, x57, x58, x59, x60, x61, x62, x63, x64, x65, x66, x67, x68, x69, x70, x71, x72, x73, x74, x75, x76], []⟩ w := by
  injection hK with hK
  subst hK
  have H := hideP h
  have HN := hideP hnext
  have hle := h.le
  have hfew := h.few
  clear h hnext
  simp only [fstAt]
  go_wp2_with fail
  go_loopg [4] (s.size - k) (fun gk v4 wr => ∃ (i : Nat), i + gk = s.size ∧ k ≤ i ∧ TxtR wr tb s i ∧ skipN s blankN gk i = skipN s blankN (s.size - k) k ∧ Upd (fun b => b = tb) w wr)
  case atStart => exact ⟨k, by omega, by omega, H.out, rfl, Upd.refl _ _⟩
  case round =>
    obtain ⟨i, hk, hki, hT, hsk, hU⟩ := hrel
    have HT := hideP hT
    have HSK := hideP hsk
    have HU := hideP hU
    have c0 := hT.c.cellv (i := 0) rfl
    have c1 := hT.c.cellv (i := 0 + 1) rfl
    have f1 := hT.c.frozen (0 + 1)
    have HK := hideP hk
    clear hT hsk hU hk
    by_cases hlt : i < s.size
    · have g1 : (i : Int) < (s.size : Int) := by omega
      have hbl := blank_any wr.drew (s[i]'hlt).toNat (UInt8.toNat_lt _)
      obtain ⟨bb, hbb⟩ : ∃ bb, blankN (s[i]'hlt).toNat = bb := ⟨_, rfl⟩
      rw [hbb] at hbl
      have HBB := hideP hbb
      clear hbb
      go_upto_region 1 with fail
      refine wp_region_still_lit (by kernel_rfl) (by kernel_rfl) ?_
      repeat still_step
      still_call hbl
      repeat still_step
      refine wpStill_nil ?_
      clear hbl
      have hgk : gk = (s.size - (i + 1)) + 1 := by have := HK.out; omega
      have hs2 := HSK.out
      rw [hgk] at hs2
      have HS2 := hideP hs2
      have HGK := hideP hgk
      clear hs2 hgk
      cases bb with
      | true =>
        have HS3 := hideP (show skipN s blankN (s.size - (i + 1)) (i + 1) = skipN s blankN (s.size - k) k from by have h1 := HS2.out; rw [skipN_yes hlt (by simp [HBB.out])] at h1; exact h1)
        clear HS2 HBB hlt
        go_wp2_with fail
        go_roundg (s.size - (i + 1))
        case measure => have := HGK.out; omega
        case rel => exact ⟨i + 1, by have := HK.out; have := HGK.out; omega, by omega, (HT.out.step (by have := HK.out; have := HGK.out; omega)).drew_, HS3.out, (HU.out.setCell ⟨tb, 1, none⟩ (.int .i64 ((i : Int) + 1)) (fun _ => rfl)).drew⟩
      | false =>
        have HS3 := hideP (show i = skipN s blankN (s.size - k) k from by have h1 := HS2.out; rw [skipN_no hlt (by simp [HBB.out])] at h1; exact h1)
        have HT2 := hideP (HT.out.drew_)
        have HU2 := hideP (HU.out.drew)
        clear c0 c1 f1
        show Exit.then _ _ _ _ wr.drew
        generalize wr.drew = wd at *
        have c0 := HT2.out.c.cellv (i := 0) rfl
        have c1 := HT2.out.c.cellv (i := 0 + 1) rfl
        go_wp2_with fail
        have hT3 := HT2.out
        rw [HS3.out] at hT3
        exact HN.out _ _ _ _ _ _ _ _ _ _ _ _ _ _ _ _ _ _ _ _ _ _ _ _ _ _ _ _ _ _ _ _ _ _ _ _ _ _ _ _ _ _ _ _ _ _ _ _ _ _ _ _ _ _ _ _ _ _ _ _ _ _ _ _ _ _ _ _ _ _ _ _ _ _ _ _ _ hT3 HU2.out
    · have hii : i = s.size := by have := HT.out.le; omega
      have hge : ¬ (i : Int) < (s.size : Int) := by omega
      have HII := hideP hii
      clear hlt hii hki
      have HS3 := hideP (show i = skipN s blankN (s.size - k) k from by
        have h1 := HSK.out
        rw [show gk = 0 by have := HK.out; have := HII.out; omega] at h1
        exact h1)
      have HT2 := hideP (HT.out.drew_)
      have HU2 := hideP (HU.out.drew)
      go_upto_region 1 with fail
      go_region
      clear c0 c1 f1
      generalize wr.drew = wd at *
      have c0 := HT2.out.c.cellv (i := 0) rfl
      have c1 := HT2.out.c.cellv (i := 0 + 1) rfl
      go_wp2_with fail
      have hT3 := HT2.out
      rw [HS3.out] at hT3
      exact HN.out _ _ _ _ _ _ _ _ _ _ _ _ _ _ _ _ _ _ _ _ _ _ _ _ _ _ _ _ _ _ _ _ _ _ _ _ _ _ _ _ _ _ _ _ _ _ _ _ _ _ _ _ _ _ _ _ _ _ _ _ _ _ _ _ _ _ _ _ _ _ _ _ _ _ _ _ _ hT3 HU2.out
set_option maxRecDepth 100000 in
set_option maxHeartbeats 4000000 in
theorem tword_two (Q : Exit → Act → World → Prop) (K rest : Code) (w : World) (tb : Nat) (s : ByteArray) (a : Nat) (x1 x2 x3 x4 x5 x6 x7 x8 x9 x10 x11 x12 x13 x14 x15 x16 x17 x18 x19 x20 x21 x22 x23 x24 x25 x26 x27 x28 x29 x30 x31 x32 x33 x34 x35 x36 x37 x38 x39 x40 x41 x42 x43 x44 x45 x46 x47 x48 x49 x50 x51 x52 x53 x54 x55 x56 x57 x58 x59 x60 x61 x62 x63 x64 x65 x66 x67 x68 x69 x70 x71 x72 x73 x74 x75 x76 : Value) (hK : Tryd.f43.body = some K) (h : TxtR w tb s a)
    (hnext : ∀ (x1 x2 x4 x5 x6 x7 x8 x9 x10 x11 x12 x13 x14 x15 x16 x17 x18 x19 x20 x21 x22 x23 x24 x25 x26 x27 x28 x29 x30 x31 x32 x33 x34 x35 x36 x37 x38 x39 x40 x41 x42 x43 x44 x45 x46 x47 x48 x49 x50 x51 x52 x53 x54 x55 x56 x57 x58 x59 x60 x61 x62 x63 x64 x65 x66 x67 x68 x69 x70 x71 x72 x73 x74 x75 x76 : Value) (w' : World), TxtR w' tb s (wordEnd s a) → Upd (fun b => b = tb) w w' → rest.wp Tryd.prog Q ⟨#[.pointer (some ⟨tb, 0, none⟩), x1, x2, .int .i64 (a : Nat), x4, x5, x6, x7, x8, x9, x10, x11, x12, x13, x14, x15, x16, x17, x18, x19, x20, x21, x22, x23, x24, x25, x26, x27, x28, x29, x30, x31, x32, x33, x34, x35, x36, x37, x38, x39, x40, x41, x42, x43, x44, x45, x46, x47, x48, x49, x50, x51, x52, x53, x54, x55, x56, x57, x58, x59, x60, x61, x62, x63, x64, x65, x66, x67, x68, x69, x70, x71, x72, x73, x74, x75, x76], []⟩ w') :
    (Code.seq (fstAt K 2) (Code.seq (fstAt K 3) rest)).wp Tryd.prog Q ⟨#[.pointer (some ⟨tb, 0, none⟩), x1, x2, x3, x4, x5, x6, x7, x8, x9, x10, x11, x12, x13, x14, x15, x16, x17, x18, x19, x20, x21, x22, x23, x24, x25, x26, x27, x28, x29, x30, x31, x32, x33, x34, x35, x36, x37, x38, x39, x40, x41, x42, x43, x44, x45, x46, x47, x48, x49, x50, x51, x52, x53, x54, x55, x56, x57, x58, x59, x60, x61, x62, x63, x64, x65, x66, x67, x68, x69, x70, x71, x72, x73, x74, x75, x76], []⟩ w := by
  injection hK with hK
  subst hK
  have H := hideP h
  have HN := hideP hnext
  have hle := h.le
  have hfew := h.few
  have q0 := h.c.cellv (i := 0 + 1) rfl
  clear h hnext
  simp only [fstAt]
  go_wp2_with fail
  clear q0
  go_loopg [37] (s.size - a) (fun gk v4 wr => ∃ (i : Nat), i + gk = s.size ∧ a ≤ i ∧ TxtR wr tb s i ∧ skipN s (fun c => !blankN c) gk i = skipN s (fun c => !blankN c) (s.size - a) a ∧ Upd (fun b => b = tb) w wr)
  case atStart => exact ⟨a, by omega, by omega, H.out, rfl, Upd.refl _ _⟩
  case round =>
    obtain ⟨i, hk, hki, hT, hsk, hU⟩ := hrel
    have HT := hideP hT
    have HSK := hideP hsk
    have HU := hideP hU
    have c0 := hT.c.cellv (i := 0) rfl
    have c1 := hT.c.cellv (i := 0 + 1) rfl
    have f1 := hT.c.frozen (0 + 1)
    have HK := hideP hk
    clear hT hsk hU hk
    by_cases hlt : i < s.size
    · have g1 : (i : Int) < (s.size : Int) := by omega
      have hbl := blank_any wr.drew (s[i]'hlt).toNat (UInt8.toNat_lt _)
      obtain ⟨bb, hbb⟩ : ∃ bb, blankN (s[i]'hlt).toNat = bb := ⟨_, rfl⟩
      rw [hbb] at hbl
      have HBB := hideP hbb
      clear hbb
      go_upto_region 4 with fail
      refine wp_region_still_lit (by kernel_rfl) (by kernel_rfl) ?_
      repeat still_step
      still_call hbl
      repeat still_step
      refine wpStill_nil ?_
      clear hbl
      have hgk : gk = (s.size - (i + 1)) + 1 := by have := HK.out; omega
      have hs2 := HSK.out
      rw [hgk] at hs2
      have HS2 := hideP hs2
      have HGK := hideP hgk
      clear hs2 hgk
      cases bb with
      | false =>
        have HS3 := hideP (show skipN s (fun c => !blankN c) (s.size - (i + 1)) (i + 1) = skipN s (fun c => !blankN c) (s.size - a) a from by have h1 := HS2.out; rw [skipN_yes hlt (by simp [HBB.out])] at h1; exact h1)
        clear HS2 HBB hlt
        go_wp2_with fail
        go_roundg (s.size - (i + 1))
        case measure => have := HGK.out; omega
        case rel => exact ⟨i + 1, by have := HK.out; have := HGK.out; omega, by omega, (HT.out.step (by have := HK.out; have := HGK.out; omega)).drew_, HS3.out, (HU.out.setCell ⟨tb, 1, none⟩ (.int .i64 ((i : Int) + 1)) (fun _ => rfl)).drew⟩
      | true =>
        have HS3 := hideP (show i = skipN s (fun c => !blankN c) (s.size - a) a from by have h1 := HS2.out; rw [skipN_no hlt (by simp [HBB.out])] at h1; exact h1)
        have HT2 := hideP (HT.out.drew_)
        have HU2 := hideP (HU.out.drew)
        clear c0 c1 f1
        show Exit.then _ _ _ _ wr.drew
        generalize wr.drew = wd at *
        have c0 := HT2.out.c.cellv (i := 0) rfl
        have c1 := HT2.out.c.cellv (i := 0 + 1) rfl
        go_wp2_with fail
        have hT3 := HT2.out
        rw [HS3.out] at hT3
        exact HN.out _ _ _ _ _ _ _ _ _ _ _ _ _ _ _ _ _ _ _ _ _ _ _ _ _ _ _ _ _ _ _ _ _ _ _ _ _ _ _ _ _ _ _ _ _ _ _ _ _ _ _ _ _ _ _ _ _ _ _ _ _ _ _ _ _ _ _ _ _ _ _ _ _ _ _ _ hT3 HU2.out
    · have hii : i = s.size := by have := HT.out.le; omega
      have hge : ¬ (i : Int) < (s.size : Int) := by omega
      have HII := hideP hii
      clear hlt hii hki
      have HS3 := hideP (show i = skipN s (fun c => !blankN c) (s.size - a) a from by
        have h1 := HSK.out
        rw [show gk = 0 by have := HK.out; have := HII.out; omega] at h1
        exact h1)
      have HT2 := hideP (HT.out.drew_)
      have HU2 := hideP (HU.out.drew)
      go_upto_region 4 with fail
      go_region
      clear c0 c1 f1
      generalize wr.drew = wd at *
      have c0 := HT2.out.c.cellv (i := 0) rfl
      have c1 := HT2.out.c.cellv (i := 0 + 1) rfl
      go_wp2_with fail
      have hT3 := HT2.out
      rw [HS3.out] at hT3
      exact HN.out _ _ _ _ _ _ _ _ _ _ _ _ _ _ _ _ _ _ _ _ _ _ _ _ _ _ _ _ _ _ _ _ _ _ _ _ _ _ _ _ _ _ _ _ _ _ _ _ _ _ _ _ _ _ _ _ _ _ _ _ _ _ _ _ _ _ _ _ _ _ _ _ _ _ _ _ hT3 HU2.out
set_option maxRecDepth 100000 in
set_option maxHeartbeats 4000000 in
theorem tword_any (w : World) (tb : Nat) (s : ByteArray) (k : Nat) (h : TxtR w tb s k) :
    Calls Tryd.prog 43 #[.pointer (some ⟨tb, 0, none⟩)] w fun e w' => e = .returned (.string (s.extract (wordAt s k) (wordEnd s (wordAt s k)))) ∧ TxtR w' tb s (wordEnd s (wordAt s k)) ∧ Upd (fun b => b = tb) w w' := by
  have hle := skipN_le s blankN (s.size - k) k h.le
  have hle2 := skipN_le s (fun c => !blankN c) (s.size - wordAt s k) (wordAt s k) hle.2
  go_enter Tryd.func43, Tryd.ntmps43
  refine tword_one _ _ _ w tb s k _ _ _ _ _ _ _ _ _ _ _ _ _ _ _ _ _ _ _ _ _ _ _ _ _ _ _ _ _ _ _ _ _ _ _ _ _ _ _ _ _ _ _ _ _ _ _ _ _ _ _ _ _ _ _ _ _ _ _ _ _ _ _ _ _ _ _ _ _ _ _ _ _ _ _ _ rfl h ?_
  intro _ _ _ _ _ _ _ _ _ _ _ _ _ _ _ _ _ _ _ _ _ _ _ _ _ _ _ _ _ _ _ _ _ _ _ _ _ _ _ _ _ _ _ _ _ _ _ _ _ _ _ _ _ _ _ _ _ _ _ _ _ _ _ _ _ _ _ _ _ _ _ _ _ _ _ _ w1 h1 U1
  refine tword_two _ _ _ w1 tb s (wordAt s k) _ _ _ _ _ _ _ _ _ _ _ _ _ _ _ _ _ _ _ _ _ _ _ _ _ _ _ _ _ _ _ _ _ _ _ _ _ _ _ _ _ _ _ _ _ _ _ _ _ _ _ _ _ _ _ _ _ _ _ _ _ _ _ _ _ _ _ _ _ _ _ _ _ _ _ _ rfl h1 ?_
  intro _ _ _ _ _ _ _ _ _ _ _ _ _ _ _ _ _ _ _ _ _ _ _ _ _ _ _ _ _ _ _ _ _ _ _ _ _ _ _ _ _ _ _ _ _ _ _ _ _ _ _ _ _ _ _ _ _ _ _ _ _ _ _ _ _ _ _ _ _ _ _ _ _ _ _ w2 h2 U2
  have U3 := U1.trans U2 (fun _ _ h => h)
  have e1 : wordAt s k ≤ wordEnd s (wordAt s k) := hle2.1
  have e2 : wordEnd s (wordAt s k) ≤ s.size := hle2.2
  have H2 := hideP h2
  have HU3 := hideP U3
  have c0 := h2.c.cellv (i := 0) rfl
  have c1 := h2.c.cellv (i := 0 + 1) rfl
  clear h h1 h2 U1 U2 U3 hle hle2
  generalize wordEnd s (wordAt s k) = b at *
  generalize wordAt s k = a at *
  have g1 : (a : Int) ≤ (b : Int) := by omega
  have g2 : (b : Int) ≤ (s.size : Int) := by omega
  go_wp2_with fail
  go_region
  go_wp2_with fail
  go_ret
  exact ⟨rfl, H2.out.drew_, HU3.out.drew⟩
end Go.Proofs.YtdbdokjlcdogiaaDoor

/-
  The walk of (*code.reader).num: a word's number.
-/
namespace Go.Proofs.YtdbdokjlcdogiaaDoor
open Go.RowKit
set_option linter.unusedVariables false

/-- the digits of v from i on, behind n -/
def digN (v : ByteArray) : Nat → Int → Nat → Option Int
  | 0, n, i => some n
  | f + 1, n, i => if h : i < v.size then (if 48 ≤ (v[i]'h).toNat ∧ (v[i]'h).toNat ≤ 57 then digN v f (10 * n + ((v[i]'h).toNat - 48 : Int)) (i + 1) else none) else some n
def byte0 (v : ByteArray) : Nat := if h : 0 < v.size then (v[0]'h).toNat else 0
/-- a word's number -/
def numV (v : ByteArray) : Option Int := if 1 ≤ v.size ∧ v.size ≤ 9 ∧ (v.size = 1 ∨ ¬ byte0 v = 48) then digN v v.size 0 0 else none
def TNumAns (w : World) (tb : Nat) (s : ByteArray) (b : Nat) : Option Int → Ending → World → Prop
  | none, e, w' => e = .panicked brokenP ∧ Upd (fun b => b = tb) w w'
  | some n, e, w' => e = .returned (.int .i64 n) ∧ TxtR w' tb s b ∧ Upd (fun b => b = tb) w w'
/-- the word at k -/
def wordV (s : ByteArray) (k : Nat) : ByteArray := s.extract (wordAt s k) (wordEnd s (wordAt s k))
theorem digN_step {v : ByteArray} {f i : Nat} {n : Int} (h : i < v.size) : digN v (f + 1) n i = if 48 ≤ (v[i]'h).toNat ∧ (v[i]'h).toNat ≤ 57 then digN v f (10 * n + ((v[i]'h).toNat - 48 : Int)) (i + 1) else none := by
  rw [digN, dif_pos h]
set_option maxRecDepth 100000 in
set_option maxHeartbeats 4000000 in
theorem tnum_any (w : World) (tb : Nat) (s : ByteArray) (k : Nat) (h : TxtR w tb s k) :
    Calls Tryd.prog 44 #[.pointer (some ⟨tb, 0, none⟩)] w (TNumAns w tb s (wordEnd s (wordAt s k)) (numV (wordV s k))) := by
  have H := hideP h
  clear h
  generalize hP : TNumAns w tb s (wordEnd s (wordAt s k)) (numV (wordV s k)) = P
  have HPn := hideP (show ∀ w', numV (wordV s k) = none → Upd (fun b => b = tb) w w' → P (.panicked brokenP) w' from fun w' h1 h2 => by rw [← hP, h1]; exact ⟨rfl, h2⟩)
  have HPs := hideP (show ∀ n w', numV (wordV s k) = some n → TxtR w' tb s (wordEnd s (wordAt s k)) → Upd (fun b => b = tb) w w' → P (.returned (.int .i64 n)) w' from fun n w' h1 h2 h3 => by rw [← hP, h1]; exact ⟨rfl, h2, h3⟩)
  clear hP
  obtain ⟨v, hv⟩ : ∃ v, wordV s k = v := ⟨_, rfl⟩
  rw [hv] at HPn HPs
  have HV := hideP (show s.extract (wordAt s k) (wordEnd s (wordAt s k)) = v from hv)
  clear hv
  go_enter Tryd.func44, Tryd.ntmps44
  go_upto_region 2 with (go_at_call 43; refine (tword_any w tb s k H.out).mono ?_; rw [HV.out]; rintro e w2 ⟨rfl, hT2, hU2⟩)
  have HT2 := hideP hT2
  have HU2 := hideP hU2
  clear hT2 hU2
  by_cases h0 : v.size = 0
  · have g1 : ¬ (1 : Int) ≤ (v.size : Int) := by omega
    have hN := hideP (show numV v = none from by unfold numV; rw [if_neg (by omega)])
    go_wp2_with (go_at_call 31; refine (need_not _ _ (by first | rfl | exact decide_eq_false (by omega))).mono ?_; rintro e w7 ⟨rfl, hw7⟩; subst hw7)
    exact ⟨rfl, HPn.out _ hN.out HU2.out⟩
  have g1 : (1 : Int) ≤ (v.size : Int) := by omega
  by_cases h9 : 9 < v.size
  · have g2 : ¬ (v.size : Int) ≤ 9 := by omega
    have hN := hideP (show numV v = none from by unfold numV; rw [if_neg (by omega)])
    go_wp2_with (go_at_call 31; refine (need_not _ _ (by first | rfl | exact decide_eq_false (by omega))).mono ?_; rintro e w7 ⟨rfl, hw7⟩; subst hw7)
    exact ⟨rfl, HPn.out _ hN.out HU2.out⟩
  have g2 : (v.size : Int) ≤ 9 := by omega
  by_cases h1 : v.size = 1
  · have g3 : (v.size : Int) = 1 := by omega
    have HCO := hideP (show numV v = digN v v.size 0 0 from by unfold numV; rw [if_pos ⟨by omega, by omega, .inl h1⟩])
    go_upto_region 3 with (go_at_call 31; refine (need_is _ _ (by first | rfl | exact decide_eq_true (by omega))).mono ?_; rintro e w7 ⟨rfl, hw7⟩; subst hw7)
    go_wp2_with fail
    go_loopg [4, 29] v.size (fun gk v4 v29 wr => ∃ (i : Nat) (n : Int), i + gk = v.size ∧ v29 = .int .i64 (i : Int) ∧ v4 = .int .i64 n ∧ 0 ≤ n ∧ n < 10 ^ i ∧ digN v gk n i = digN v v.size 0 0 ∧ TxtR wr tb s (wordEnd s (wordAt s k)) ∧ Upd (fun b => b = tb) w wr)
    case atStart => exact ⟨0, 0, by omega, rfl, rfl, by omega, by decide, rfl, HT2.out, HU2.out⟩
    case round =>
      obtain ⟨i, n, hk, rfl, rfl, hn0, hn1, hD, hT, hU⟩ := hrel
      have HK := hideP hk
      have HD := hideP hD
      have HT := hideP hT
      have HU := hideP hU
      have hi9 : i ≤ 9 := by omega
      have hp9 : (10 : Int) ^ i ≤ 10 ^ 9 := by exact_mod_cast Nat.pow_le_pow_right (by decide : 0 < 10) hi9
      have hn9 : n < 1000000000 := by
        have e : (10 : Int) ^ 9 = 1000000000 := by decide
        omega
      have HN1 := hideP hn1
      clear hk hD hT hU hp9 hn1
      by_cases hlt : i < v.size
      · have g4 : (i : Int) < (v.size : Int) := by omega
        have hgk : gk = (gk - 1) + 1 := by have := HK.out; omega
        have hd := HD.out
        rw [hgk, digN_step hlt] at hd
        have HDD := hideP hd
        clear hd hgk
        have hcl := UInt8.toNat_lt (v[i]'hlt)
        generalize hcc : (v[i]'hlt).toNat = c at *
        by_cases hdg : 48 ≤ c ∧ c ≤ 57
        · have a1 : (48 : Int) ≤ (c : Int) := by omega
          have a2 : (c : Int) ≤ 57 := by omega
          have w1 : IntKind.i64.wrap (10 * n) = 10 * n := by rw [IntKind.wrap_i64]; omega
          have w2 : IntKind.u8.wrap ((c : Int) - 48) = (c : Int) - 48 := by rw [IntKind.wrap_u8]; omega
          have w3 : IntKind.i64.wrap ((c : Int) - 48) = (c : Int) - 48 := by rw [IntKind.wrap_i64]; omega
          have w4 : IntKind.i64.wrap (10 * n + ((c : Int) - 48)) = 10 * n + ((c : Int) - 48) := by rw [IntKind.wrap_i64]; omega
          have HDG := hideP hdg
          clear hdg
          go_wp2_with (go_at_call 31; refine (need_is _ _ (by first | rfl | exact decide_eq_true (by omega))).mono ?_; rintro e w7 ⟨rfl, hw7⟩; subst hw7)
          go_roundg (gk - 1)
          case measure => have := HK.out; omega
          case rel => exact ⟨i + 1, 10 * n + ((c : Int) - 48), by have := HK.out; omega, by go_num, rfl, by omega, by have h1 := HN1.out; rw [Int.pow_succ]; omega, by rw [← HDD.out, if_pos HDG.out], HT.out, HU.out⟩
        · have HNO := hideP (show numV v = none from by rw [HCO.out, ← HDD.out, if_neg hdg])
          by_cases hlo : 48 ≤ c
          · have a1 : (48 : Int) ≤ (c : Int) := by omega
            have a2 : ¬ (c : Int) ≤ 57 := by omega
            clear hdg
            go_wp2_with (go_at_call 31; refine (need_not _ _ (by first | rfl | exact decide_eq_false (by omega))).mono ?_; rintro e w7 ⟨rfl, hw7⟩; subst hw7)
            exact ⟨rfl, HPn.out _ HNO.out HU.out⟩
          · have a1 : ¬ (48 : Int) ≤ (c : Int) := by omega
            clear hdg
            go_wp2_with (go_at_call 31; refine (need_not _ _ (by first | rfl | exact decide_eq_false (by omega))).mono ?_; rintro e w7 ⟨rfl, hw7⟩; subst hw7)
            exact ⟨rfl, HPn.out _ HNO.out HU.out⟩
      · have hiv : i = v.size := by have := HK.out; omega
        have HSO := hideP (show numV v = some n from by rw [HCO.out, ← HD.out, show gk = 0 by have := HK.out; omega]; rfl)
        have g4 : ¬ (i : Int) < (v.size : Int) := by omega
        clear hiv hlt
        go_wp2_with fail
        exact HPs.out _ _ HSO.out HT.out HU.out
  have g3 : ¬ (v.size : Int) = 1 := by omega
  have hpos : 0 < v.size := by omega
  have g5 : (0 : Int) < (v.size : Int) := by omega
  have hb0 : byte0 v = (v[0]'hpos).toNat := by unfold byte0; rw [dif_pos hpos]
  by_cases h48 : (v[0]'hpos).toNat = 48
  · have g6 : ((v[0]'hpos).toNat : Int) = 48 := by omega
    have hN := hideP (show numV v = none from by unfold numV; rw [if_neg (by rw [hb0]; omega)])
    go_wp2_with (go_at_call 31; refine (need_not _ _ (by first | rfl | exact decide_eq_false (by omega))).mono ?_; rintro e w7 ⟨rfl, hw7⟩; subst hw7)
    exact ⟨rfl, HPn.out _ hN.out HU2.out⟩
  · have g6 : ¬ ((v[0]'hpos).toNat : Int) = 48 := by omega
    have hbne : (((v[0]'hpos).toNat : Int) != 48) = true := by simp; omega
    have hbno : (!(((v[0]'hpos).toNat : Int) == 48)) = true := by simp; omega
    have HBN := hideP hbne
    have HBO := hideP hbno
    clear hbne hbno
    have HCO := hideP (show numV v = digN v v.size 0 0 from by unfold numV; rw [if_pos ⟨by omega, by omega, .inr (by rw [hb0]; exact h48)⟩])
    go_upto_region 3 with (go_at_call 31; refine (need_is _ _ (by first | rfl | exact HBN.out | exact HBO.out | (simp; omega) | exact decide_eq_true (by omega))).mono ?_; rintro e w7 ⟨rfl, hw7⟩; subst hw7)
    go_wp2_with fail
    go_loopg [4, 29] v.size (fun gk v4 v29 wr => ∃ (i : Nat) (n : Int), i + gk = v.size ∧ v29 = .int .i64 (i : Int) ∧ v4 = .int .i64 n ∧ 0 ≤ n ∧ n < 10 ^ i ∧ digN v gk n i = digN v v.size 0 0 ∧ TxtR wr tb s (wordEnd s (wordAt s k)) ∧ Upd (fun b => b = tb) w wr)
    case atStart => exact ⟨0, 0, by omega, rfl, rfl, by omega, by decide, rfl, HT2.out, HU2.out⟩
    case round =>
      obtain ⟨i, n, hk, rfl, rfl, hn0, hn1, hD, hT, hU⟩ := hrel
      have HK := hideP hk
      have HD := hideP hD
      have HT := hideP hT
      have HU := hideP hU
      have hi9 : i ≤ 9 := by omega
      have hp9 : (10 : Int) ^ i ≤ 10 ^ 9 := by exact_mod_cast Nat.pow_le_pow_right (by decide : 0 < 10) hi9
      have hn9 : n < 1000000000 := by
        have e : (10 : Int) ^ 9 = 1000000000 := by decide
        omega
      have HN1 := hideP hn1
      clear hk hD hT hU hp9 hn1
      by_cases hlt : i < v.size
      · have g4 : (i : Int) < (v.size : Int) := by omega
        have hgk : gk = (gk - 1) + 1 := by have := HK.out; omega
        have hd := HD.out
        rw [hgk, digN_step hlt] at hd
        have HDD := hideP hd
        clear hd hgk
        have hcl := UInt8.toNat_lt (v[i]'hlt)
        generalize hcc : (v[i]'hlt).toNat = c at *
        by_cases hdg : 48 ≤ c ∧ c ≤ 57
        · have a1 : (48 : Int) ≤ (c : Int) := by omega
          have a2 : (c : Int) ≤ 57 := by omega
          have w1 : IntKind.i64.wrap (10 * n) = 10 * n := by rw [IntKind.wrap_i64]; omega
          have w2 : IntKind.u8.wrap ((c : Int) - 48) = (c : Int) - 48 := by rw [IntKind.wrap_u8]; omega
          have w3 : IntKind.i64.wrap ((c : Int) - 48) = (c : Int) - 48 := by rw [IntKind.wrap_i64]; omega
          have w4 : IntKind.i64.wrap (10 * n + ((c : Int) - 48)) = 10 * n + ((c : Int) - 48) := by rw [IntKind.wrap_i64]; omega
          have HDG := hideP hdg
          clear hdg
          go_wp2_with (go_at_call 31; refine (need_is _ _ (by first | rfl | exact decide_eq_true (by omega))).mono ?_; rintro e w7 ⟨rfl, hw7⟩; subst hw7)
          go_roundg (gk - 1)
          case measure => have := HK.out; omega
          case rel => exact ⟨i + 1, 10 * n + ((c : Int) - 48), by have := HK.out; omega, by go_num, rfl, by omega, by have h1 := HN1.out; rw [Int.pow_succ]; omega, by rw [← HDD.out, if_pos HDG.out], HT.out, HU.out⟩
        · have HNO := hideP (show numV v = none from by rw [HCO.out, ← HDD.out, if_neg hdg])
          by_cases hlo : 48 ≤ c
          · have a1 : (48 : Int) ≤ (c : Int) := by omega
            have a2 : ¬ (c : Int) ≤ 57 := by omega
            clear hdg
            go_wp2_with (go_at_call 31; refine (need_not _ _ (by first | rfl | exact decide_eq_false (by omega))).mono ?_; rintro e w7 ⟨rfl, hw7⟩; subst hw7)
            exact ⟨rfl, HPn.out _ HNO.out HU.out⟩
          · have a1 : ¬ (48 : Int) ≤ (c : Int) := by omega
            clear hdg
            go_wp2_with (go_at_call 31; refine (need_not _ _ (by first | rfl | exact decide_eq_false (by omega))).mono ?_; rintro e w7 ⟨rfl, hw7⟩; subst hw7)
            exact ⟨rfl, HPn.out _ HNO.out HU.out⟩
      · have hiv : i = v.size := by have := HK.out; omega
        have HSO := hideP (show numV v = some n from by rw [HCO.out, ← HD.out, show gk = 0 by have := HK.out; omega]; rfl)
        have g4 : ¬ (i : Int) < (v.size : Int) := by omega
        clear hiv hlt
        go_wp2_with fail
        exact HPs.out _ _ HSO.out HT.out HU.out
end Go.Proofs.YtdbdokjlcdogiaaDoor
