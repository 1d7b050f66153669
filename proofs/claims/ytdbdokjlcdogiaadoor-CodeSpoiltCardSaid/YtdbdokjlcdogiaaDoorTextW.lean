/-
  Steps on a text that a call builds: bytes behind it, as lists.
-/
import Derived.Test.YtdbdokjlcdogiaaDoorDec
namespace Go.Proofs.YtdbdokjlcdogiaaDoor
open Go.RowKit Go.Lib
set_option linter.unusedVariables false

/-- the slice holds the text T, a row of the call's own -/
def TextR (w : World) (base : Nat) (A : Option Addr) (c : Nat) (T : List UInt8) : Prop := OwnT w base 5 (.slice A T.length c) T.length (byteCells T)
/-- the text with l behind it -/
def PutL (w : World) (base : Nat) (A : Option Addr) (c : Nat) (T l : List UInt8) (e : Ending) (w' : World) : Prop :=
  ∃ A' c' T', Hid (T ++ l = T') ∧ e = .returned (.slice A' T'.length c') ∧ TextR w' base A' c' T' ∧ Upd (fun b => (Value.slice A T.length c).ownBlock = some b) w w'
theorem PutL.of {w : World} {base : Nat} {A : Option Addr} {c : Nat} {T l : List UInt8} {e : Ending} {w' : World} (h : PutT w base A T.length c (byteCells T) l e w') : PutL w base A c T l e w' := by
  obtain ⟨A', c', rfl, h2, h3, -⟩ := h
  have hl : T.length + l.length = (T ++ l).length := by simp
  rw [hl, ← byteCells_append] at h2
  rw [hl]
  exact ⟨A', c', _, hideP rfl, rfl, h2, h3⟩
theorem decimal_text (w : World) (base : Nat) (A : Option Addr) (c : Nat) (T : List UInt8) (n : Nat) (ho : TextR w base A c T) (hb : base ≤ w.heap.size) (hn : n < 10000000) (hm : T.length ≤ 100000000) :
    Calls Tryd.prog 48 #[.slice A T.length c, .int .i64 (n : Int)] w (PutL w base A c T (decDigits n)) :=
  (decimal_any n n (Nat.le_refl _) w base A T.length c (byteCells T) ho hb hn hm).mono fun _ _ h => PutL.of h
section
variable {w : World}
theorem text_append {ops : Array Oper} {rest : List Oper} {o : Oper} {a : Act} {Q : Exit → Act → World → Prop} (hgd : o.guard = none) (sl x : Operand)
    (ho : o.op = .call { callee := .builtin .append, args := #[sl, x], argTypes := #[30, 9] })
    (base : Nat) (A : Option Addr) (c : Nat) (T l : List UInt8) (hs : a.eval sl = .slice A T.length c) (hown : TextR w base A c T) (s : ByteArray) (hx : a.eval x = .string s) (hsl : s.data.toList = l)
    (hlim : T.length + l.length ≤ 1000000000) (hbase : base ≤ w.heap.size)
    (h : ∀ A' c' w' T', Hid (T ++ l = T') → TextR w' base A' c' T' → Upd (fun b => (Value.slice A T.length c).ownBlock = some b) w w' → wpList Tryd.prog ops Q rest (a.put o.dst (.slice A' T'.length c')) w') : wpList Tryd.prog ops Q (o :: rest) a w := by
  obtain ⟨i0, hi0, hz0, hz1, hz2⟩ := info_parts cinfo_u8
  have hss : s.size = l.length := by rw [← hsl, Array.length_toList]; rfl
  refine wpList_append_string_T hgd sl x _ _ ho base 5 i0 Tryd.underlying30 Tryd.underlying9 hi0 hz0 hz1 hz2 _ _ _ hs hown s hx (by unfold maxLen; omega) (by omega) hbase ?_
  intro A' c' w' o8 g8 _
  have hl : T.length + s.size = (T ++ l).length := by simp [hss]
  have hc : byteCells T ++ strCells s = byteCells (T ++ l) := by rw [byteCells_append, strCells_eq, hsl]
  rw [hl, hc] at o8
  rw [hl]
  exact h A' c' w' _ (hideP rfl) o8 ((Upd.refl _ w).grown g8 (fun b hb _ => hb))
theorem text_byte {ops : Array Oper} {rest : List Oper} {o : Oper} {a : Act} {Q : Exit → Act → World → Prop} (hgd : o.guard = none) (sl x : Operand)
    (ho : o.op = .call { callee := .builtin .append, args := #[sl, x], argTypes := #[30, 30] })
    (base : Nat) (A : Option Addr) (c : Nat) (T : List UInt8) (hs : a.eval sl = .slice A T.length c) (w0 : World) (v : Int) (hw : w = w0.alloc (.cells #[.int .u8 v] 5)) (hown : TextR w0 base A c T) (u : UInt8) (huv : (u.toNat : Int) = v) (hx : a.eval x = .slice (some ⟨w0.heap.size, 0, none⟩) 1 1)
    (hlim : T.length ≤ 1000000000) (hbase : base ≤ w0.heap.size)
    (h : ∀ A' c' w' T', Hid (T ++ [u] = T') → TextR w' base A' c' T' → Upd (fun b => (Value.slice A T.length c).ownBlock = some b) w0 w' → wpList Tryd.prog ops Q rest (a.put o.dst (.slice A' T'.length c')) w') : wpList Tryd.prog ops Q (o :: rest) a w := by
  subst hw
  obtain ⟨i0, hi0, hz0, hz1, hz2⟩ := info_parts cinfo_u8
  refine wpList_append_T hgd sl x _ ho base 5 i0 (.int .u8 0) Tryd.underlying30 hi0 hz0 hz1 hz2 rfl _ _ _ hs (OwnT.alloc hown _) ⟨w0.heap.size, 0, none⟩ 1 1 [.int .u8 v] hx rfl (World.news_of_block (cs := #[.int .u8 v]) (t := 5) (fr := (0, 0)) (heap_alloc_new _ _)) (fun u hu => by simp at hu; subst hu; rfl) (by unfold maxLen; omega) (by omega) (by simp; omega) ?_
  intro A' c' w' o8 g8 _
  have hl : T.length + 1 = (T ++ [u]).length := by simp
  have hc : byteCells T ++ [.int .u8 v] = byteCells (T ++ [u]) := by rw [byteCells_append, ← huv]; rfl
  rw [hl, hc] at o8
  rw [hl]
  exact h A' c' w' _ (hideP rfl) o8 (((Upd.refl _ w0).alloc _).grown g8 (fun b hb _ => hb))
theorem text_string {base : Nat} {A : Option Addr} {c : Nat} {T : List UInt8} (h : TextR w base A c T) (hne : T ≠ []) : (convert 30 9 (.slice A T.length c)).run Tryd.prog w = .ok (.string ⟨T.toArray⟩) w := by
  rcases h.2 with ⟨_, h0⟩ | ⟨g, cap, cur, fz, hv, -⟩
  · exact absurd (List.eq_nil_of_length_eq_zero h0) hne
  · obtain ⟨rfl, _, rfl⟩ : A = some ⟨g, 0, none⟩ ∧ T.length = T.length ∧ c = cap := by injection hv with a b c; exact ⟨a, b, c⟩
    refine run_convert_bytes_back w _ _ 5 ⟨g, 0, none⟩ c T Tryd.underlying30 Tryd.underlying5 Tryd.underlying9 (fun j hj => ?_)
    exact OwnT.cells h rfl j _ (by simp [byteCells, hj])
end
theorem TextR.upd {F : Nat → Prop} {w w' : World} {base : Nat} {A : Option Addr} {c : Nat} {T : List UInt8} (h : TextR w base A c T) (hU : Upd F w w') (hF : ∀ k, base ≤ k → ¬ F k) : TextR w' base A c T := OwnT.upd h hU (fun k hk => hF k (OwnT.lo h hk))
theorem TextR.step {w2 w w' : World} {A : Option Addr} {c : Nat} {T : List UInt8} (h : TextR w w2.heap.size A c T) (hU : Upd Nob w2 w) (u : Upd (fun b => (Value.slice A T.length c).ownBlock = some b) w w') : Upd Nob w2 w' := hU.trans u (fun k hk hk2 => by have := OwnT.lo h hk2; exact absurd hk (by omega))
theorem TextR.nil_ (w : World) (base : Nat) : TextR w base none 0 [] := OwnT.nil_ w base _
theorem cat_len {T l T' : List UInt8} (h : Hid (T ++ l = T')) : T'.length ≤ T.length + l.length := by rw [← h.out, List.length_append]; exact Nat.le_refl _
theorem cat_ne {T l T' : List UInt8} (h : Hid (T ++ l = T')) (hl : T ≠ []) : T' ≠ [] := by
  rw [← h.out]
  intro h2
  exact hl (List.append_eq_nil_iff.1 h2).1
/-- the answer of Print -/
def TextAns (w : World) (R : List UInt8 × Int) (e : Ending) (w' : World) : Prop := e = .returned (.tuple #[.string ⟨R.1.toArray⟩, .int .i64 R.2]) ∧ Upd Nob w w'
theorem wordS_list (op : Int) : (wordS op).data.toList = wordT op := rfl
end Go.Proofs.YtdbdokjlcdogiaaDoor
