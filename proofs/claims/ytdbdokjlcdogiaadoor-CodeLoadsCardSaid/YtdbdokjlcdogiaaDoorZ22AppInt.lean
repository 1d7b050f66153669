/-
  TextW, Shelf, AppInt, put together.
-/
import Derived.Test.YtdbdokjlcdogiaaDoorZ21Dec
import Derived.Shelf.Strconv.Itoa1
import Derived.Shelf.LaysM
import Derived.Shelf.Strconv.Itoa2
import Derived.Shelf.Strconv.Itoa3
import Derived.Test.YtdbdokjlcdogiaaDoorProg
import Derived.Lib.AppendIntMem
import Derived.Lib.ItoaMem
import Derived.Lib.Walk
import Derived.Lib.Slices
import Derived.BigCall
import Derived.BigGuard

/-
  Steps on a text that a call builds: bytes behind it, as lists.
-/
namespace Go.Proofs.YtdbdokjlcdogiaaDoor
open Go.RowKit Go.Lib
set_option linter.unusedVariables false

/-- the slice holds the text T, a row of the call's own -/
def TextR (w : World) (base : Nat) (A : Option Addr) (c : Nat) (T : List UInt8) : Prop := OwnT w base 5 (.slice A T.length c) T.length (byteCells T)
/-- the text with l behind it -/
def PutL (w : World) (base : Nat) (A : Option Addr) (c : Nat) (T l : List UInt8) (e : Ending) (w' : World) : Prop :=
  ∃ A' c' T', Hid (T ++ l = T') ∧ e = .returned (.slice A' T'.length c') ∧ TextR w' base A' c' T' ∧ Upd (fun b => (Value.slice A T.length c).ownBlock = some b) w w'
theorem PutL.of {w : World} {base : Nat} {A : Option Addr} {c : Nat} {T l : List UInt8} {e : Ending} {w' : World} (h : PutT w base A T.length c (byteCells T) l e w') : PutL w base A c T l e w' := by
  obtain ⟨A', c', rfl, h2, h3, -⟩ := h
  have hl : T.length + l.length = (T ++ l).length := by simp
  rw [hl, ← byteCells_append] at h2
  rw [hl]
  exact ⟨A', c', _, hideP rfl, rfl, h2, h3⟩
theorem decimal_text (w : World) (base : Nat) (A : Option Addr) (c : Nat) (T : List UInt8) (n : Nat) (ho : TextR w base A c T) (hb : base ≤ w.heap.size) (hn : n < 10000000) (hm : T.length ≤ 100000000) :
    Calls Tryd.prog 48 #[.slice A T.length c, .int .i64 (n : Int)] w (PutL w base A c T (decDigits n)) :=
  (decimal_any n n (Nat.le_refl _) w base A T.length c (byteCells T) ho hb hn hm).mono fun _ _ h => PutL.of h
section
variable {w : World}
theorem text_append {ops : Array Oper} {rest : List Oper} {o : Oper} {a : Act} {Q : Exit → Act → World → Prop} (hgd : o.guard = none) (sl x : Operand)
    (ho : o.op = .call { callee := .builtin .append, args := #[sl, x], argTypes := #[30, 9] })
    (base : Nat) (A : Option Addr) (c : Nat) (T l : List UInt8) (hs : a.eval sl = .slice A T.length c) (hown : TextR w base A c T) (s : ByteArray) (hx : a.eval x = .string s) (hsl : s.data.toList = l)
    (hlim : T.length + l.length ≤ 1000000000) (hbase : base ≤ w.heap.size)
    (h : ∀ A' c' w' T', Hid (T ++ l = T') → TextR w' base A' c' T' → Upd (fun b => (Value.slice A T.length c).ownBlock = some b) w w' → wpList Tryd.prog ops Q rest (a.put o.dst (.slice A' T'.length c')) w') : wpList Tryd.prog ops Q (o :: rest) a w := by
  obtain ⟨i0, hi0, hz0, hz1, hz2⟩ := info_parts cinfo_u8
  have hss : s.size = l.length := by rw [← hsl, Array.length_toList]; rfl
  refine wpList_append_string_T hgd sl x _ _ ho base 5 i0 Tryd.underlying30 Tryd.underlying9 hi0 hz0 hz1 hz2 _ _ _ hs hown s hx (by unfold maxLen; omega) (by omega) hbase ?_
  intro A' c' w' o8 g8 _
  have hl : T.length + s.size = (T ++ l).length := by simp [hss]
  have hc : byteCells T ++ strCells s = byteCells (T ++ l) := by rw [byteCells_append, strCells_eq, hsl]
  rw [hl, hc] at o8
  rw [hl]
  exact h A' c' w' _ (hideP rfl) o8 ((Upd.refl _ w).grown g8 (fun b hb _ => hb))
theorem text_byte {ops : Array Oper} {rest : List Oper} {o : Oper} {a : Act} {Q : Exit → Act → World → Prop} (hgd : o.guard = none) (sl x : Operand)
    (ho : o.op = .call { callee := .builtin .append, args := #[sl, x], argTypes := #[30, 30] })
    (base : Nat) (A : Option Addr) (c : Nat) (T : List UInt8) (hs : a.eval sl = .slice A T.length c) (w0 : World) (v : Int) (hw : w = w0.alloc (.cells #[.int .u8 v] 5)) (hown : TextR w0 base A c T) (u : UInt8) (huv : (u.toNat : Int) = v) (hx : a.eval x = .slice (some ⟨w0.heap.size, 0, none⟩) 1 1)
    (hlim : T.length ≤ 1000000000) (hbase : base ≤ w0.heap.size)
    (h : ∀ A' c' w' T', Hid (T ++ [u] = T') → TextR w' base A' c' T' → Upd (fun b => (Value.slice A T.length c).ownBlock = some b) w0 w' → wpList Tryd.prog ops Q rest (a.put o.dst (.slice A' T'.length c')) w') : wpList Tryd.prog ops Q (o :: rest) a w := by
  subst hw
  obtain ⟨i0, hi0, hz0, hz1, hz2⟩ := info_parts cinfo_u8
  refine wpList_append_T hgd sl x _ ho base 5 i0 (.int .u8 0) Tryd.underlying30 hi0 hz0 hz1 hz2 rfl _ _ _ hs (OwnT.alloc hown _) ⟨w0.heap.size, 0, none⟩ 1 1 [.int .u8 v] hx rfl (World.news_of_block (cs := #[.int .u8 v]) (t := 5) (fr := (0, 0)) (heap_alloc_new _ _)) (fun u hu => by simp at hu; subst hu; rfl) (by unfold maxLen; omega) (by omega) (by simp; omega) ?_
  intro A' c' w' o8 g8 _
  have hl : T.length + 1 = (T ++ [u]).length := by simp
  have hc : byteCells T ++ [.int .u8 v] = byteCells (T ++ [u]) := by rw [byteCells_append, ← huv]; rfl
  rw [hl, hc] at o8
  rw [hl]
  exact h A' c' w' _ (hideP rfl) o8 (((Upd.refl _ w0).alloc _).grown g8 (fun b hb _ => hb))
theorem text_string {base : Nat} {A : Option Addr} {c : Nat} {T : List UInt8} (h : TextR w base A c T) (hne : T ≠ []) : (convert 30 9 (.slice A T.length c)).run Tryd.prog w = .ok (.string ⟨T.toArray⟩) w := by
  rcases h.2 with ⟨_, h0⟩ | ⟨g, cap, cur, fz, hv, -⟩
  · exact absurd (List.eq_nil_of_length_eq_zero h0) hne
  · obtain ⟨rfl, _, rfl⟩ : A = some ⟨g, 0, none⟩ ∧ T.length = T.length ∧ c = cap := by injection hv with a b c; exact ⟨a, b, c⟩
    refine run_convert_bytes_back w _ _ 5 ⟨g, 0, none⟩ c T Tryd.underlying30 Tryd.underlying5 Tryd.underlying9 (fun j hj => ?_)
    exact OwnT.cells h rfl j _ (by simp [byteCells, hj])
end
theorem TextR.upd {F : Nat → Prop} {w w' : World} {base : Nat} {A : Option Addr} {c : Nat} {T : List UInt8} (h : TextR w base A c T) (hU : Upd F w w') (hF : ∀ k, base ≤ k → ¬ F k) : TextR w' base A c T := OwnT.upd h hU (fun k hk => hF k (OwnT.lo h hk))
theorem TextR.step {w2 w w' : World} {A : Option Addr} {c : Nat} {T : List UInt8} (h : TextR w w2.heap.size A c T) (hU : Upd Nob w2 w) (u : Upd (fun b => (Value.slice A T.length c).ownBlock = some b) w w') : Upd Nob w2 w' := hU.trans u (fun k hk hk2 => by have := OwnT.lo h hk2; exact absurd hk (by omega))
theorem TextR.nil_ (w : World) (base : Nat) : TextR w base none 0 [] := OwnT.nil_ w base _
theorem cat_len {T l T' : List UInt8} (h : Hid (T ++ l = T')) : T'.length ≤ T.length + l.length := by rw [← h.out, List.length_append]; exact Nat.le_refl _
theorem cat_ne {T l T' : List UInt8} (h : Hid (T ++ l = T')) (hl : T ≠ []) : T' ≠ [] := by
  rw [← h.out]
  intro h2
  exact hl (List.append_eq_nil_iff.1 h2).1
/-- the answer of Print -/
def TextAns (w : World) (R : List UInt8 × Int) (e : Ending) (w' : World) : Prop := e = .returned (.tuple #[.string ⟨R.1.toArray⟩, .int .i64 R.2]) ∧ Upd Nob w w'
theorem wordS_list (op : Int) : (wordS op).data.toList = wordT op := rfl
end Go.Proofs.YtdbdokjlcdogiaaDoor

/-
  Contracts of Go's library that the shelf has proved over any program, laid at this seat's program: internal/strconv.small, numDigits, formatBase10, strconv.Itoa. Written by the kit's lay-shelf.mjs and lay-plain.mjs; gen_shelf.py took the four out.
-/
namespace Go.Proofs.YtdbdokjlcdogiaaDoor
open Go.Proofs Go.Shelf
def sh_lays283_ren : Go.Shelf.Ren := ⟨fun | 283 => 68 | n => n, fun | 3 => 3 | 9 => 9 | 4 => 4 | n => n, fun | n => n⟩
theorem sh_lays283 : Go.Proofs.Lays.n283 Tryd.prog sh_lays283_ren := {
  mixed := by kernel_rfl
  f283 := Tryd.func68.trans (congrArg some (by kernel_rfl))
  t3 := Tryd.underlying3
  a3 := Tryd.isAgg3
  z3 := Tryd.sizeOf3
  v3 := Tryd.zeroValue3
  t4 := Tryd.underlying4
  a4 := Tryd.isAgg4
  z4 := Tryd.sizeOf4
  v4 := Tryd.zeroValue4
  t9 := Tryd.underlying9
  a9 := Tryd.isAgg9
  z9 := Tryd.sizeOf9
  v9 := Tryd.zeroValue9 }
open Go.Lib in
theorem sh_internal_strconv_small (i : Nat) (h : i < 100) (w : World) :
    Calls Tryd.prog 68 #[.int .i64 i] w fun e w' => e = .returned (.string ⟨(Lib.decDigits i).toArray⟩) ∧ w' = w := Any.internal_strconv_small sh_lays283 i h w
def sh_laysM284_ren : Go.Shelf.Ren := ⟨fun | 284 => 69 | 129 => 73 | 317 => 72 | 318 => 74 | n => n, fun | 53 => 94 | 3 => 3 | 212 => 101 | 0 => 0 | 4 => 4 | 46 => 62 | 5 => 5 | 9 => 9 | n => n, fun | 17 => 1 | n => n⟩
theorem sh_laysM284 : Go.Proofs.LaysM.n284 Tryd.prog sh_laysM284_ren := {
  mixed := by kernel_rfl
  f129 := Tryd.func73.trans (congrArg some (by kernel_rfl))
  f284 := Tryd.func69.trans (congrArg some (by kernel_rfl))
  f317 := Tryd.func72.trans (congrArg some (by kernel_rfl))
  f318 := Tryd.func74.trans (congrArg some (by kernel_rfl))
  t0 := Tryd.underlying0
  a0 := Tryd.isAgg0
  z0 := Tryd.sizeOf0
  v0 := Tryd.zeroValue0
  t3 := Tryd.underlying3
  a3 := Tryd.isAgg3
  z3 := Tryd.sizeOf3
  v3 := Tryd.zeroValue3
  t4 := Tryd.underlying4
  a4 := Tryd.isAgg4
  z4 := Tryd.sizeOf4
  v4 := Tryd.zeroValue4
  t5 := Tryd.underlying5
  a5 := Tryd.isAgg5
  z5 := Tryd.sizeOf5
  v5 := Tryd.zeroValue5
  t9 := Tryd.underlying9
  a9 := Tryd.isAgg9
  z9 := Tryd.sizeOf9
  v9 := Tryd.zeroValue9
  t46 := Tryd.underlying62
  a46 := Tryd.isAgg62
  z46 := Tryd.sizeOf62
  v46 := Tryd.zeroValue62
  t53 := Tryd.underlying94
  a53 := Tryd.isAgg94
  z53 := Tryd.sizeOf94
  v53 := Tryd.zeroValue94
  t212 := Tryd.underlying101
  a212 := Tryd.isAgg101
  z212 := Tryd.sizeOf101
  v212 := Tryd.zeroValue101
  g17 := by kernel_rfl
  i0 := by kernel_rfl
  i3 := by kernel_rfl
  i4 := by kernel_rfl
  i5 := by kernel_rfl
  i9 := by kernel_rfl
  i46 := by kernel_rfl
  i53 := by kernel_rfl
  i212 := by kernel_rfl
  m17 := by kernel_rfl }
open Go.Lib in
theorem sh_internal_strconv_numDigits (u : Nat) (h1 : 1 ≤ u) (h2 : u < 18446744073709551616) (w : World) (htab : Lib.TabIs Tryd.prog w "internal/strconv.uint64pow10" .u64 Lib.pow10Tab) :
    Calls Tryd.prog 69 #[.int .u64 u] w fun e w' => e = .returned (.int .i64 (Lib.nDigits u)) ∧ w' = w := Any.internal_strconv_numDigits sh_laysM284 u h1 h2 w htab
def sh_lays285_ren : Go.Shelf.Ren := ⟨fun | 285 => 70 | n => n, fun | 37 => 30 | 53 => 94 | 3 => 3 | 4 => 4 | 51 => 51 | 9 => 9 | 5 => 5 | 0 => 0 | n => n, fun | n => n⟩
theorem sh_lays285 : Go.Proofs.Lays.n285 Tryd.prog sh_lays285_ren := {
  mixed := by kernel_rfl
  f285 := Tryd.func70.trans (congrArg some (by kernel_rfl))
  t0 := Tryd.underlying0
  a0 := Tryd.isAgg0
  z0 := Tryd.sizeOf0
  v0 := Tryd.zeroValue0
  t3 := Tryd.underlying3
  a3 := Tryd.isAgg3
  z3 := Tryd.sizeOf3
  v3 := Tryd.zeroValue3
  t4 := Tryd.underlying4
  a4 := Tryd.isAgg4
  z4 := Tryd.sizeOf4
  v4 := Tryd.zeroValue4
  t5 := Tryd.underlying5
  a5 := Tryd.isAgg5
  z5 := Tryd.sizeOf5
  v5 := Tryd.zeroValue5
  t9 := Tryd.underlying9
  a9 := Tryd.isAgg9
  z9 := Tryd.sizeOf9
  v9 := Tryd.zeroValue9
  t37 := Tryd.underlying30
  a37 := Tryd.isAgg30
  z37 := Tryd.sizeOf30
  v37 := Tryd.zeroValue30
  t51 := Tryd.underlying51
  a51 := Tryd.isAgg51
  z51 := Tryd.sizeOf51
  v51 := Tryd.zeroValue51
  t53 := Tryd.underlying94
  a53 := Tryd.isAgg94
  z53 := Tryd.sizeOf94
  v53 := Tryd.zeroValue94 }
open Go.RowKit Go.Sort Go.Lib in
theorem sh_internal_strconv_formatBase10 (blk off cap : Nat) (u : Nat) (d : Array UInt8) (w : World) (hH : Holds (fun (b : UInt8) => Value.int .u8 (b.toNat : Int)) w blk off d) (hu : u < 10 ^ d.size) (hu64 : u < 18446744073709551616) (hsz : d.size < 4611686018427387904) :
    Calls Tryd.prog 70 #[.slice (some ⟨blk, off, none⟩) d.size cap, .int .u64 u] w fun e w' =>
      e = .returned (.tuple #[]) ∧ ∃ (n v' : Nat) (dk : Array UInt8), w' = (putRow (fun (b : UInt8) => Value.int .u8 (b.toNat : Int)) w blk off dk).drewN n ∧ FmtInv d.size u 0 v' dk := Any.internal_strconv_formatBase10 sh_lays285 blk off cap u d w hH hu hu64 hsz
def sh_laysM171_ren : Go.Shelf.Ren := ⟨fun | 171 => 46 | 243 => 59 | 246 => 64 | 283 => 68 | 284 => 69 | 285 => 70 | 286 => 71 | 129 => 73 | 317 => 72 | 318 => 74 | 319 => 75 | 320 => 76 | 337 => 77 | 338 => 78 | n => n, fun | 3 => 3 | 9 => 9 | 2 => 2 | 4 => 4 | 171 => 96 | 0 => 0 | 53 => 94 | 37 => 30 | 5 => 5 | 173 => 99 | 212 => 101 | 51 => 51 | 20 => 20 | 213 => 102 | 46 => 62 | 232 => 105 | 233 => 106 | n => n, fun | 17 => 1 | 18 => 2 | 19 => 3 | n => n⟩
theorem sh_laysM171 : Go.Proofs.LaysM.n171 Tryd.prog sh_laysM171_ren := {
  mixed := by kernel_rfl
  f129 := Tryd.func73.trans (congrArg some (by kernel_rfl))
  f171 := Tryd.func46.trans (congrArg some (by kernel_rfl))
  f243 := Tryd.func59.trans (congrArg some (by kernel_rfl))
  f246 := Tryd.func64.trans (congrArg some (by kernel_rfl))
  f283 := Tryd.func68.trans (congrArg some (by kernel_rfl))
  f284 := Tryd.func69.trans (congrArg some (by kernel_rfl))
  f285 := Tryd.func70.trans (congrArg some (by kernel_rfl))
  f286 := Tryd.func71.trans (congrArg some (by kernel_rfl))
  f317 := Tryd.func72.trans (congrArg some (by kernel_rfl))
  f318 := Tryd.func74.trans (congrArg some (by kernel_rfl))
  f319 := Tryd.func75.trans (congrArg some (by kernel_rfl))
  f320 := Tryd.func76.trans (congrArg some (by kernel_rfl))
  f337 := Tryd.func77.trans (congrArg some (by kernel_rfl))
  f338 := Tryd.func78.trans (congrArg some (by kernel_rfl))
  t0 := Tryd.underlying0
  a0 := Tryd.isAgg0
  z0 := Tryd.sizeOf0
  v0 := Tryd.zeroValue0
  t2 := Tryd.underlying2
  a2 := Tryd.isAgg2
  z2 := Tryd.sizeOf2
  v2 := Tryd.zeroValue2
  t3 := Tryd.underlying3
  a3 := Tryd.isAgg3
  z3 := Tryd.sizeOf3
  v3 := Tryd.zeroValue3
  t4 := Tryd.underlying4
  a4 := Tryd.isAgg4
  z4 := Tryd.sizeOf4
  v4 := Tryd.zeroValue4
  t5 := Tryd.underlying5
  a5 := Tryd.isAgg5
  z5 := Tryd.sizeOf5
  v5 := Tryd.zeroValue5
  t9 := Tryd.underlying9
  a9 := Tryd.isAgg9
  z9 := Tryd.sizeOf9
  v9 := Tryd.zeroValue9
  t20 := Tryd.underlying20
  a20 := Tryd.isAgg20
  z20 := Tryd.sizeOf20
  v20 := Tryd.zeroValue20
  t37 := Tryd.underlying30
  a37 := Tryd.isAgg30
  z37 := Tryd.sizeOf30
  v37 := Tryd.zeroValue30
  t46 := Tryd.underlying62
  a46 := Tryd.isAgg62
  z46 := Tryd.sizeOf62
  v46 := Tryd.zeroValue62
  t51 := Tryd.underlying51
  a51 := Tryd.isAgg51
  z51 := Tryd.sizeOf51
  v51 := Tryd.zeroValue51
  t53 := Tryd.underlying94
  a53 := Tryd.isAgg94
  z53 := Tryd.sizeOf94
  v53 := Tryd.zeroValue94
  t171 := Tryd.underlying96
  a171 := Tryd.isAgg96
  z171 := Tryd.sizeOf96
  v171 := Tryd.zeroValue96
  t173 := Tryd.underlying99
  a173 := Tryd.isAgg99
  z173 := Tryd.sizeOf99
  v173 := Tryd.zeroValue99
  t212 := Tryd.underlying101
  a212 := Tryd.isAgg101
  z212 := Tryd.sizeOf101
  v212 := Tryd.zeroValue101
  t213 := Tryd.underlying102
  a213 := Tryd.isAgg102
  z213 := Tryd.sizeOf102
  t232 := Tryd.underlying105
  a232 := Tryd.isAgg105
  z232 := Tryd.sizeOf105
  v232 := Tryd.zeroValue105
  t233 := Tryd.underlying106
  a233 := Tryd.isAgg106
  z233 := Tryd.sizeOf106
  v233 := Tryd.zeroValue106
  g17 := by kernel_rfl
  g18 := by kernel_rfl
  g19 := by kernel_rfl
  i0 := by kernel_rfl
  i2 := by kernel_rfl
  i3 := by kernel_rfl
  i4 := by kernel_rfl
  i5 := by kernel_rfl
  i9 := by kernel_rfl
  i20 := by kernel_rfl
  i37 := by kernel_rfl
  i46 := by kernel_rfl
  i51 := by kernel_rfl
  i53 := by kernel_rfl
  i171 := by kernel_rfl
  i173 := by kernel_rfl
  i212 := by kernel_rfl
  i232 := by kernel_rfl
  i233 := by kernel_rfl
  m17 := by kernel_rfl
  m18 := by kernel_rfl
  m19 := by kernel_rfl }
open Go.RowKit Go.Sort Go.Lib in
theorem sh_strconv_Itoa (n : Int) (h0 : -9223372036854775808 ≤ n) (h1 : n ≤ 9223372036854775807) (w : World) (htab : Lib.TabIs Tryd.prog w "internal/strconv.uint64pow10" .u64 Lib.pow10Tab) :
    Calls Tryd.prog 46 #[.int .i64 n] w fun e w' => e = .returned (.string ⟨(Lib.itoa n).toArray⟩) ∧ ∃ k os, w' = grow (w.drewN k) os := Any.strconv_Itoa sh_laysM171 n h0 h1 w htab
end Go.Proofs.YtdbdokjlcdogiaaDoor

/-
  The walk of strconv.AppendInt at base 10, at numbers that are not negative, behind a row whose block may bear a mark.
-/
namespace Go.Proofs.YtdbdokjlcdogiaaDoor
open Go.RowKit Go.Lib Go.Sort
set_option linter.unusedVariables false

/-- the library's table of powers reads as it is laid -/
def PowTab (w : World) : Prop := Lib.TabIs Tryd.prog w "internal/strconv.uint64pow10" .u64 Lib.pow10Tab

set_option maxRecDepth 100000 in
set_option maxHeartbeats 4000000 in
theorem appUint_small (w : World) (base : Nat) (A : Option Addr) (c : Nat) (T : List UInt8) (u : Nat) (ho : TextR w base A c T) (hb : base ≤ w.heap.size) (hu : u < 100) (hm : T.length ≤ 100000000) :
    Calls Tryd.prog 65 #[.slice A T.length c, .int .u64 (u : Int), .int .i64 10] w (PutL w base A c T (decDigits u)) := by
  have HO := hideP ho
  have hdl := dec_len (n := u) (by omega)
  clear ho
  generalize hP : PutL w base A c T (decDigits u) = P
  have HP := hideP (show ∀ A' c' T' w', Hid (T ++ decDigits u = T') → TextR w' base A' c' T' → Upd (fun b => (Value.slice A T.length c).ownBlock = some b) w w' → P (.returned (.slice A' T'.length c')) w' from fun A' c' T' w' h1 h2 h3 => by rw [← hP]; exact ⟨A', c', T', h1, rfl, h2, h3⟩)
  clear hP
  go_enter Tryd.func65, Tryd.ntmps65
  go_wp2_with (first
    | (go_at_call 68; refine (sh_internal_strconv_small u hu _).mono ?_; rintro e w' ⟨rfl, rfl⟩)
    | (at_builtin; refine text_append rfl _ _ rfl base _ _ T (decDigits u) rfl HO.out _ rfl rfl ?d1 hb ?_))
  case d1 => omega
  intro A8 c8 w8 T8 H8 o8 u8
  have HO8 := hideP o8
  have HU8 := hideP u8
  clear o8 u8
  go_wp2_with fail
  try go_ret
  exact HP.out _ _ _ _ H8 HO8.out HU8.out
set_option maxRecDepth 100000 in
set_option maxHeartbeats 12800000 in
theorem appUint_big (w : World) (base : Nat) (A : Option Addr) (c : Nat) (T : List UInt8) (u : Nat) (ho : TextR w base A c T) (hb : base ≤ w.heap.size) (hu : 100 ≤ u) (hul : u < 10000000) (hm : T.length ≤ 100000000) (htab : PowTab w) :
    Calls Tryd.prog 65 #[.slice A T.length c, .int .u64 (u : Int), .int .i64 10] w (PutL w base A c T (decDigits u)) := by
  have hdl := dec_len (n := u) (by omega)
  have hu1 : 1 ≤ u := by omega
  have hu64 : u < 18446744073709551616 := by omega
  have hnd20 : nDigits u ≤ 20 := by rw [← decDigits_length]; omega
  have hal : Tryd.prog.arrayLen 96 = 24 := by kernel_rfl
  have hel : Tryd.prog.elem 96 = 5 := by kernel_rfl
  have hsl : ∀ W, (Instr.sliceAt 96 (.pointer (some ⟨w.heap.size, 0, none⟩)) none (some (.int .i64 (nDigits u : Int))) none).run Tryd.prog W = .ok (.slice (some ⟨w.heap.size, 0, none⟩) (nDigits u) 24) W := fun W => by
    rw [run_sliceAt_array_h W 96 ⟨w.heap.size, 0, none⟩ (by kernel_rfl) .i64 (nDigits u : Int) (by omega) (by rw [hal]; omega)]
    go_simp
  have hH0 := Lib.holds_zero0 w 96 (nDigits u) (by omega)
  have hfmt := sh_internal_strconv_formatBase10 w.heap.size 0 24 u (Array.replicate (nDigits u) 0) (w.alloc (.cells Lib.zeros24 96)) hH0 (by rw [Array.size_replicate]; exact Lib.lt_pow_nDigits u) hu64 (by rw [Array.size_replicate]; omega)
  rw [Array.size_replicate] at hfmt
  have HH0 := Lib.hid hH0
  have HO := hideP ho
  have iu : (100 : Int) ≤ (u : Int) := by omega
  have HT := hideP htab
  clear hH0 hal hel ho htab
  generalize hP : PutL w base A c T (decDigits u) = P
  have HP := hideP (show ∀ A' c' T' w', Hid (T ++ decDigits u = T') → TextR w' base A' c' T' → Upd (fun b => (Value.slice A T.length c).ownBlock = some b) w w' → P (.returned (.slice A' T'.length c')) w' from fun A' c' T' w' h1 h2 h3 => by rw [← hP]; exact ⟨A', c', T', h1, rfl, h2, h3⟩)
  clear hP
  go_enter Tryd.func65, Tryd.ntmps65
  go_wp2_with (first
    | (go_at_call 69; refine (sh_internal_strconv_numDigits u hu1 hu64 _ (Lib.tabIs_alloc HT.out _)).mono ?_; rintro e w' ⟨rfl, rfl⟩)
    | (go_at_call 70; refine hfmt.mono ?_; rintro e w' ⟨rfl, k, v', dk, rfl, hF⟩; refine Hid.out ?_))
  have hcells : ∀ j u', (byteCells (decDigits u))[j]? = some u' → ((putRow (fun (b : UInt8) => Value.int .u8 (b.toNat : Int)) (w.alloc (.cells Lib.zeros24 96)) w.heap.size 0 dk).drewN k).cell? ((⟨w.heap.size, 0, none⟩ : Addr).add j) = some u' := by
    intro j u' hj
    have hjl : j < (decDigits u).length := by
      have h5 := (List.getElem?_eq_some_iff.1 hj).1
      rwa [byteCells_length] at h5
    have e5 : (byteCells (decDigits u))[j]? = some (Value.int .u8 ((decDigits u)[j].toNat : Int)) := by simp [byteCells, hjl]
    rw [e5] at hj
    cases hj
    rw [Lib.row_is_numeral hF j hjl, Lib.add_plain, World.cell?_drewN]
    exact cell?_putRow (fun (b : UInt8) => Value.int .u8 (b.toNat : Int)) _ w.heap.size 0 _ dk HH0.out (by rw [hF.size, Array.size_replicate]) j (by rw [hF.size]; rw [decDigits_length] at hjl; exact hjl)
  obtain ⟨os, eo⟩ := Lib.fin_at w (.cells Lib.zeros24 96) dk k 0
  have hU2 : Upd Nob w ((putRow (fun (b : UInt8) => Value.int .u8 (b.toNat : Int)) (w.alloc (.cells Lib.zeros24 96)) w.heap.size 0 dk).drewN k) := by
    rw [eo]
    exact (Upd.of_below (Lib.below_grow w.heap.size w (Nat.le_refl _) k os)).mono (fun j hj hk => absurd hj (by omega))
  generalize (putRow (fun (b : UInt8) => Value.int .u8 (b.toNat : Int)) (w.alloc (.cells Lib.zeros24 96)) w.heap.size 0 dk).drewN k = W2 at hcells hU2 ⊢
  have HC := hideP hcells
  have HU2 := hideP hU2
  have hs2 := hU2.size
  have HO2 := hideP (OwnT.upd HO.out hU2 (fun _ _ => not_nob))
  obtain ⟨i0, hi0, hz0, hz1, hz2⟩ := info_parts cinfo_u8
  clear eo HH0 hfmt hcells hU2 hF HO HT
  refine hideP ?_
  go_wp2_with (at_builtin; refine wpList_append_T rfl _ _ 30 rfl base 5 i0 (.int .u8 0) Tryd.underlying30 hi0 hz0 hz1 hz2 rfl _ _ _ rfl HO2.out ⟨w.heap.size, 0, none⟩ (nDigits u) 24 (byteCells (decDigits u)) rfl ?c0 HC.out ?c2 ?c3 ?c4 ?c5 ?_)
  case c0 => rw [byteCells_length, decDigits_length]
  case c2 => intro u' hu'; simp only [byteCells, List.mem_map] at hu'; obtain ⟨b, _, rfl⟩ := hu'; rfl
  case c3 => unfold maxLen; omega
  case c4 => omega
  case c5 => omega
  intro A8 c8 w8 o8 g8 hat
  have hl : T.length + nDigits u = (T ++ decDigits u).length := by simp [decDigits_length]
  rw [hl, ← byteCells_append] at o8
  rw [hl]
  have HO8 := hideP o8
  have HU8 := hideP ((HU2.out.mono (G := fun b => (Value.slice A T.length c).ownBlock = some b) (fun _ _ h => False.elim h)).trans ((Upd.refl (fun b => (Value.slice A T.length c).ownBlock = some b) W2).grown g8 (fun b hb _ => hb)) (fun b hb h => h))
  obtain ⟨T8, hT8⟩ : ∃ T8, T ++ decDigits u = T8 := ⟨_, rfl⟩
  rw [hT8] at HO8
  rw [hT8]
  have H8 := hideP hT8
  clear o8 g8 hat hl hT8
  go_wp2_with fail
  try go_ret
  exact HP.out _ _ _ _ H8 HO8.out HU8.out
theorem appUint (w : World) (base : Nat) (A : Option Addr) (c : Nat) (T : List UInt8) (u : Nat) (ho : TextR w base A c T) (hb : base ≤ w.heap.size) (hul : u < 10000000) (hm : T.length ≤ 100000000) (htab : PowTab w) :
    Calls Tryd.prog 65 #[.slice A T.length c, .int .u64 (u : Int), .int .i64 10] w (PutL w base A c T (decDigits u)) := by
  by_cases h : u < 100
  · exact appUint_small w base A c T u ho hb h hm
  · exact appUint_big w base A c T u ho hb (by omega) hul hm htab
set_option maxRecDepth 100000 in
set_option maxHeartbeats 4000000 in
theorem appInt_in (w : World) (base : Nat) (A : Option Addr) (c : Nat) (T : List UInt8) (u : Nat) (ho : TextR w base A c T) (hb : base ≤ w.heap.size) (hul : u < 10000000) (hm : T.length ≤ 100000000) (htab : PowTab w) :
    Calls Tryd.prog 60 #[.slice A T.length c, .int .i64 (u : Int), .int .i64 10] w (PutL w base A c T (decDigits u)) := by
  have H := hideP (appUint w base A c T u ho hb hul hm htab)
  clear ho htab
  generalize hP : PutL w base A c T (decDigits u) = P at *
  have HP := hideP hP
  clear hP
  go_enter Tryd.func60, Tryd.ntmps60
  go_wp2_with (go_at_call 65; refine H.out.mono ?_; intro e w' h; rw [← HP.out] at h; obtain ⟨A8, c8, T8, H8, rfl, h2, h3⟩ := h; have HH := hideP (show PutL w base A c T (decDigits u) (.returned (.slice A8 T8.length c8)) w' from ⟨A8, c8, T8, H8, rfl, h2, h3⟩); rw [HP.out] at HH; clear h2 h3)
  try go_ret
  exact HH.out
set_option maxRecDepth 100000 in
set_option maxHeartbeats 4000000 in
theorem appInt_any (w : World) (base : Nat) (A : Option Addr) (c : Nat) (T : List UInt8) (u : Nat) (ho : TextR w base A c T) (hb : base ≤ w.heap.size) (hul : u < 10000000) (hm : T.length ≤ 100000000) (htab : PowTab w) :
    Calls Tryd.prog 47 #[.slice A T.length c, .int .i64 (u : Int), .int .i64 10] w (PutL w base A c T (decDigits u)) := by
  have H := hideP (appInt_in w base A c T u ho hb hul hm htab)
  clear ho htab
  generalize hP : PutL w base A c T (decDigits u) = P at *
  have HP := hideP hP
  clear hP
  go_enter Tryd.func47, Tryd.ntmps47
  go_wp2_with (go_at_call 60; refine H.out.mono ?_; intro e w' h; rw [← HP.out] at h; obtain ⟨A8, c8, T8, H8, rfl, h2, h3⟩ := h; have HH := hideP (show PutL w base A c T (decDigits u) (.returned (.slice A8 T8.length c8)) w' from ⟨A8, c8, T8, H8, rfl, h2, h3⟩); rw [HP.out] at HH; clear h2 h3)
  try go_ret
  exact HH.out
end Go.Proofs.YtdbdokjlcdogiaaDoor
