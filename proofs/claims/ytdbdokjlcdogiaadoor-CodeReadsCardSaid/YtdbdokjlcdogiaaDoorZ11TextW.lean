/-
  TextP, Dec, TextW, put together.
-/
import Derived.Test.YtdbdokjlcdogiaaDoorZ07BytesP
import Derived.Lib.ItoaNum
import Derived.Lib.UnsafeStr

/-
  A program's text in plain words.
-/
namespace Go.Proofs.YtdbdokjlcdogiaaDoor
open Go.Lib
set_option linter.unusedVariables false

/-- the operations' words -/
def wordT (op : Int) : List UInt8 :=
  if op = 1 then [114, 117, 110, 101] else if op = 2 then [97, 108, 116] else if op = 3 then [99, 97, 112] else if op = 4 then [97, 115, 115, 101, 114, 116]
  else if op = 5 then [109, 97, 116, 99, 104] else if op = 6 then [102, 97, 105, 108] else if op = 7 then [110, 111, 112] else []
def numT (n : Int) : List UInt8 := 32 :: decDigits n.toNat
/-- an instruction's line -/
def lineT (x : PInst) : List UInt8 := [32, 32] ++ wordT x.op ++ (numsOf x).flatMap numT ++ [10]
/-- the lines behind a text; none: too long -/
def linesT : List PInst → List UInt8 → Option (List UInt8)
  | [], b => some b
  | x :: r, b => if 8388608 < (b ++ lineT x).length then none else linesT r (b ++ lineT x)
def headT (start caps : Int) : List UInt8 := [99, 97, 112, 115, 32] ++ decDigits caps.toNat ++ [32, 115, 116, 97, 114, 116, 32] ++ decDigits start.toNat ++ [10]
/-- P10.1 -/
def textOf (is : List PInst) (start caps : Int) : List UInt8 × Int :=
  if checkB is start caps then
    match linesT is (headT start caps) with
    | some b => (b, 0)
    | none => ([], 3)
  else ([], 90)
theorem linesT_drop {is : List PInst} {k : Nat} {x : PInst} (b : List UInt8) (h : is[k]? = some x) : linesT (is.drop k) b = if 8388608 < (b ++ lineT x).length then none else linesT (is.drop (k + 1)) (b ++ lineT x) := by
  have hl := (List.getElem?_eq_some_iff.1 h).1
  rw [List.drop_eq_getElem_cons hl]
  rw [List.getElem?_eq_getElem hl] at h
  injection h with h
  rw [h]
  rfl
theorem wordT_len (op : Int) : (wordT op).length ≤ 6 := by
  unfold wordT
  repeat' split
  all_goals simp
theorem decDigits_small {n : Nat} (h : n < 10) : decDigits n = [UInt8.ofNat (48 + n)] := by rw [decDigits, dif_pos h]
theorem decDigits_step {n : Nat} (h : ¬ n < 10) : decDigits n = decDigits (n / 10) ++ [UInt8.ofNat (48 + n % 10)] := by rw [decDigits, dif_neg h]
theorem dec_len {n : Nat} (h : n < 10000000) : (decDigits n).length ≤ 7 := by
  have step : ∀ (k m : Nat), (∀ n, n < m → (decDigits n).length ≤ k) → 10 ≤ m * 10 → ∀ n, n < m * 10 → (decDigits n).length ≤ k + 1 := by
    intro k m ih hm n hn
    by_cases h1 : n < 10
    · rw [decDigits_small h1]; simp
    · rw [decDigits_step h1, List.length_append]
      have := ih (n / 10) (by omega)
      simp
      omega
  have h1 : ∀ n, n < 10 → (decDigits n).length ≤ 1 := fun n hn => by rw [decDigits_small hn]; simp
  have h2 := step 1 10 h1 (by omega)
  have h3 := step 2 100 h2 (by omega)
  have h4 := step 3 1000 h3 (by omega)
  have h5 := step 4 10000 h4 (by omega)
  have h6 := step 5 100000 h5 (by omega)
  exact step 6 1000000 h6 (by omega) n h
theorem numT_len {n : Int} (h : n < 2097152) : (numT n).length ≤ 8 := by
  unfold numT
  have := dec_len (n := n.toNat) (by omega)
  simp only [List.length_cons]
  omega
theorem headT_len {start caps : Int} (h1 : start < 2097152) (h2 : caps < 2097152) : (headT start caps).length ≤ 27 := by
  unfold headT
  have a := dec_len (n := caps.toNat) (by omega)
  have b := dec_len (n := start.toNat) (by omega)
  simp only [List.length_append, List.length_cons, List.length_nil]
  omega
theorem byte_digit (n : Nat) : Value.int IntKind.u8 ((48 + (n % 10 : Nat) : Nat) : Int) = Value.int .u8 ((UInt8.ofNat (48 + n % 10)).toNat : Int) := by
  congr 1
  rw [UInt8.toNat_ofNat']
  omega
end Go.Proofs.YtdbdokjlcdogiaaDoor

/-
  The walks of heronref10.decimal and heronref10.word.
-/
namespace Go.Proofs.YtdbdokjlcdogiaaDoor
open Go.RowKit Go.Lib
set_option linter.unusedVariables false

/-- bytes behind a row of the call's own -/
def PutT (w : World) (base : Nat) (A : Option Addr) (m c : Nat) (xs : List Value) (l : List UInt8) (e : Ending) (w' : World) : Prop :=
  ∃ A' c', e = .returned (.slice A' (m + l.length) c') ∧ OwnT w' base 5 (.slice A' (m + l.length) c') (m + l.length) (xs ++ byteCells l) ∧ Upd (fun b => (Value.slice A m c).ownBlock = some b) w w' ∧ (∀ b, (Value.slice A' (m + l.length) c').ownBlock = some b → (Value.slice A m c).ownBlock = some b ∨ w.heap.size ≤ b)

set_option maxRecDepth 100000 in
set_option maxHeartbeats 2000000 in
theorem decimal_any : ∀ (k n : Nat), n ≤ k → ∀ (w : World) (base : Nat) (A : Option Addr) (m c : Nat) (xs : List Value), OwnT w base 5 (.slice A m c) m xs → base ≤ w.heap.size → n < 10000000 → m ≤ 100000000 →
    Calls Tryd.prog 48 #[.slice A m c, .int .i64 (n : Int)] w (PutT w base A m c xs (decDigits n)) := by
  intro k
  induction k using Nat.strongRecOn with
  | _ k ih =>
  intro n hnk w base A m c xs ho hb hn hm
  obtain ⟨i0, hi0, hz0, hz1, hz2⟩ := info_parts cinfo_u8
  have HO := hideP ho
  have IH := hideP ih
  clear ho ih
  generalize hP : PutT w base A m c xs (decDigits n) = P
  have HP := hideP (show ∀ l A' c' w', decDigits n = l → OwnT w' base 5 (.slice A' (m + l.length) c') (m + l.length) (xs ++ byteCells l) → Upd (fun b => (Value.slice A m c).ownBlock = some b) w w' → (∀ b, (Value.slice A' (m + l.length) c').ownBlock = some b → (Value.slice A m c).ownBlock = some b ∨ w.heap.size ≤ b) → P (.returned (.slice A' (m + l.length) c')) w' from fun l A' c' w' h1 h2 h3 h4 => by rw [← hP, h1]; exact ⟨A', c', rfl, h2, h3, h4⟩)
  clear hP
  by_cases hlt : n < 10
  · have g1 : ¬ (10 : Int) ≤ (n : Int) := by omega
    have htm : (n : Int).tmod 10 = (n : Int) := Int.tmod_eq_of_lt (by omega) (by omega)
    have HD := hideP (decDigits_small hlt)
    have hby : Value.int IntKind.u8 (48 + (n : Int)) = .int .u8 ((UInt8.ofNat (48 + n)).toNat : Int) := by
      congr 1
      rw [UInt8.toNat_ofNat']
      omega
    have HBY := hideP hby
    clear hby
    go_enter Tryd.func48, Tryd.ntmps48
    go_wp2_with (at_builtin; refine wpList_append_T rfl _ _ 30 rfl base 5 i0 (.int .u8 0) Tryd.underlying30 hi0 hz0 hz1 hz2 rfl _ _ _ rfl (HO.out.alloc _) ⟨w.heap.size, 0, none⟩ 1 1 [(.int .u8 (48 + (n : Int)))] rfl rfl ?d1 ?d2 ?d3 ?d4 ?d5 ?_)
    try case d1 => exact World.news_of_block (cs := #[(.int .u8 (48 + (n : Int)))]) (t := 5) (fr := (0, 0)) (heap_alloc_new _ _)
    case d2 => first | rfl | exact ⟨rfl⟩ | trivial | (intro u hu; simp at hu; subst hu; rfl) | simp
    case d3 => unfold maxLen; omega
    case d4 => omega
    case d5 => first | (simp; done) | (simp; omega) | omega
    intro A8 c8 w8 o8 g8 hat
    have hU8 := ((Upd.refl (fun b => (Value.slice A m c).ownBlock = some b) w).alloc (.cells #[(.int .u8 (48 + (n : Int)))] 5)).grown g8 (fun b hb _ => hb)
    have hat' : ∀ b, (Value.slice A8 (m + 1) c8).ownBlock = some b → (Value.slice A m c).ownBlock = some b ∨ w.heap.size ≤ b := fun b hb => by
      rcases hat with h | h
      · rw [h] at hb; exact .inl hb
      · rw [h] at hb
        injection hb with hb
        (try simp at hb)
        right; omega
    have HU8 := hideP hU8
    have HO8 := hideP o8
    have HA8 := hideP hat'
    clear hU8 o8 g8 hat hat'
    go_wp2_with fail
    try go_ret
    refine HP.out [UInt8.ofNat (48 + n)] A8 c8 w8 HD.out ?_ HU8.out HA8.out
    have h := HO8.out
    rw [HBY.out] at h
    exact h
  · have g1 : (10 : Int) ≤ (n : Int) := by omega
    obtain ⟨q, hqn⟩ : ∃ q : Nat, n / 10 = q := ⟨_, rfl⟩
    obtain ⟨r, hrn⟩ : ∃ r : Nat, n % 10 = r := ⟨_, rfl⟩
    have htm : (n : Int).tmod 10 = (r : Int) := by rw [Int.tmod_eq_emod_of_nonneg (by omega)]; omega
    have htd : (n : Int).tdiv 10 = (q : Int) := by rw [Int.tdiv_eq_ediv_of_nonneg (by omega)]; omega
    have htm2 : (n : Int) % 10 = (r : Int) := by omega
    have htd2 : (n : Int) / 10 = (q : Int) := by omega
    have hr : r < 10 := by omega
    have hq : q < 1000000 := by omega
    have HD := hideP (show decDigits n = decDigits q ++ [UInt8.ofNat (48 + r)] by rw [decDigits_step hlt, hqn, hrn])
    have hby : Value.int IntKind.u8 (48 + (r : Int)) = .int .u8 ((UInt8.ofNat (48 + r)).toNat : Int) := by
      congr 1
      rw [UInt8.toNat_ofNat']
      omega
    have HBY := hideP hby
    have hdl := dec_len (n := q) (by omega)
    have HI := hideP (IH.out q (by omega) q (Nat.le_refl _) w base A m c xs HO.out hb (by omega) hm)
    clear hby hlt IH
    go_enter Tryd.func48, Tryd.ntmps48
    go_upto_region 3 with (go_at_call 48; refine HI.out.mono ?_; rintro e w5 ⟨A5, c5, rfl, o5, u5, h5⟩)
    have HO5 := hideP o5
    have HU5 := hideP u5
    have HA5 := hideP h5
    have hs5 := u5.size
    clear o5 u5 h5
    go_wp2_with (at_builtin; refine wpList_append_T rfl _ _ 30 rfl base 5 i0 (.int .u8 0) Tryd.underlying30 hi0 hz0 hz1 hz2 rfl _ _ _ rfl (HO5.out.alloc _) ⟨w5.heap.size, 0, none⟩ 1 1 [(.int .u8 (48 + (r : Int)))] rfl rfl ?e1 ?e2 ?e3 ?e4 ?e5 ?_)
    try case e1 => exact World.news_of_block (cs := #[(.int .u8 (48 + (r : Int)))]) (t := 5) (fr := (0, 0)) (heap_alloc_new _ _)
    case e2 => first | rfl | exact ⟨rfl⟩ | trivial | (intro u hu; simp at hu; subst hu; rfl) | simp
    case e3 => unfold maxLen; omega
    case e4 => omega
    case e5 => first | (simp; done) | (simp; omega) | omega
    intro A8 c8 w8 o8 g8 hat
    have hU8 := HU5.out.trans (((Upd.refl (fun b => (Value.slice A5 (m + (decDigits q).length) c5).ownBlock = some b) w5).alloc (.cells #[(.int .u8 (48 + (r : Int)))] 5)).grown g8 (fun b hb _ => hb)) (fun b hb h => by rcases HA5.out b h with h | h; exact h; omega)
    have hat' : ∀ b, (Value.slice A8 (m + (decDigits q).length + 1) c8).ownBlock = some b → (Value.slice A m c).ownBlock = some b ∨ w.heap.size ≤ b := fun b hb => by
      rcases hat with h | h
      · rw [h] at hb; exact HA5.out b hb
      · rw [h] at hb
        injection hb with hb
        (try simp at hb)
        right; omega
    have hl : m + (decDigits q).length + 1 = m + (decDigits q ++ [UInt8.ofNat (48 + r)]).length := by simp; omega
    rw [hl] at hat' o8
    have HU8 := hideP hU8
    have HO8 := hideP o8
    have HA8 := hideP hat'
    rw [hl]
    clear hU8 o8 g8 hat hat' hl
    go_wp2_with fail
    try go_ret
    refine HP.out (decDigits q ++ [UInt8.ofNat (48 + r)]) A8 c8 w8 HD.out ?_ HU8.out HA8.out
    have h := HO8.out
    rw [HBY.out] at h
    have e : xs ++ byteCells (decDigits q ++ [UInt8.ofNat (48 + r)]) = xs ++ (byteCells (decDigits q) ++ [Value.int IntKind.u8 ((UInt8.ofNat (48 + r)).toNat : Int)]) := by rw [byteCells_append]; rfl
    rw [e]
    first | exact h | (rw [← List.append_assoc]; exact h)
/-- an operation's word -/
def wordS (op : Int) : ByteArray := ⟨(wordT op).toArray⟩
set_option maxRecDepth 100000 in
set_option maxHeartbeats 2000000 in
theorem word_any (w : World) (op : Int) (h0 : 1 ≤ op) (h1 : op ≤ 7) : Calls Tryd.prog 49 #[.int .i64 op] w fun e w' => e = .returned (.string (wordS op)) ∧ w' = w := by
  have hc : op = 1 ∨ op = 2 ∨ op = 3 ∨ op = 4 ∨ op = 5 ∨ op = 6 ∨ op = 7 := by omega
  rcases hc with rfl | rfl | rfl | rfl | rfl | rfl | rfl <;>
  · go_enter Tryd.func49, Tryd.ntmps49
    go_wp2_with fail
    go_ret
    exact ⟨rfl, rfl⟩
end Go.Proofs.YtdbdokjlcdogiaaDoor

/-
  Steps on a text that a call builds: bytes behind it, as lists.
-/
namespace Go.Proofs.YtdbdokjlcdogiaaDoor
open Go.RowKit Go.Lib
set_option linter.unusedVariables false

/-- the slice holds the text T, a row of the call's own -/
def TextR (w : World) (base : Nat) (A : Option Addr) (c : Nat) (T : List UInt8) : Prop := OwnT w base 5 (.slice A T.length c) T.length (byteCells T)
/-- the text with l behind it -/
def PutL (w : World) (base : Nat) (A : Option Addr) (c : Nat) (T l : List UInt8) (e : Ending) (w' : World) : Prop :=
  ∃ A' c' T', Hid (T ++ l = T') ∧ e = .returned (.slice A' T'.length c') ∧ TextR w' base A' c' T' ∧ Upd (fun b => (Value.slice A T.length c).ownBlock = some b) w w'
theorem PutL.of {w : World} {base : Nat} {A : Option Addr} {c : Nat} {T l : List UInt8} {e : Ending} {w' : World} (h : PutT w base A T.length c (byteCells T) l e w') : PutL w base A c T l e w' := by
  obtain ⟨A', c', rfl, h2, h3, -⟩ := h
  have hl : T.length + l.length = (T ++ l).length := by simp
  rw [hl, ← byteCells_append] at h2
  rw [hl]
  exact ⟨A', c', _, hideP rfl, rfl, h2, h3⟩
theorem decimal_text (w : World) (base : Nat) (A : Option Addr) (c : Nat) (T : List UInt8) (n : Nat) (ho : TextR w base A c T) (hb : base ≤ w.heap.size) (hn : n < 10000000) (hm : T.length ≤ 100000000) :
    Calls Tryd.prog 48 #[.slice A T.length c, .int .i64 (n : Int)] w (PutL w base A c T (decDigits n)) :=
  (decimal_any n n (Nat.le_refl _) w base A T.length c (byteCells T) ho hb hn hm).mono fun _ _ h => PutL.of h
section
variable {w : World}
theorem text_append {ops : Array Oper} {rest : List Oper} {o : Oper} {a : Act} {Q : Exit → Act → World → Prop} (hgd : o.guard = none) (sl x : Operand)
    (ho : o.op = .call { callee := .builtin .append, args := #[sl, x], argTypes := #[30, 9] })
    (base : Nat) (A : Option Addr) (c : Nat) (T l : List UInt8) (hs : a.eval sl = .slice A T.length c) (hown : TextR w base A c T) (s : ByteArray) (hx : a.eval x = .string s) (hsl : s.data.toList = l)
    (hlim : T.length + l.length ≤ 1000000000) (hbase : base ≤ w.heap.size)
    (h : ∀ A' c' w' T', Hid (T ++ l = T') → TextR w' base A' c' T' → Upd (fun b => (Value.slice A T.length c).ownBlock = some b) w w' → wpList Tryd.prog ops Q rest (a.put o.dst (.slice A' T'.length c')) w') : wpList Tryd.prog ops Q (o :: rest) a w := by
  obtain ⟨i0, hi0, hz0, hz1, hz2⟩ := info_parts cinfo_u8
  have hss : s.size = l.length := by rw [← hsl, Array.length_toList]; rfl
  refine wpList_append_string_T hgd sl x _ _ ho base 5 i0 Tryd.underlying30 Tryd.underlying9 hi0 hz0 hz1 hz2 _ _ _ hs hown s hx (by unfold maxLen; omega) (by omega) hbase ?_
  intro A' c' w' o8 g8 _
  have hl : T.length + s.size = (T ++ l).length := by simp [hss]
  have hc : byteCells T ++ strCells s = byteCells (T ++ l) := by rw [byteCells_append, strCells_eq, hsl]
  rw [hl, hc] at o8
  rw [hl]
  exact h A' c' w' _ (hideP rfl) o8 ((Upd.refl _ w).grown g8 (fun b hb _ => hb))
theorem text_byte {ops : Array Oper} {rest : List Oper} {o : Oper} {a : Act} {Q : Exit → Act → World → Prop} (hgd : o.guard = none) (sl x : Operand)
    (ho : o.op = .call { callee := .builtin .append, args := #[sl, x], argTypes := #[30, 30] })
    (base : Nat) (A : Option Addr) (c : Nat) (T : List UInt8) (hs : a.eval sl = .slice A T.length c) (w0 : World) (v : Int) (hw : w = w0.alloc (.cells #[.int .u8 v] 5)) (hown : TextR w0 base A c T) (u : UInt8) (huv : (u.toNat : Int) = v) (hx : a.eval x = .slice (some ⟨w0.heap.size, 0, none⟩) 1 1)
    (hlim : T.length ≤ 1000000000) (hbase : base ≤ w0.heap.size)
    (h : ∀ A' c' w' T', Hid (T ++ [u] = T') → TextR w' base A' c' T' → Upd (fun b => (Value.slice A T.length c).ownBlock = some b) w0 w' → wpList Tryd.prog ops Q rest (a.put o.dst (.slice A' T'.length c')) w') : wpList Tryd.prog ops Q (o :: rest) a w := by
  subst hw
  obtain ⟨i0, hi0, hz0, hz1, hz2⟩ := info_parts cinfo_u8
  refine wpList_append_T hgd sl x _ ho base 5 i0 (.int .u8 0) Tryd.underlying30 hi0 hz0 hz1 hz2 rfl _ _ _ hs (OwnT.alloc hown _) ⟨w0.heap.size, 0, none⟩ 1 1 [.int .u8 v] hx rfl (World.news_of_block (cs := #[.int .u8 v]) (t := 5) (fr := (0, 0)) (heap_alloc_new _ _)) (fun u hu => by simp at hu; subst hu; rfl) (by unfold maxLen; omega) (by omega) (by simp; omega) ?_
  intro A' c' w' o8 g8 _
  have hl : T.length + 1 = (T ++ [u]).length := by simp
  have hc : byteCells T ++ [.int .u8 v] = byteCells (T ++ [u]) := by rw [byteCells_append, ← huv]; rfl
  rw [hl, hc] at o8
  rw [hl]
  exact h A' c' w' _ (hideP rfl) o8 (((Upd.refl _ w0).alloc _).grown g8 (fun b hb _ => hb))
theorem text_string {base : Nat} {A : Option Addr} {c : Nat} {T : List UInt8} (h : TextR w base A c T) (hne : T ≠ []) : (convert 30 9 (.slice A T.length c)).run Tryd.prog w = .ok (.string ⟨T.toArray⟩) w := by
  rcases h.2 with ⟨_, h0⟩ | ⟨g, cap, cur, fz, hv, -⟩
  · exact absurd (List.eq_nil_of_length_eq_zero h0) hne
  · obtain ⟨rfl, _, rfl⟩ : A = some ⟨g, 0, none⟩ ∧ T.length = T.length ∧ c = cap := by injection hv with a b c; exact ⟨a, b, c⟩
    refine run_convert_bytes_back w _ _ 5 ⟨g, 0, none⟩ c T Tryd.underlying30 Tryd.underlying5 Tryd.underlying9 (fun j hj => ?_)
    exact OwnT.cells h rfl j _ (by simp [byteCells, hj])
end
theorem TextR.upd {F : Nat → Prop} {w w' : World} {base : Nat} {A : Option Addr} {c : Nat} {T : List UInt8} (h : TextR w base A c T) (hU : Upd F w w') (hF : ∀ k, base ≤ k → ¬ F k) : TextR w' base A c T := OwnT.upd h hU (fun k hk => hF k (OwnT.lo h hk))
theorem TextR.step {w2 w w' : World} {A : Option Addr} {c : Nat} {T : List UInt8} (h : TextR w w2.heap.size A c T) (hU : Upd Nob w2 w) (u : Upd (fun b => (Value.slice A T.length c).ownBlock = some b) w w') : Upd Nob w2 w' := hU.trans u (fun k hk hk2 => by have := OwnT.lo h hk2; exact absurd hk (by omega))
theorem TextR.nil_ (w : World) (base : Nat) : TextR w base none 0 [] := OwnT.nil_ w base _
theorem cat_len {T l T' : List UInt8} (h : Hid (T ++ l = T')) : T'.length ≤ T.length + l.length := by rw [← h.out, List.length_append]; exact Nat.le_refl _
theorem cat_ne {T l T' : List UInt8} (h : Hid (T ++ l = T')) (hl : T ≠ []) : T' ≠ [] := by
  rw [← h.out]
  intro h2
  exact hl (List.append_eq_nil_iff.1 h2).1
/-- the answer of Print -/
def TextAns (w : World) (R : List UInt8 × Int) (e : Ending) (w' : World) : Prop := e = .returned (.tuple #[.string ⟨R.1.toArray⟩, .int .i64 R.2]) ∧ Upd Nob w w'
theorem wordS_list (op : Int) : (wordS op).data.toList = wordT op := rfl
end Go.Proofs.YtdbdokjlcdogiaaDoor
