/-
  A program's text in plain words.
-/
import Derived.Test.YtdbdokjlcdogiaaDoorBytesP
import Derived.Lib.ItoaNum
import Derived.Lib.UnsafeStr
namespace Go.Proofs.YtdbdokjlcdogiaaDoor
open Go.Lib
set_option linter.unusedVariables false

/-- the operations' words -/
def wordT (op : Int) : List UInt8 :=
  if op = 1 then [114, 117, 110, 101] else if op = 2 then [97, 108, 116] else if op = 3 then [99, 97, 112] else if op = 4 then [97, 115, 115, 101, 114, 116]
  else if op = 5 then [109, 97, 116, 99, 104] else if op = 6 then [102, 97, 105, 108] else if op = 7 then [110, 111, 112] else []
def numT (n : Int) : List UInt8 := 32 :: decDigits n.toNat
/-- an instruction's line -/
def lineT (x : PInst) : List UInt8 := [32, 32] ++ wordT x.op ++ (numsOf x).flatMap numT ++ [10]
/-- the lines behind a text; none: too long -/
def linesT : List PInst → List UInt8 → Option (List UInt8)
  | [], b => some b
  | x :: r, b => if 8388608 < (b ++ lineT x).length then none else linesT r (b ++ lineT x)
def headT (start caps : Int) : List UInt8 := [99, 97, 112, 115, 32] ++ decDigits caps.toNat ++ [32, 115, 116, 97, 114, 116, 32] ++ decDigits start.toNat ++ [10]
/-- P10.1 -/
def textOf (is : List PInst) (start caps : Int) : List UInt8 × Int :=
  if checkB is start caps then
    match linesT is (headT start caps) with
    | some b => (b, 0)
    | none => ([], 3)
  else ([], 90)
theorem linesT_drop {is : List PInst} {k : Nat} {x : PInst} (b : List UInt8) (h : is[k]? = some x) : linesT (is.drop k) b = if 8388608 < (b ++ lineT x).length then none else linesT (is.drop (k + 1)) (b ++ lineT x) := by
  have hl := (List.getElem?_eq_some_iff.1 h).1
  rw [List.drop_eq_getElem_cons hl]
  rw [List.getElem?_eq_getElem hl] at h
  injection h with h
  rw [h]
  rfl
theorem wordT_len (op : Int) : (wordT op).length ≤ 6 := by
  unfold wordT
  repeat' split
  all_goals simp
theorem decDigits_small {n : Nat} (h : n < 10) : decDigits n = [UInt8.ofNat (48 + n)] := by rw [decDigits, dif_pos h]
theorem decDigits_step {n : Nat} (h : ¬ n < 10) : decDigits n = decDigits (n / 10) ++ [UInt8.ofNat (48 + n % 10)] := by rw [decDigits, dif_neg h]
theorem dec_len {n : Nat} (h : n < 10000000) : (decDigits n).length ≤ 7 := by
  have step : ∀ (k m : Nat), (∀ n, n < m → (decDigits n).length ≤ k) → 10 ≤ m * 10 → ∀ n, n < m * 10 → (decDigits n).length ≤ k + 1 := by
    intro k m ih hm n hn
    by_cases h1 : n < 10
    · rw [decDigits_small h1]; simp
    · rw [decDigits_step h1, List.length_append]
      have := ih (n / 10) (by omega)
      simp
      omega
  have h1 : ∀ n, n < 10 → (decDigits n).length ≤ 1 := fun n hn => by rw [decDigits_small hn]; simp
  have h2 := step 1 10 h1 (by omega)
  have h3 := step 2 100 h2 (by omega)
  have h4 := step 3 1000 h3 (by omega)
  have h5 := step 4 10000 h4 (by omega)
  have h6 := step 5 100000 h5 (by omega)
  exact step 6 1000000 h6 (by omega) n h
theorem numT_len {n : Int} (h : n < 2097152) : (numT n).length ≤ 8 := by
  unfold numT
  have := dec_len (n := n.toNat) (by omega)
  simp only [List.length_cons]
  omega
theorem headT_len {start caps : Int} (h1 : start < 2097152) (h2 : caps < 2097152) : (headT start caps).length ≤ 27 := by
  unfold headT
  have a := dec_len (n := caps.toNat) (by omega)
  have b := dec_len (n := start.toNat) (by omega)
  simp only [List.length_append, List.length_cons, List.length_nil]
  omega
theorem byte_digit (n : Nat) : Value.int IntKind.u8 ((48 + (n % 10 : Nat) : Nat) : Int) = Value.int .u8 ((UInt8.ofNat (48 + n % 10)).toNat : Int) := by
  congr 1
  rw [UInt8.toNat_ofNat']
  omega
end Go.Proofs.YtdbdokjlcdogiaaDoor
