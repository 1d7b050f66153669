/-
  What bytes are: the plain function of code.Load.
-/
import Derived.Test.YtdbdokjlcdogiaaDoorFieldsL
import Derived.Test.YtdbdokjlcdogiaaDoorBytesP
namespace Go.Proofs.YtdbdokjlcdogiaaDoor
open Go.RowKit
set_option linter.unusedVariables false

/-- so many instructions -/
def instsF : Nat → List Int → Option (List PInst × List Int)
  | 0, bs => some ([], bs)
  | _ + 1, [] => none
  | n + 1, op :: r => match fieldsB op r with
    | none => none
    | some (x, q) => match instsF n q with
      | none => none
      | some (is, q2) => some (x :: is, q2)
/-- the bytes behind the head -/
def bodyB (bs : List Int) : Option (List PInst × Int × Int) := match numB bs with
  | none => none
  | some (caps, r) => match numB r with
    | none => none
    | some (start, r2) => match numB r2 with
      | none => none
      | some (n, r3) => if n ≤ 20000 then (match instsF n.toNat r3 with
        | none => none
        | some (is, q) => if q = [] ∧ checkB is start caps = true then some (is, start, caps) else none) else none
/-- the number that four bytes are -/
def four (t : List Int) : Int := match t with
  | [a, b, c, d] => a + 256 * b + 65536 * c + 16777216 * d
  | _ => -1
/-- P10.3 -/
def loadB (bs : List Int) : Option (List PInst × Int × Int) :=
  if 8 ≤ bs.length ∧ bs.take 4 = [72, 82, 80, 71] ∧ sumV (bs.take (bs.length - 4)) = four (bs.drop (bs.length - 4)) then bodyB ((bs.take (bs.length - 4)).drop 4) else none
end Go.Proofs.YtdbdokjlcdogiaaDoor
