/-
  Programs in plain words: an instruction, when it may be, when a program may be. No memory.
-/
namespace Go.Proofs.YtdbdokjlcdogiaaDoor
set_option linter.unusedVariables false

structure PInst where
  op : Int
  x : Int
  y : Int
  arg : Int
  rs : List (Int × Int)

def domB (r : Int) : Bool := decide (0 ≤ r ∧ r ≤ 1114111 ∧ (r < 55296 ∨ 57343 < r))
/-- the place ahead of k -/
def prevOf (rs : List (Int × Int)) : Nat → Option (Int × Int)
  | 0 => none
  | k + 1 => rs[k]?
def gapB (p : Option (Int × Int)) (x : Int × Int) : Bool := match p with | none => true | some y => decide (y.2 + 1 < x.1)
def rangeB (p : Option (Int × Int)) (x : Int × Int) : Bool := domB x.1 && domB x.2 && decide (x.1 ≤ x.2) && !(decide (x.1 < 55296 ∧ 57343 < x.2)) && gapB p x
def rightFrom (p : Option (Int × Int)) : List (Int × Int) → Bool
  | [] => true
  | x :: r => rangeB p x && rightFrom (some x) r
def rightB (rs : List (Int × Int)) : Bool := decide (rs.length ≤ 5000) && rightFrom none rs

theorem rightFrom_drop {rs : List (Int × Int)} {k : Nat} {x : Int × Int} (h : rs[k]? = some x) : rightFrom (prevOf rs k) (rs.drop k) = (rangeB (prevOf rs k) x && rightFrom (prevOf rs (k + 1)) (rs.drop (k + 1))) := by
  have hl := (List.getElem?_eq_some_iff.1 h).1
  have hd : rs.drop k = x :: rs.drop (k + 1) := by
    rw [List.drop_eq_getElem_cons hl]
    congr 1
    rw [List.getElem?_eq_getElem hl] at h
    injection h
  rw [hd]
  show (rangeB (prevOf rs k) x && rightFrom (some x) (rs.drop (k + 1))) = _
  rw [show prevOf rs (k + 1) = some x from h]

def thereB (i : Int) (n : Nat) : Bool := decide (0 ≤ i ∧ i < n)
def edgeB (a : Int) : Bool := decide (a = 1 ∨ a = 2 ∨ a = 4 ∨ a = 8 ∨ a = 16 ∨ a = 32)
def mayB (x : PInst) (n : Nat) (caps : Int) : Bool :=
  if x.op = 1 then thereB x.x n && decide (x.y = 0) && decide (x.arg = 0) && decide (0 < x.rs.length) && rightB x.rs
  else if x.op = 2 then thereB x.x n && thereB x.y n && decide (x.arg = 0) && decide (x.rs.length = 0)
  else if x.op = 3 then thereB x.x n && decide (x.y = 0) && decide (0 ≤ x.arg ∧ x.arg < caps) && decide (x.rs.length = 0)
  else if x.op = 4 then thereB x.x n && decide (x.y = 0) && edgeB x.arg && decide (x.rs.length = 0)
  else if x.op = 5 then decide (x.x = 0) && decide (x.y = 0) && decide (0 ≤ x.arg ∧ x.arg < 100) && decide (x.rs.length = 0)
  else if x.op = 6 then decide (x.x = 0) && decide (x.y = 0) && decide (x.arg = 0) && decide (x.rs.length = 0)
  else if x.op = 7 then thereB x.x n && decide (x.y = 0) && decide (x.arg = 0) && decide (x.rs.length = 0)
  else false

def checkB (is : List PInst) (start caps : Int) : Bool :=
  decide (1 ≤ is.length ∧ is.length ≤ 20000 ∧ 0 ≤ start ∧ start < is.length ∧ caps % 2 = 0 ∧ 2 ≤ caps ∧ caps ≤ 1002) && is.all fun x => mayB x is.length caps

theorem all_drop {is : List PInst} {k : Nat} {x : PInst} (f : PInst → Bool) (h : is[k]? = some x) : (is.drop k).all f = (f x && (is.drop (k + 1)).all f) := by
  have hl := (List.getElem?_eq_some_iff.1 h).1
  rw [List.drop_eq_getElem_cons hl]
  rw [List.getElem?_eq_getElem hl] at h
  injection h with h
  rw [h, List.all_cons]

/-- the row with which every match begins, and is it the whole?, from an instruction on; met: which have been -/
def prefixFrom (is : List PInst) : Nat → List Bool → Nat → List Int → List Int × Bool
  | 0, _, _, row => (row, false)
  | fuel + 1, met, pc, row =>
    if met.getD pc true = true then (row, false) else
    match is[pc]? with
    | none => (row, false)
    | some x =>
      if x.op = 5 then (row, true)
      else if x.op = 1 then
        match x.rs with
        | [r] => if r.1 = r.2 then prefixFrom is fuel (met.set pc true) x.x.toNat (row ++ [r.1]) else (row, false)
        | _ => (row, false)
      else if x.op = 7 ∨ x.op = 3 then prefixFrom is fuel (met.set pc true) x.x.toNat row
      else (row, false)
/-- P15.1 -/
def prefixOf (is : List PInst) (start caps : Int) : List Int × Bool :=
  if checkB is start caps then prefixFrom is (is.length + 1) (List.replicate is.length false) start.toNat [] else ([], false)
theorem count_met {met : List Bool} {pc : Nat} (h : met[pc]? = some false) : (met.set pc true).count false + 1 = met.count false := by
  have hl := (List.getElem?_eq_some_iff.1 h)
  obtain ⟨hl, hv⟩ := hl
  have hpos : 0 < met.count false := List.count_pos_iff.2 (hv ▸ List.getElem_mem hl)
  rw [List.count_set hl]
  simp [hv]
  omega
end Go.Proofs.YtdbdokjlcdogiaaDoor
