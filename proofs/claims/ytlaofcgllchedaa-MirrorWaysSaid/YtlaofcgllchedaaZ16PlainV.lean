/-
  RefLook, PlainV, put together.
-/
import Derived.Test.YtlaofcgllchedaaZ02TreeP
import Derived.Test.YtlaofcgllchedaaZ15Bits
import Derived.Laws.BitsAllLaws
import Derived.Laws.EntriesVeiled
import Derived.Laws.BitsLemmas

/-
  What holds at a place, in plain words; the walks of heronref02.At, Holds.
-/
namespace Go.Proofs.Ytlaofcgllchedaa
open Go.RowKit
set_option linter.unusedVariables false

/-- one of a word -/
def lwordB (x : Int) : Bool := decide (97 ≤ x ∧ x ≤ 122 ∨ 65 ≤ x ∧ x ≤ 90 ∨ 48 ≤ x ∧ x ≤ 57 ∨ x = 95)
def firstB (i : Nat) : Bool := decide (i = 0)
def lastB (xs : List Int) (i : Nat) : Bool := decide (i = xs.length)
def beginB (xs : List Int) (i : Nat) : Bool := decide (i = 0 ∨ xs[i - 1]? = some 10)
def endB (xs : List Int) (i : Nat) : Bool := decide (i = xs.length ∨ xs[i]? = some 10)
def aheadB (xs : List Int) (i : Nat) : Bool := !decide (i = 0) && ((xs[i - 1]?).map lwordB).getD false
def behindB (xs : List Int) (i : Nat) : Bool := ((xs[i]?).map lwordB).getD false
def wedgeB (xs : List Int) (i : Nat) : Bool := aheadB xs i != behindB xs i
/-- which assertions hold at place i, by their numbers -/
def flag (xs : List Int) (i : Nat) : Nat → Bool
  | 0 => firstB i
  | 1 => lastB xs i
  | 2 => beginB xs i
  | 3 => endB xs i
  | 4 => wedgeB xs i
  | _ => !wedgeB xs i
def bitv (b : Bool) (v : Int) : Int := if b = true then v else 0
/-- the first k of them, as a number -/
def part (xs : List Int) (i : Nat) : Nat → Int
  | 0 => 0
  | k + 1 => part xs i k + bitv (flag xs i k) (2 ^ k)
/-- what At answers -/
def lookAt (xs : List Int) (p : Int) : Int := if 0 ≤ p ∧ p ≤ xs.length then part xs p.toNat 6 else 0

theorem part_bounds (xs : List Int) (i : Nat) : ∀ k, 0 ≤ part xs i k ∧ part xs i k < 2 ^ k
  | 0 => by simp [part]
  | k + 1 => by
    have := part_bounds xs i k
    have h2 : (2 : Int) ^ (k + 1) = 2 ^ k * 2 := Int.pow_succ 2 k
    have h0 : (0 : Int) < 2 ^ k := Int.pow_pos (by decide)
    unfold part bitv
    split <;> omega
theorem lret_bool {a b : Bool} (h : a = b) : Ending.returned (.bool a) = .returned (.bool b) := by rw [h]
theorem ret_int {k : IntKind} {a b : Int} (h : a = b) : Ending.returned (.int k a) = .returned (.int k b) := by rw [h]
/-- a text as it came in: its cells, its numbers -/
structure TextR (w : World) (S : Nat → Prop) (A : Option Addr) (n : Nat) (xs : List Int) : Prop where
  r : Reads w S 1 A n (intv xs)
  i : ∀ x ∈ xs, In64 x
  n : n ≤ 17592186044416
theorem TextR.len {w : World} {S : Nat → Prop} {A : Option Addr} {n : Nat} {xs : List Int} (h : TextR w S A n xs) : xs.length = n := by have := h.r.1; simpa [intv] using this
theorem TextR.upd {w w' : World} {S F : Nat → Prop} {A : Option Addr} {n : Nat} {xs : List Int} (h : TextR w S A n xs) (hU : Upd F w w') (hF : ∀ k, S k → ¬ F k) : TextR w' S A n xs := ⟨h.r.upd hU hF, h.i, h.n⟩

theorem TextR.at_ {w : World} {S : Nat → Prop} {A : Option Addr} {n k : Nat} {xs : List Int} (h : TextR w S A n xs) (hk : k < n) :
    ∃ ad x, A = some ad ∧ xs[k]? = some x ∧ In64 x ∧ ∀ W, Upd Nob w W → W.cell? (ad.add k) = some (.int .i64 x) := by
  obtain ⟨ad, x, rfl, hx, hc⟩ := h.r.int1 hk
  refine ⟨ad, x, rfl, hx, h.i x (List.mem_of_getElem? hx), fun W hW => ?_⟩
  obtain ⟨ad', x', e1, e2, h2⟩ := (h.r.upd hW (fun _ _ => not_nob)).int1 hk
  injection e1 with e1
  rw [hx] at e2
  injection e2 with e2
  subst e1; subst e2
  exact h2

def holdsB (x y : Int) : Bool := bits .andNot .i64 x y == 0
theorem holds_iff (x y : Int) : holdsB x y = true ↔ ∀ k, k < 64 → bitAt x k = true → bitAt y k = true := by
  have e : bits .andNot .i64 x y = IntKind.i64.wrap ((BitVec.ofInt 64 x &&& ~~~ BitVec.ofInt 64 y).toNat : Int) := rfl
  have h0 : holdsB x y = true ↔ (BitVec.ofInt 64 x &&& ~~~ BitVec.ofInt 64 y) = 0#64 := by
    unfold holdsB
    rw [e, IntKind.wrap_i64]
    have hlt := (BitVec.ofInt 64 x &&& ~~~ BitVec.ofInt 64 y).isLt
    rw [← BitVec.toNat_inj]
    simp only [beq_iff_eq]
    generalize (BitVec.ofInt 64 x &&& ~~~ BitVec.ofInt 64 y).toNat = m at *
    simp
    omega
  rw [h0]
  constructor
  · intro h k hk hx
    have := congrArg (fun b : BitVec 64 => b.getLsbD k) h
    simp only [BitVec.getLsbD_and, BitVec.getLsbD_not, getLsb_ofInt _ _ hk, hx, Bool.true_and, hk, decide_true] at this
    simpa using this
  · intro h
    apply BitVec.eq_of_getLsbD_eq
    intro k hk
    simp only [BitVec.getLsbD_and, BitVec.getLsbD_not, getLsb_ofInt _ _ hk, hk, decide_true, Bool.true_and]
    cases hx : bitAt x k
    · simp
    · simp [h k hk hx]


theorem refWord_yes (x : Int) (w : World) (h : lwordB x = true) (hx : In64 x) : Calls Try.prog 57 #[.int .i64 x] w fun e w' => e = .returned (.bool true) ∧ w = w' := by
  have h' : 97 ≤ x ∧ x ≤ 122 ∨ 65 ≤ x ∧ x ≤ 90 ∨ 48 ≤ x ∧ x ≤ 57 ∨ x = 95 := by simpa [lwordB] using h
  clear h
  obtain ⟨hx1, hx2⟩ := hx
  rcases h' with ⟨h1, h2⟩ | ⟨h1, h2⟩ | ⟨h1, h2⟩ | rfl
  all_goals
    go_enter Try.func57, Try.ntmps57
    go_wp2
    go_ret
    exact ⟨rfl, rfl⟩
theorem refWord_no (x : Int) (w : World) (h : lwordB x = false) (hx : In64 x) : Calls Try.prog 57 #[.int .i64 x] w fun e w' => e = .returned (.bool false) ∧ w = w' := by
  have h' : ¬ (97 ≤ x ∧ x ≤ 122 ∨ 65 ≤ x ∧ x ≤ 90 ∨ 48 ≤ x ∧ x ≤ 57 ∨ x = 95) := by simpa [lwordB] using h
  clear h
  obtain ⟨hx1, hx2⟩ := hx
  rcases (by omega : x < 48 ∨ (57 < x ∧ x < 65) ∨ (90 < x ∧ x < 95) ∨ (95 < x ∧ x < 97) ∨ 122 < x) with h1 | ⟨h1, h2⟩ | ⟨h1, h2⟩ | ⟨h1, h2⟩ | h1
  all_goals
    clear h'
    have h9 : (x == 95) = false := by simp; omega
    go_enter Try.func57, Try.ntmps57
    go_wp2
    go_ret
    refine ⟨lret_bool ?_, rfl⟩
    first | rfl | (simp; omega)
theorem refWord (x : Int) (w : World) (hx : In64 x) : Calls Try.prog 57 #[.int .i64 x] w fun e w' => e = .returned (.bool (lwordB x)) ∧ w = w' := by
  cases h : lwordB x
  · exact refWord_no x w h hx
  · exact refWord_yes x w h hx

theorem part6 (xs : List Int) (i : Nat) : part xs i 6 = bitv (firstB i) 1 + bitv (beginB xs i) 4 + (bitv (lastB xs i) 2 + bitv (endB xs i) 8) + (if wedgeB xs i = true then 16 else 32) := by
  have h : ∀ b : Bool, bitv b 16 + bitv (!b) 32 = if b = true then 16 else 32 := by intro b; cases b <;> rfl
  have e : part xs i 6 = ((((((0 + bitv (firstB i) 1) + bitv (lastB xs i) 2) + bitv (beginB xs i) 4) + bitv (endB xs i) 8) + bitv (wedgeB xs i) 16) + bitv (!wedgeB xs i) 32) := rfl
  rw [e, ← h]
  omega
theorem bitv_bd (b : Bool) (v : Int) (hv : 0 ≤ v) : 0 ≤ bitv b v ∧ bitv b v ≤ v := by unfold bitv; split <;> omega

set_option maxHeartbeats 2000000 in
theorem refAt_in (w : World) (S : Nat → Prop) (A : Option Addr) (n c i : Nat) (xs : List Int) (hx : TextR w S A n xs) (hi : i ≤ n) :
    Calls Try.prog 39 #[.slice A n c, .int .i64 (i : Int)] w fun e w' => e = .returned (.int .i64 (part xs i 6)) ∧ w = w' := by
  have hm := hx.n
  have hl := hx.len
  go_enter Try.func39, Try.ntmps39
  go_upto_if 17 with fail
  go_cut [5, 6] (fun v5 v6 wc => w = wc ∧ v5 = .int .i64 (bitv (firstB i) 1 + bitv (beginB xs i) 4) ∧ v6 = .bool (aheadB xs i))
  case first =>
    by_cases h0 : i = 0
    · subst h0
      go_wp2_with fail
      go_meet
      exact ⟨rfl, rfl, rfl⟩
    · obtain ⟨j, rfl⟩ : ∃ j, i = j + 1 := ⟨i - 1, by omega⟩
      have hq : firstB (j + 1) = false := by simp [firstB]
      obtain ⟨ad, x, rfl, hxk, hxi, hxc⟩ := hx.at_ (k := j) (by omega)
      have ha : aheadB xs (j + 1) = lwordB x := by simp [aheadB, hxk]
      have hc := hxc w (Upd.refl _ _)
      have hne : (((j : Int) + 1) == 0) = false := by simp; omega
      have HA := hideP ha
      have HQ := hideP hq
      have HX := hideP hxk
      clear h0 ha hq hxk hxc hx
      by_cases h10 : x = 10
      · have hb : beginB xs (j + 1) = true := by unfold beginB; simp [HX.out, h10]
        have HB := hideP hb
        clear hb
        subst h10
        go_wp2_with (go_at_call 57; refine (refWord 10 w hxi).mono ?_; rintro e w' ⟨rfl, rfl⟩)
        go_meet
        exact ⟨rfl, by rw [HQ.out, HB.out]; rfl, by rw [HA.out]⟩
      · have hb : beginB xs (j + 1) = false := by unfold beginB; simp [HX.out, h10]
        have HB := hideP hb
        clear hb
        have h10' : (x == 10) = false := by simpa using h10
        go_wp2_with (go_at_call 57; refine (refWord x w hxi).mono ?_; rintro e w' ⟨rfl, rfl⟩)
        go_meet
        exact ⟨rfl, by rw [HQ.out, HB.out]; rfl, by rw [HA.out]⟩
  case rest =>
    obtain ⟨rfl, rfl, rfl⟩ := hcut
    have b1 := bitv_bd (firstB i) 1 (by omega)
    have b2 := bitv_bd (beginB xs i) 4 (by omega)
    generalize hs1 : bitv (firstB i) 1 + bitv (beginB xs i) 4 = s1
    have HS1 := hideP hs1
    have b3 : 0 ≤ s1 ∧ s1 ≤ 5 := by omega
    clear hs1 b1 b2
    go_upto_if 38 with fail
    go_cut [5, 7] (fun v5 v7 wc => w = wc ∧ v5 = .int .i64 (s1 + (bitv (lastB xs i) 2 + bitv (endB xs i) 8)) ∧ v7 = .bool (behindB xs i))
    case first =>
      by_cases h0 : i = n
      · have hq : lastB xs i = true := by simp [lastB, hl, h0]
        have he : endB xs i = true := by simp [endB, hl, h0]
        have hb : behindB xs i = false := by
          have : xs[i]? = none := List.getElem?_eq_none (by omega)
          simp [behindB, this]
        have HQ := hideP hq
        have HE := hideP he
        have HB := hideP hb
        clear hq he hb hx
        subst h0
        go_wp2_with fail
        go_meet
        exact ⟨rfl, by rw [HQ.out, HE.out]; simp [bitv]; omega, by rw [HB.out]⟩
      · have hq : lastB xs i = false := by simp [lastB, hl, h0]
        obtain ⟨ad, x, rfl, hxk, hxi, hxc⟩ := hx.at_ (k := i) (by omega)
        have ha : behindB xs i = lwordB x := by simp [behindB, hxk]
        have hc := hxc w (Upd.refl _ _)
        have hne : ((i : Int) == (n : Int)) = false := by simp; omega
        have HA := hideP ha
        have HQ := hideP hq
        have HX := hideP hxk
        clear ha hq hxk hxc hx
        by_cases h10 : x = 10
        · have hb : endB xs i = true := by unfold endB; simp [HX.out, h10]
          have HB := hideP hb
          clear hb
          subst h10
          go_wp2_with (go_at_call 57; refine (refWord 10 w hxi).mono ?_; rintro e w' ⟨rfl, rfl⟩)
          go_meet
          exact ⟨rfl, by rw [HQ.out, HB.out]; simp [bitv], by rw [HA.out]⟩
        · have hb : endB xs i = false := by unfold endB; simp [HX.out, h10, hl, h0]
          have HB := hideP hb
          clear hb
          have h10' : (x == 10) = false := by simpa using h10
          go_wp2_with (go_at_call 57; refine (refWord x w hxi).mono ?_; rintro e w' ⟨rfl, rfl⟩)
          go_meet
          exact ⟨rfl, by rw [HQ.out, HB.out]; simp [bitv], by rw [HA.out]⟩
    case rest =>
      obtain ⟨rfl, rfl, rfl⟩ := hcut
      have b1 := bitv_bd (lastB xs i) 2 (by omega)
      have b2 := bitv_bd (endB xs i) 8 (by omega)
      have he : wedgeB xs i = (aheadB xs i != behindB xs i) := rfl
      have hp := part6 xs i
      rw [HS1.out] at hp
      generalize hs2 : bitv (lastB xs i) 2 + bitv (endB xs i) 8 = s2 at *
      rw [he] at hp
      have HP := hideP hp
      have b4 : 0 ≤ s2 ∧ s2 ≤ 10 := by omega
      clear hs2 b1 b2 he hp hx
      generalize aheadB xs i = a at *
      generalize behindB xs i = b at *
      cases a <;> cases b
      all_goals
        go_wp2_with fail
        go_ret
        exact ⟨ret_int (by rw [HP.out]; simp; try omega), rfl⟩
theorem bit_cases (x : Int) (k : Nat) : (bitAt x k = true ∧ (x / 2 ^ k) % 2 = 1) ∨ (bitAt x k = false ∧ (x / 2 ^ k) % 2 = 0) := by
  unfold bitAt
  rcases (by omega : (x / 2 ^ k) % 2 = 1 ∨ (x / 2 ^ k) % 2 = 0) with h | h <;> simp [h]
set_option maxHeartbeats 1000000 in
theorem refHolds_any (w : World) (x y : Int) (hx : In64 x) (hy : In64 y) : Calls Try.prog 40 #[.int .i64 x, .int .i64 y] w fun e w' => e = .returned (.bool (holdsB x y)) ∧ w = w' := by
  have hh := holds_iff x y
  have HH := hideP hh
  clear hh
  go_enter Try.func40, Try.ntmps40
  go_wp2
  go_loopg [5] 64 (fun gk v5 wr => ∃ k : Nat, k + gk = 64 ∧ v5 = .int .i64 (k : Int) ∧ (∀ j, j < k → bitAt x j = true → bitAt y j = true) ∧ w = wr)
  case atStart => exact ⟨0, rfl, rfl, fun j hj => absurd hj (by omega), rfl⟩
  case round =>
    obtain ⟨k, hk, rfl, hall, rfl⟩ := hrel
    have HA := hideP hall
    clear hall
    by_cases hlt : k < 64
    · have hX := i64_and1 (x / 2 ^ k)
      have hY := i64_and1 (y / 2 ^ k)
      rcases bit_cases x k with ⟨bx, ex⟩ | ⟨bx, ex⟩ <;> rcases bit_cases y k with ⟨by_, ey⟩ | ⟨by_, ey⟩
      all_goals
        rw [ex] at hX
        rw [ey] at hY
        have HBX := hideP bx
        have HBY := hideP by_
        clear ex ey bx by_
        go_wp2
      · go_roundg (64 - (k + 1))
        case measure => omega
        case rel =>
          refine ⟨k + 1, by omega, by go_num, fun j hj hb => ?_, rfl⟩
          rcases (by omega : j < k ∨ j = k) with h | rfl
          · exact HA.out j h hb
          · exact HBY.out
      · go_ret
        refine ⟨lret_bool ?_, rfl⟩
        cases h : holdsB x y
        · rfl
        · have := HH.out.1 h k hlt HBX.out
          rw [HBY.out] at this
          cases this
      · go_roundg (64 - (k + 1))
        case measure => omega
        case rel =>
          refine ⟨k + 1, by omega, by go_num, fun j hj hb => ?_, rfl⟩
          rcases (by omega : j < k ∨ j = k) with h | rfl
          · exact HA.out j h hb
          · exact HBY.out
      · go_roundg (64 - (k + 1))
        case measure => omega
        case rel =>
          refine ⟨k + 1, by omega, by go_num, fun j hj hb => ?_, rfl⟩
          rcases (by omega : j < k ∨ j = k) with h | rfl
          · exact HA.out j h hb
          · rw [HBX.out] at hb; cases hb
    · have hk64 : k = 64 := by omega
      subst hk64
      go_wp2
      go_ret
      refine ⟨lret_bool ?_, rfl⟩
      exact (HH.out.2 (fun j hj hb => HA.out j hj hb)).symm

end Go.Proofs.Ytlaofcgllchedaa

/-
  The document's run of a program, in plain words: a visit, a place, a search. No memory.
-/
namespace Go.Proofs.Ytlaofcgllchedaa
set_option linter.unusedVariables false

/-- is a rune in ranges? -/
def inB (rs : List (Int × Int)) (c : Int) : Bool := rs.any fun x => decide (x.1 ≤ c ∧ c ≤ x.2)
def hasB (rs : List (Int × Int)) (c : Int) : Bool := rightB rs && inB rs c
/-- does the rune at place j stand in ranges? -/
def fitsB (rs : List (Int × Int)) (text : List Int) (j : Nat) : Bool := match text[j]? with | none => false | some c => hasB rs c
/-- what a visit turns: which have been met, the threads of the next place, what is found, how many have been looked at, is the place over? -/
structure VSt where
  met : List Bool
  next : List (Nat × List Int)
  found : Option (List Int × Int)
  steps : Nat
  over : Bool
/-- a visit of an instruction at place j -/
def visitF (is : List PInst) (text : List Int) (j : Nat) : Nat → Nat → List Int → VSt → VSt
  | 0, _, _, s => s
  | f + 1, pc, caps, s =>
    if s.over || s.met.getD pc true then s else
    match is[pc]? with
    | none => s
    | some x =>
      let t : VSt := { s with met := s.met.set pc true, steps := s.steps + 1 }
      if x.op = 2 then visitF is text j f x.y.toNat caps (visitF is text j f x.x.toNat caps t)
      else if x.op = 7 then visitF is text j f x.x.toNat caps t
      else if x.op = 3 then visitF is text j f x.x.toNat (caps.set x.arg.toNat (j : Int)) t
      else if x.op = 4 then if holdsB x.arg (part text j 6) then visitF is text j f x.x.toNat caps t else t
      else if x.op = 1 then if fitsB x.rs text j then { t with next := t.next ++ [(x.x.toNat, caps)] } else t
      else if x.op = 5 then { t with found := some (caps, x.arg), over := true }
      else t
/-- all threads of a place -/
def visitAll (is : List PInst) (text : List Int) (j : Nat) : List (Nat × List Int) → VSt → VSt
  | [], s => s
  | x :: r, s => visitAll is text j r (visitF is text j (is.length + 1) x.1 x.2 s)
/-- one place: the threads, and perhaps a new one behind them -/
def placeF (is : List PInst) (start : Nat) (none : List Int) (text : List Int) (j : Nat) (ours : Bool) (threads : List (Nat × List Int)) (found : Option (List Int × Int)) (steps : Nat) : VSt :=
  let s := visitAll is text j threads { met := List.replicate is.length false, next := [], found := found, steps := steps, over := false }
  if ours then visitF is text j (is.length + 1) start none s else s
/-- the search, place by place -/
def searchF (is : List PInst) (start : Nat) (none : List Int) (text : List Int) (at_ : Nat) (anchored : Bool) : Nat → Nat → List (Nat × List Int) → Option (List Int × Int) → Nat → Option (List Int × Int) × Nat
  | 0, _, _, found, steps => (found, steps)
  | f + 1, j, threads, found, steps =>
    let s := placeF is start none text j (decide (j = at_) || !anchored && found.isNone) threads found steps
    if s.next.isEmpty && (s.found.isSome || anchored) then (s.found, s.steps)
    else searchF is start none text at_ anchored f (j + 1) s.next s.found s.steps
/-- what is found, and Steps -/
def runF (is : List PInst) (start : Nat) (ncaps : Nat) (text : List Int) (at_ : Nat) (anchored : Bool) : Option (List Int × Int) × Nat :=
  searchF is start (List.replicate ncaps (-1)) text at_ anchored (text.length + 1 - at_) at_ [] none 0

theorem visitF_met_len (is : List PInst) (text : List Int) (j : Nat) : ∀ (f pc : Nat) (caps : List Int) (s : VSt), (visitF is text j f pc caps s).met.length = s.met.length
  | 0, pc, caps, s => rfl
  | f + 1, pc, caps, s => by
    rw [visitF]
    split
    · rfl
    · split
      · rfl
      · simp only
        split
        · rw [visitF_met_len, visitF_met_len]; simp
        · split
          · rw [visitF_met_len]; simp
          · split
            · rw [visitF_met_len]; simp
            · split
              · split
                · rw [visitF_met_len]; simp
                · simp
              · split
                · split <;> simp
                · split <;> simp
/-- the unmet grow no more -/
theorem set_count_le (bs : List Bool) (pc : Nat) : (bs.set pc true).count false ≤ bs.count false := by
  by_cases h : pc < bs.length
  · rw [List.count_set h]
    simp
  · rw [List.set_eq_of_length_le (by omega)]
    exact Nat.le_refl _
theorem visitF_unmet (is : List PInst) (text : List Int) (j : Nat) : ∀ (f pc : Nat) (caps : List Int) (s : VSt), (visitF is text j f pc caps s).met.count false ≤ s.met.count false
  | 0, pc, caps, s => Nat.le_refl _
  | f + 1, pc, caps, s => by
    have hs := set_count_le s.met pc
    rw [visitF]
    split
    · exact Nat.le_refl _
    · split
      · exact Nat.le_refl _
      · simp only
        split
        · exact Nat.le_trans (visitF_unmet is text j f _ _ _) (Nat.le_trans (visitF_unmet is text j f _ _ _) hs)
        · split
          · exact Nat.le_trans (visitF_unmet is text j f _ _ _) hs
          · split
            · exact Nat.le_trans (visitF_unmet is text j f _ _ _) hs
            · split
              · split
                · exact Nat.le_trans (visitF_unmet is text j f _ _ _) hs
                · exact hs
              · split
                · split <;> exact hs
                · split <;> exact hs
end Go.Proofs.Ytlaofcgllchedaa
