/-
  LoadP, Given, LoadA, put together.
-/
import Derived.Test.YtdbdokjlcdogiaaDoorZFieldsL
import Derived.Test.YtdbdokjlcdogiaaDoorZ07BytesP
import Derived.Test.YtdbdokjlcdogiaaDoorZ00Need
import Derived.Defers
import Derived.Recover
import Derived.Test.YtdbdokjlcdogiaaDoorZ05Held

/-
  What bytes are: the plain function of code.Load.
-/
namespace Go.Proofs.YtdbdokjlcdogiaaDoor
open Go.RowKit
set_option linter.unusedVariables false

/-- so many instructions -/
def instsF : Nat → List Int → Option (List PInst × List Int)
  | 0, bs => some ([], bs)
  | _ + 1, [] => none
  | n + 1, op :: r => match fieldsB op r with
    | none => none
    | some (x, q) => match instsF n q with
      | none => none
      | some (is, q2) => some (x :: is, q2)
/-- the bytes behind the head -/
def bodyB (bs : List Int) : Option (List PInst × Int × Int) := match numB bs with
  | none => none
  | some (caps, r) => match numB r with
    | none => none
    | some (start, r2) => match numB r2 with
      | none => none
      | some (n, r3) => if n ≤ 20000 then (match instsF n.toNat r3 with
        | none => none
        | some (is, q) => if q = [] ∧ checkB is start caps = true then some (is, start, caps) else none) else none
/-- the number that four bytes are -/
def four (t : List Int) : Int := match t with
  | [a, b, c, d] => a + 256 * b + 65536 * c + 16777216 * d
  | _ => -1
/-- P10.3 -/
def loadB (bs : List Int) : Option (List PInst × Int × Int) :=
  if 8 ≤ bs.length ∧ bs.take 4 = [72, 82, 80, 71] ∧ sumV (bs.take (bs.length - 4)) = four (bs.drop (bs.length - 4)) then bodyB ((bs.take (bs.length - 4)).drop 4) else none
end Go.Proofs.YtdbdokjlcdogiaaDoor

/-
  The walks of code.given, and of the deferred closures of code.Load and code.Read.
-/
namespace Go.Proofs.YtdbdokjlcdogiaaDoor
open Go.RowKit
set_option linter.unusedVariables false

theorem given_nil (w : World) : Calls Tryd.prog 30 #[Value.nilIface] w fun e w' => e = .returned (.bool false) ∧ w' = w := by
  go_enter Tryd.func30, Tryd.ntmps30
  go_wp2_with fail
  go_ret
  exact ⟨rfl, rfl⟩
theorem given_assert (w : World) : (Instr.typeAssert (.iface 86 (.agg #[])) 20 86 true).run Tryd.prog w = .ok (.tuple #[.agg #[], .bool true]) w := by kernel_rfl
set_option maxRecDepth 100000 in
theorem given_broken (w : World) : Calls Tryd.prog 30 #[.iface 86 (.agg #[])] w fun e w' => e = .returned (.bool true) ∧ Upd Nob w w' := by
  have hta := given_assert
  go_enter Tryd.func30, Tryd.ntmps30
  go_wp2_with fail
  go_ret
  exact ⟨rfl, (Upd.refl Nob w).alloc _⟩
/-- the panic, caught -/
def caughtP : List PanicEntry := [{ v := .iface 86 (.agg #[]), recovered := true }]
/-- what the closure lays where something was no program's -/
def laidW (w : World) (pb eb : Nat) (code : Int) : World := (((w.setCell ⟨pb, 0, none⟩ (.slice none 0 0)).setCell ⟨pb, 1, none⟩ (.int .i64 0)).setCell ⟨pb, 2, none⟩ (.int .i64 0)).setCell ⟨eb, 0, none⟩ (.int .i64 code)
set_option maxRecDepth 100000 in
theorem load_catch (pb eb : Nat) (v0 v1 v2 v3 : Value) (w : World) (hp : Cells w pb 24 #[v0, v1, v2]) (he : Cells w eb 31 #[v3]) (hne : pb ≠ eb) :
    CallsD Tryd.prog 29 #[.pointer (some ⟨pb, 0, none⟩), .pointer (some ⟨eb, 0, none⟩)] (.panicking brokenP) w fun e u' w' =>
      e = .returned (.tuple #[]) ∧ u' = .panicking caughtP ∧ ∃ w1, Upd Nob w w1 ∧ w' = laidW w1 pb eb 101 := by
  unfold brokenP
  refine callsD_of_wpS Tryd.func29 rfl fun c₀ cs hu => ?_
  apply wpS_seq
  apply wpS_region
  simp [wpOpsS, go_sem, recoverD, hu, Tryd.ntmps29, Exit.thenS]
  refine (given_broken w).mono ?_
  rintro e w1 ⟨rfl, hU⟩
  simp only
  have hp1 := hp.upd hU not_nob
  have he1 := he.upd hU not_nob
  have c0 := hp1.cellv (i := 0) rfl
  have c1 := hp1.cellv (i := 1) rfl
  have c2 := hp1.cellv (i := 2) rfl
  have c3 := he1.cellv (i := 0) rfl
  have f0 := hp1.frozen 0
  have f1 := hp1.frozen 1
  have f2 := hp1.frozen 2
  have f3 := he1.frozen 0
  refine wpS_cond (t := true) (by simp [Act.eval, Array.replicate]) ?_
  simp only [if_true]
  apply wpS_region
  simp [wpOpsS, go_sem, c0, c1, c2, c3, f0, f1, f2, f3, bodyPostS, results, Tryd.results29]
  exact ⟨rfl, w1, hU, rfl⟩
theorem load_idle (pb eb : Nat) (w : World) :
    CallsD Tryd.prog 29 #[.pointer (some ⟨pb, 0, none⟩), .pointer (some ⟨eb, 0, none⟩)] .returning w fun e u' w' =>
      e = .returned (.tuple #[]) ∧ u' = .returning ∧ w' = w := by
  refine callsD_of_wpS Tryd.func29 rfl fun c₀ cs hu => ?_
  apply wpS_seq
  apply wpS_region
  simp [wpOpsS, go_sem, recoverD, hu, Tryd.ntmps29, Exit.thenS]
  refine (given_nil w).mono ?_
  rintro e w1 ⟨rfl, rfl⟩
  simp only
  refine wpS_cond (t := false) (by simp [Act.eval, Array.replicate]) ?_
  simp only [Bool.false_eq_true, if_false]
  refine wpS_of_wp (wp_skip ?_)
  cases c₀
  simp_all [bodyPostS, results, Tryd.results29]
end Go.Proofs.YtdbdokjlcdogiaaDoor

/-
  The ways out of code.Load; programs of a call's own; its bytes' head and tail.
-/
namespace Go.Proofs.YtdbdokjlcdogiaaDoor
open Go.RowKit
set_option linter.unusedVariables false

/-- the frame of a call that has its results in pb and eb, and its closure deferred -/
structure Door (f : Nat) (a : Act) (pb eb : Nat) : Prop where
  p : a.tmps[2]? = some (.pointer (some ⟨pb, 0, none⟩))
  e : a.tmps[3]? = some (.pointer (some ⟨eb, 0, none⟩))
  d : a.defers = [{ target := .fn (.func f) #[.pointer (some ⟨pb, 0, none⟩), .pointer (some ⟨eb, 0, none⟩)], args := #[] }]
theorem Door.put {f : Nat} {a : Act} {pb eb : Nat} {o : Option Nat} {v : Value} (h : Door f (a.put o v) pb eb) (h2 : o ≠ some 2) (h3 : o ≠ some 3) : Door f a pb eb := by
  cases o with
  | none => exact h
  | some d =>
    refine ⟨?_, ?_, h.d⟩
    · have := h.p
      simp only [Act.put, Array.getElem?_setIfInBounds] at this
      rwa [if_neg (fun e => h2 (by rw [e]))] at this
    · have := h.e
      simp only [Act.put, Array.getElem?_setIfInBounds] at this
      rwa [if_neg (fun e => h3 (by rw [e]))] at this
theorem load_res (a : Act) (pb eb : Nat) (v0 v1 v2 v3 : Value) (w : World) (hd : Door 29 a pb eb) (hp : Cells w pb 24 #[v0, v1, v2]) (he : Cells w eb 31 #[v3]) :
    (results Tryd.f15 a.tmps).run Tryd.prog w = .ok (.tuple #[.agg #[v0, v1, v2], v3]) w := by
  have c0 := hp.cellv (i := 0) rfl
  have c1 := hp.cellv (i := 1) rfl
  have c2 := hp.cellv (i := 2) rfl
  have c3 := he.cellv (i := 0) rfl
  have h2 := hd.p
  have h3 := hd.e
  simp [results, Tryd.results15, go_sem, c0, c1, c2, c3, h2, h3]
theorem load_no (P : Ending → World → Prop) (a : Act) (pb eb : Nat) (v0 v1 v2 v3 : Value) (w : World) (hd : Door 29 a pb eb) (hp : Cells w pb 24 #[v0, v1, v2]) (he : Cells w eb 31 #[v3]) (hne : pb ≠ eb)
    (hP : ∀ w', Upd (fun b => b = pb ∨ b = eb) w w' → P (.returned (.tuple #[.agg #[.slice none 0 0, .int .i64 0, .int .i64 0], .int .i64 101])) w') :
    bodyPostD Tryd.prog Tryd.f15 P (.panic brokenP) a w := by
  show Leaves Tryd.prog Tryd.f15 a.tmps P a.defers (.panicking brokenP) w
  rw [hd.d]
  refine leaves_cons (f := 29) (args := #[.pointer (some ⟨pb, 0, none⟩), .pointer (some ⟨eb, 0, none⟩)]) (by simp) (by simp [go_sem]) ?_
  refine (load_catch pb eb v0 v1 v2 v3 w hp he hne).mono ?_
  rintro e u' w'' ⟨rfl, rfl, w1, hU, rfl⟩
  have hp1 := hp.upd hU not_nob
  have he1 := he.upd hU not_nob
  have hp2 : Cells (laidW w1 pb eb 101) pb 24 #[.slice none 0 0, .int .i64 0, .int .i64 0] := (((hp1.set_ 0 (.slice none 0 0)).set_ 1 (.int .i64 0)).set_ 2 (.int .i64 0)).far ⟨eb, 0, none⟩ _ hne
  have he2 : Cells (laidW w1 pb eb 101) eb 31 #[.int .i64 101] := (((he1.far ⟨pb, 0, none⟩ (.slice none 0 0) hne.symm).far ⟨pb, 1, none⟩ (.int .i64 0) hne.symm).far ⟨pb, 2, none⟩ (.int .i64 0) hne.symm).set_ 0 (.int .i64 101)
  have hU2 : Upd (fun b => b = pb ∨ b = eb) w (laidW w1 pb eb 101) := ((((hU.mono (G := fun b => b = pb ∨ b = eb) (fun _ _ h => absurd h not_nob)).setCell _ _ (fun _ => .inl rfl)).setCell _ _ (fun _ => .inl rfl)).setCell _ _ (fun _ => .inl rfl)).setCell _ _ (fun _ => .inr rfl)
  exact ⟨_, load_res a pb eb _ _ _ _ _ hd hp2 he2, hP _ hU2⟩
theorem load_yes (P : Ending → World → Prop) (a : Act) (pb eb : Nat) (v0 v1 v2 v3 : Value) (w : World) (hd : Door 29 a pb eb) (hp : Cells w pb 24 #[v0, v1, v2]) (he : Cells w eb 31 #[v3])
    (hP : P (.returned (.tuple #[.agg #[v0, v1, v2], v3])) w) :
    bodyPostD Tryd.prog Tryd.f15 P .ret a w := by
  show Leaves Tryd.prog Tryd.f15 a.tmps P a.defers .returning w
  rw [hd.d]
  refine leaves_cons (f := 29) (args := #[.pointer (some ⟨pb, 0, none⟩), .pointer (some ⟨eb, 0, none⟩)]) (by simp) (by simp [go_sem]) ?_
  refine (load_idle pb eb w).mono ?_
  rintro e u' w'' ⟨rfl, rfl, rfl⟩
  exact ⟨_, load_res a pb eb _ _ _ _ _ hd hp he, hP⟩

/-- the instructions' cells, each with its slice of ranges -/
def flatI : List PInst → List (Option Addr × Nat) → List Value
  | x :: is, (B, c) :: gs => (instCells x B x.rs.length c).toList ++ flatI is gs
  | _, _ => []
/-- a program of the call's own -/
structure ProgW (w : World) (base : Nat) (A : Option Addr) (c : Nat) (is : List PInst) (gs : List (Option Addr × Nat)) : Prop where
  len : gs.length = is.length
  row : w.ownsRow base 48 5 (.slice A is.length c) is.length (flatI is gs)
  own : ∀ (i : Nat) (x : PInst) (B : Option Addr) (cc : Nat), is[i]? = some x → gs[i]? = some (B, cc) → w.ownsRow base 50 2 (.slice B x.rs.length cc) x.rs.length (pairv x.rs)
  apart : ∀ (i j : Nat) (B B' : Option Addr) (cc cc' : Nat) (b : Nat), gs[i]? = some (B, cc) → gs[j]? = some (B', cc') → B.map (·.block) = some b → B'.map (·.block) = some b → i = j
theorem ownBlock_map {B : Option Addr} {n c b : Nat} : (Value.slice B n c).ownBlock = some b ↔ B.map (·.block) = some b := by
  cases B <;> simp [Value.ownBlock]
theorem ProgW.upd {F : Nat → Prop} {w w' : World} {base c : Nat} {A : Option Addr} {is : List PInst} {gs : List (Option Addr × Nat)} (h : ProgW w base A c is gs) (hU : Upd F w w') (hF : ∀ b, base ≤ b → ¬ F b) : ProgW w' base A c is gs :=
  ⟨h.len, own_upd h.row hU (fun b hb => hF b (own_lo h.row hb)), fun i x B cc hx hg => own_upd (h.own i x B cc hx hg) hU (fun b hb => hF b (own_lo (h.own i x B cc hx hg) hb)), h.apart⟩
theorem flatI_len : ∀ (is : List PInst) (gs : List (Option Addr × Nat)), gs.length = is.length → (flatI is gs).length = is.length * 5
  | [], [], _ => rfl
  | x :: is, (B, c) :: gs, h => by
    simp only [flatI, List.length_append, List.length_cons]
    rw [flatI_len is gs (by simpa using h)]
    simp [instCells]
    omega
  | [], _ :: _, h => by simp at h
  | _ :: _, [], h => by simp at h
theorem flatI_append : ∀ (is : List PInst) (gs : List (Option Addr × Nat)) (x : PInst) (B : Option Addr) (c : Nat), gs.length = is.length → flatI (is ++ [x]) (gs ++ [(B, c)]) = flatI is gs ++ (instCells x B x.rs.length c).toList
  | [], [], x, B, c, _ => by simp [flatI]
  | y :: is, (B', c') :: gs, x, B, c, h => by
    simp only [List.cons_append, flatI]
    rw [flatI_append is gs x B c (by simpa using h), List.append_assoc]
  | [], _ :: _, _, _, _, h => by simp at h
  | _ :: _, [], _, _, _, h => by simp at h
/-- one instruction more -/
theorem ProgW.more {w w' : World} {base c cN : Nat} {A : Option Addr} {gN : Nat} {is : List PInst} {gs : List (Option Addr × Nat)} {x : PInst} {B : Option Addr} {cc : Nat} (h : ProgW w base A c is gs)
    (ho : w.ownsRow base 50 2 (.slice B x.rs.length cc) x.rs.length (pairv x.rs)) (hap : ∀ (i : Nat) (B' : Option Addr) (cc' : Nat) (b : Nat), gs[i]? = some (B', cc') → B'.map (·.block) = some b → ¬ B.map (·.block) = some b)
    (oN : w'.ownsRow base 48 5 (.slice (some ⟨gN, 0, none⟩) (is.length + 1) cN) (is.length + 1) (flatI is gs ++ (instCells x B x.rs.length cc).toList)) (gr : w.grownBy w' (Value.slice A is.length c).ownBlock) :
    ProgW w' base (some ⟨gN, 0, none⟩) cN (is ++ [x]) (gs ++ [(B, cc)]) := by
  have UB := (Upd.refl (fun b => (Value.slice A is.length c).ownBlock = some b) w).grown gr (fun b hb _ => hb)
  have keep : ∀ {v : Value} {n : Nat} {xs : List Value}, w.ownsRow base 50 2 v n xs → w'.ownsRow base 50 2 v n xs := fun {v n xs} o => own_upd o UB (fun b hb hb2 => by
    obtain ⟨cur, hc, _⟩ := own_cells h.row hb2
    exact own_ne o hc (by decide) hb)
  refine ⟨by simp [h.len], ?_, fun i y B' cc' hy hg => ?_, fun i j B1 B2 c1 c2 b h1 h2 e1 e2 => ?_⟩
  · rw [flatI_append _ _ _ _ _ h.len, List.length_append]
    exact oN
  · by_cases hi : i < is.length
    · rw [List.getElem?_append_left hi] at hy
      rw [List.getElem?_append_left (by rw [h.len]; exact hi)] at hg
      exact keep (h.own i y B' cc' hy hg)
    · rw [List.getElem?_append_right (by omega)] at hy
      rw [List.getElem?_append_right (by rw [h.len]; omega), h.len] at hg
      have hz : i - is.length = 0 := by
        have := (List.getElem?_eq_some_iff.1 hy).1
        simp at this
        omega
      rw [hz] at hy hg
      simp only [List.getElem?_cons_zero, Option.some.injEq, Prod.mk.injEq] at hy hg
      obtain ⟨rfl, rfl⟩ := hg
      subst hy
      exact keep ho
  · have hlast : ∀ (i : Nat) (B1 : Option Addr) (c1 : Nat), (gs ++ [(B, cc)])[i]? = some (B1, c1) → (gs[i]? = some (B1, c1)) ∨ (i = is.length ∧ B1 = B) := fun i B1 c1 hg => by
      by_cases hi : i < gs.length
      · rw [List.getElem?_append_left hi] at hg
        exact .inl hg
      · rw [List.getElem?_append_right (by omega)] at hg
        have hz : i - gs.length = 0 := by
          have := (List.getElem?_eq_some_iff.1 hg).1
          simp at this
          omega
        rw [hz] at hg
        simp only [List.getElem?_cons_zero, Option.some.injEq, Prod.mk.injEq] at hg
        exact .inr ⟨by rw [← h.len]; omega, hg.1.symm⟩
    rcases hlast i B1 c1 h1 with k1 | ⟨k1, k3⟩ <;> rcases hlast j B2 c2 h2 with k2 | ⟨k2, k4⟩
    · exact h.apart i j B1 B2 c1 c2 b k1 k2 e1 e2
    · exact absurd (k4 ▸ e2) (hap i B1 c1 b k1 e1)
    · exact absurd (k3 ▸ e1) (hap j B2 c2 b k2 e2)
    · omega

/-- the answer of Load -/
def LoadAns (w : World) (R : Option (List PInst × Int × Int)) (no : Int) (e : Ending) (w' : World) : Prop := match R with
  | none => e = .returned (.tuple #[.agg #[.slice none 0 0, .int .i64 0, .int .i64 0], .int .i64 no]) ∧ Upd Nob w w'
  | some (is, start, caps) => ∃ A c gs, e = .returned (.tuple #[.agg #[.slice A is.length c, .int .i64 start, .int .i64 caps], .int .i64 0]) ∧ ProgW w' w.heap.size A c is gs ∧ Upd Nob w w'
def toU (x : Int) : UInt8 := UInt8.ofNat x.toNat
theorem toU_nat {x : Int} (h0 : 0 ≤ x) (h1 : x ≤ 255) : ((toU x).toNat : Int) = x := by
  unfold toU
  rw [UInt8.toNat_ofNat', Nat.mod_eq_of_lt (by omega)]
  omega
theorem reads_take {w : World} {S : Nat → Prop} {A : Option Addr} {n m : Nat} {bs : List Int} (h : Reads w S 1 A n (bytv bs)) (hm : m ≤ n) : Reads w S 1 A m (bytv (bs.take m)) := by
  have hl : bs.length = n := by have := h.1; simpa [bytv] using this
  refine ⟨by simp [bytv]; omega, fun hp => ?_⟩
  obtain ⟨ad, e, hb, hs, hc⟩ := h.2 (by omega)
  refine ⟨ad, e, hb, hs, fun j u hu => hc j u ?_⟩
  simp only [bytv, List.getElem?_map, List.getElem?_take] at hu ⊢
  split at hu
  · exact hu
  · simp at hu
theorem tail_cells {w : World} {S : Nat → Prop} {ad : Addr} {m : Nat} {bs : List Int} (h : Reads w S 1 (some ad) (m + 4) (bytv bs)) (h8 : ∀ x ∈ bs, 0 ≤ x ∧ x ≤ 255) :
    ∃ t0 t1 t2 t3, bs.drop m = [t0, t1, t2, t3] ∧ (w.cell? (ad.add m) = some (.int .u8 t0) ∧ 0 ≤ t0 ∧ t0 ≤ 255) ∧ (w.cell? ⟨(ad.add m).block, (ad.add m).off + 1, none⟩ = some (.int .u8 t1) ∧ 0 ≤ t1 ∧ t1 ≤ 255) ∧
      (w.cell? ⟨(ad.add m).block, (ad.add m).off + 2, none⟩ = some (.int .u8 t2) ∧ 0 ≤ t2 ∧ t2 ≤ 255) ∧ (w.cell? ⟨(ad.add m).block, (ad.add m).off + 3, none⟩ = some (.int .u8 t3) ∧ 0 ≤ t3 ∧ t3 ≤ 255) := by
  have hl : bs.length = m + 4 := by have := h.1; simpa [bytv] using this
  obtain ⟨t0, t1, t2, t3, ht⟩ : ∃ t0 t1 t2 t3, bs.drop m = [t0, t1, t2, t3] := by
    have hd : (bs.drop m).length = 4 := by rw [List.length_drop, hl]; omega
    match hq : bs.drop m, hd with
    | [a, b, c, d], _ => exact ⟨a, b, c, d, rfl⟩
  have hcell : ∀ (j : Nat) (x : Int), [t0, t1, t2, t3][j]? = some x → w.cell? ((ad.add m).add j) = some (.int .u8 x) ∧ 0 ≤ x ∧ x ≤ 255 := fun j x hx => by
    have hb : bs[m + j]? = some x := by rw [← List.getElem?_drop, ht]; exact hx
    obtain ⟨ad', e, _, _, hc2⟩ := h.2 (by omega)
    injection e with e
    subst e
    rw [add_add_]
    exact ⟨hc2 _ _ (by simp [bytv, hb]), h8 x (List.mem_of_getElem? hb)⟩
  have q0 := hcell 0 t0 rfl
  have q1 := hcell 1 t1 rfl
  have q2 := hcell 2 t2 rfl
  have q3 := hcell 3 t3 rfl
  generalize ad.add m = td at *
  rw [show td.add 1 = ⟨td.block, td.off + 1, none⟩ by simp [Addr.add]] at q1
  rw [show td.add 2 = ⟨td.block, td.off + 2, none⟩ by simp [Addr.add]] at q2
  rw [show td.add 3 = ⟨td.block, td.off + 3, none⟩ by simp [Addr.add]] at q3
  rw [show td.add 0 = td by simp [Addr.add]] at q0
  exact ⟨t0, t1, t2, t3, ht, q0, q1, q2, q3⟩
theorem head_conv {w : World} {S : Nat → Prop} {ad : Addr} {n c : Nat} {bs : List Int} (h : Reads w S 1 (some ad) n (bytv bs)) (h8 : ∀ x ∈ bs, 0 ≤ x ∧ x ≤ 255) (hn : 4 ≤ n) :
    (convert 30 9 (.slice (some ad) 4 c)).run Tryd.prog w = .ok (.string ⟨((bs.take 4).map toU).toArray⟩) w := by
  have hl : bs.length = n := by have := h.1; simpa [bytv] using this
  have hl4 : ((bs.take 4).map toU).length = 4 := by simp; omega
  have := run_convert_bytes_back (P := Tryd.prog) w 30 9 5 ad c ((bs.take 4).map toU) Tryd.underlying30 Tryd.underlying5 Tryd.underlying9 (fun j hj => ?_)
  · rw [hl4] at this
    exact this
  · have hj4 : j < 4 := by omega
    obtain ⟨ad', e, _, _, hc⟩ := h.2 (by omega)
    injection e with e
    subst e
    have hb : bs[j]? = some (bs[j]'(by omega)) := List.getElem?_eq_getElem (by omega)
    have h2 := h8 _ (List.mem_of_getElem? hb)
    rw [hc j (.int .u8 (bs[j]'(by omega))) (by simp [bytv])]
    simp [toU_nat h2.1 h2.2]
theorem head_eq (bs : List Int) (h8 : ∀ x ∈ bs, 0 ≤ x ∧ x ≤ 255) : (((⟨((bs.take 4).map toU).toArray⟩ : ByteArray) = ⟨#[72, 82, 80, 71]⟩) ↔ bs.take 4 = [72, 82, 80, 71]) := by
  constructor
  · intro h
    injection h with h
    have h1 := congrArg Array.toList h
    simp only at h1
    have h2 : (bs.take 4).map (fun x => ((toU x).toNat : Int)) = [72, 82, 80, 71] := by
      have := congrArg (List.map (fun u : UInt8 => (u.toNat : Int))) h1
      rw [List.map_map] at this
      exact this
    rw [← h2]
    conv => lhs; rw [← List.map_id (bs.take 4)]
    refine List.map_congr_left fun x hx => ?_
    have := h8 x (List.mem_of_mem_take hx)
    exact (toU_nat this.1 this.2).symm
  · intro h
    rw [h]
    rfl

theorem head_eq' (bs : List Int) (h8 : ∀ x ∈ bs, 0 ≤ x ∧ x ≤ 255) : (List.take 4 (List.map toU bs) = [72, 82, 80, 71]) ↔ bs.take 4 = [72, 82, 80, 71] := by
  rw [← head_eq bs h8, ← List.map_take]
  constructor
  · intro h
    rw [h]
  · intro h
    injection h with h
    have h1 := congrArg Array.toList h
    simpa using h1

/-- the sum, its world left open -/
theorem sum_up (w : World) (S : Nat → Prop) (A : Option Addr) (n c : Nat) (xs : List Int) (hx : Reads w S 1 A n (bytv xs)) (h8 : ∀ x ∈ xs, 0 ≤ x ∧ x ≤ 255) (hn : n ≤ 140737488355328) :
    Calls Tryd.prog 32 #[.slice A n c] w fun e w' => e = .returned (.int .u32 (sumV xs)) ∧ Upd Nob w w' :=
  (sum_any w S A n c xs hx h8 hn).mono (fun e w' h => by obtain ⟨h1, q, rfl⟩ := h; exact ⟨h1, (Upd.refl Nob w).drewN q⟩)
end Go.Proofs.YtdbdokjlcdogiaaDoor
