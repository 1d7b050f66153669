/-
  What code.Load's way through needs: the numbers of what was read, a program of the call's own as instructions, the code behind so many parts.
-/
import Derived.Test.YtdbdokjlcdogiaaDoorLoad15
namespace Go.Proofs.YtdbdokjlcdogiaaDoor
open Go.RowKit
set_option linter.unusedVariables false

/-- what stands behind the first n parts of a sequence -/
def seqAt : Code → Nat → Code
  | c, 0 => c
  | .seq _ b, n + 1 => seqAt b n
  | c, _ + 1 => c

theorem instsF_step (n : Nat) (bs : List Int) : instsF (n + 1) bs = match opF bs with
    | none => none
    | some (x, q) => match instsF n q with
      | none => none
      | some (is, q2) => some (x :: is, q2) := by cases bs <;> rfl

/-! ### the numbers of what was read -/
def Bys (bs : List Int) : Prop := ∀ x ∈ bs, 0 ≤ x ∧ x ≤ 255
theorem numB_in {bs : List Int} {k : Int} {r : List Int} (hb : Bys bs) (h : numB bs = some (k, r)) : 0 ≤ k ∧ k < 268435456 ∧ Bys r ∧ r.length ≤ bs.length := by
  obtain ⟨h1, h2, l, rfl, -⟩ := num_small 4 0 1 true bs k r hb (by omega) (by omega) h
  refine ⟨h1, by omega, fun x hx => hb x (by simp [hx]), by simp⟩
theorem in64_small {k : Int} (h0 : 0 ≤ k) (h1 : k < 268435456) : In64 k := by unfold In64; omega
theorem rangesF_in : ∀ (n : Nat) (bs : List Int) (rs : List (Int × Int)) (r : List Int), Bys bs → rangesF n bs = some (rs, r) → In64s rs ∧ rs.length = n ∧ Bys r
  | 0, bs, rs, r, hb, h => by
    unfold rangesF at h
    injection h with h
    injection h with h1 h2
    subst h1 h2
    exact ⟨fun x hx => by simp at hx, rfl, hb⟩
  | n + 1, bs, rs, r, hb, h => by
    rw [rangesF_more] at h
    cases h1 : numB bs with
    | none => rw [h1] at h; cases h
    | some a =>
      obtain ⟨lo, r1⟩ := a
      rw [h1] at h
      simp only at h
      obtain ⟨a1, a2, a3, -⟩ := numB_in hb h1
      cases h2 : numB r1 with
      | none => rw [h2] at h; cases h
      | some b =>
        obtain ⟨hi, r2⟩ := b
        rw [h2] at h
        simp only at h
        obtain ⟨b1, b2, b3, -⟩ := numB_in a3 h2
        cases h3 : rangesF n r2 with
        | none => rw [h3] at h; cases h
        | some c =>
          obtain ⟨rs', r3⟩ := c
          rw [h3] at h
          simp only at h
          injection h with h
          injection h with e1 e2
          obtain ⟨c1, c2, c3⟩ := rangesF_in n r2 rs' r3 b3 h3
          subst e1 e2
          refine ⟨fun x hx => ?_, by simp [c2], c3⟩
          rcases List.mem_cons.1 hx with rfl | hx
          · exact ⟨in64_small a1 a2, in64_small b1 b2⟩
          · exact c1 x hx
/-- an instruction whose numbers are an int's -/
def NumI (x : PInst) : Prop := In64I x ∧ In64s x.rs ∧ x.rs.length ≤ 140737488355328
theorem in64_0 : In64 0 := by unfold In64; omega
theorem numI_of {op a b c : Int} (ho : In64 op) (ha : In64 a) (hb : In64 b) (hc : In64 c) : NumI ⟨op, a, b, c, []⟩ := ⟨⟨ho, ha, hb, hc⟩, fun x hx => by simp at hx, by simp⟩
theorem fieldsB_in {op : Int} {bs : List Int} {x : PInst} {q : List Int} (hb : Bys bs) (hl : bs.length ≤ 8388608) (h : fieldsB op bs = some (x, q)) : NumI x := by
  unfold fieldsB at h
  have s0 := in64_0
  have i1 : In64 1 := by unfold In64; omega
  have i2 : In64 2 := by unfold In64; omega
  have i5 : In64 5 := by unfold In64; omega
  have i6 : In64 6 := by unfold In64; omega
  have i7 : In64 7 := by unfold In64; omega
  split at h
  · cases h1 : numB bs with
    | none => rw [h1] at h; cases h
    | some a =>
      obtain ⟨k, r⟩ := a
      rw [h1] at h
      simp only at h
      obtain ⟨a1, a2, a3, a4⟩ := numB_in hb h1
      cases h2 : numB r with
      | none => rw [h2] at h; cases h
      | some b =>
        obtain ⟨m, r2⟩ := b
        rw [h2] at h
        simp only at h
        obtain ⟨b1, b2, b3, b4⟩ := numB_in a3 h2
        split at h
        · cases h3 : rangesF m.toNat r2 with
          | none => rw [h3] at h; cases h
          | some c =>
            obtain ⟨rs, r3⟩ := c
            rw [h3] at h
            simp only at h
            injection h with h
            injection h with e1 e2
            obtain ⟨c1, c2, c3⟩ := rangesF_in _ _ _ _ b3 h3
            subst e1
            exact ⟨⟨i1, in64_small a1 a2, s0, s0⟩, c1, by show rs.length ≤ _; omega⟩
        · cases h
  split at h
  · cases h1 : numB bs with
    | none => rw [h1] at h; cases h
    | some a =>
      obtain ⟨k, r⟩ := a
      rw [h1] at h
      simp only at h
      obtain ⟨a1, a2, a3, a4⟩ := numB_in hb h1
      cases h2 : numB r with
      | none => rw [h2] at h; cases h
      | some b =>
        obtain ⟨m, r2⟩ := b
        rw [h2] at h
        simp only at h
        obtain ⟨b1, b2, b3, b4⟩ := numB_in a3 h2
        injection h with h
        injection h with e1 e2
        subst e1
        exact numI_of i2 (in64_small a1 a2) (in64_small b1 b2) s0
  split at h
  · rename_i hop
    cases h1 : numB bs with
    | none => rw [h1] at h; cases h
    | some a =>
      obtain ⟨k, r⟩ := a
      rw [h1] at h
      simp only at h
      obtain ⟨a1, a2, a3, a4⟩ := numB_in hb h1
      cases h2 : numB r with
      | none => rw [h2] at h; cases h
      | some b =>
        obtain ⟨m, r2⟩ := b
        rw [h2] at h
        simp only at h
        obtain ⟨b1, b2, b3, b4⟩ := numB_in a3 h2
        injection h with h
        injection h with e1 e2
        subst e1
        exact numI_of (by unfold In64; omega) (in64_small b1 b2) s0 (in64_small a1 a2)
  split at h
  · cases h1 : numB bs with
    | none => rw [h1] at h; cases h
    | some a =>
      obtain ⟨k, r⟩ := a
      rw [h1] at h
      simp only at h
      obtain ⟨a1, a2, a3, a4⟩ := numB_in hb h1
      injection h with h
      injection h with e1 e2
      subst e1
      exact numI_of i7 (in64_small a1 a2) s0 s0
  split at h
  · cases h1 : numB bs with
    | none => rw [h1] at h; cases h
    | some a =>
      obtain ⟨k, r⟩ := a
      rw [h1] at h
      simp only at h
      obtain ⟨a1, a2, a3, a4⟩ := numB_in hb h1
      injection h with h
      injection h with e1 e2
      subst e1
      exact numI_of i5 s0 s0 (in64_small a1 a2)
  split at h
  · injection h with h
    injection h with e1 e2
    subst e1
    exact numI_of i6 s0 s0 s0
  · cases h
theorem opF_in {bs : List Int} {x : PInst} {q : List Int} (hb : Bys bs) (hl : bs.length ≤ 8388608) (h : opF bs = some (x, q)) : NumI x := by
  cases bs with
  | nil => cases h
  | cons op r => exact fieldsB_in (fun y hy => hb y (by simp [hy])) (by simp at hl; omega) h

/-! ### a program of the call's own -/
theorem ProgW.base_ {w : World} {base base' : Nat} {A : Option Addr} {c : Nat} {is : List PInst} {gs : List (Option Addr × Nat)} (h : ProgW w base A c is gs) (hb : base' ≤ base) : ProgW w base' A c is gs :=
  ⟨h.len, own_base h.row (fun g hg => Nat.le_trans hb (own_lo h.row hg)), fun i x B cc hx hg => own_base (h.own i x B cc hx hg) (fun g hk => Nat.le_trans hb (own_lo (h.own i x B cc hx hg) hk)), h.apart⟩
theorem ProgW.none_ (w : World) (base : Nat) : ProgW w base none 0 [] [] := ⟨rfl, World.ownsRow_nil _ _ _ _, fun i x B cc hx => by simp at hx, fun i j B B' cc cc' b hg => by simp at hg⟩
theorem flatI_at : ∀ (is : List PInst) (gs : List (Option Addr × Nat)) (i : Nat) (x : PInst) (B : Option Addr) (cc : Nat), is[i]? = some x → gs[i]? = some (B, cc) → ∀ (j : Nat) (v : Value), (instCells x B x.rs.length cc)[j]? = some v → (flatI is gs)[i * 5 + j]? = some v
  | [], gs, i, x, B, cc, hx, hg, j, v, hv => by simp at hx
  | y :: is, [], i, x, B, cc, hx, hg, j, v, hv => by simp at hg
  | y :: is, (B', c') :: gs, 0, x, B, cc, hx, hg, j, v, hv => by
    simp only [List.getElem?_cons_zero, Option.some.injEq, Prod.mk.injEq] at hx hg
    obtain ⟨rfl, rfl⟩ := hg
    subst hx
    have hj : j < 5 := (Array.getElem?_eq_some_iff.1 hv).1
    unfold flatI
    rw [List.getElem?_append_left (by simp [instCells]; omega)]
    simpa using hv
  | y :: is, (B', c') :: gs, i + 1, x, B, cc, hx, hg, j, v, hv => by
    simp only [List.getElem?_cons_succ] at hx hg
    unfold flatI
    rw [List.getElem?_append_right (by simp [instCells]; omega)]
    have := flatI_at is gs i x B cc hx hg j v hv
    rw [← this]
    congr 1
    simp [instCells]
    omega
theorem ProgW.insts {w : World} {base : Nat} {A : Option Addr} {c : Nat} {is : List PInst} {gs : List (Option Addr × Nat)} (h : ProgW w base A c is gs) (hn : ∀ x ∈ is, NumI x) : InstsR w (fun b => base ≤ b) A is.length is := by
  refine ⟨rfl, fun i x hx => ?_⟩
  have hi := (List.getElem?_eq_some_iff.1 hx).1
  obtain ⟨B, cc, hg⟩ : ∃ B cc, gs[i]? = some (B, cc) := ⟨_, _, List.getElem?_eq_getElem (by rw [h.len]; exact hi)⟩
  obtain ⟨g, cap, hv, hb, hl⟩ := h.row.form (by omega)
  obtain ⟨rfl, -, rfl⟩ : A = some ⟨g, 0, none⟩ ∧ is.length = is.length ∧ c = cap := by injection hv with a b c; exact ⟨a, b, c⟩
  obtain ⟨ad, e, -, -, hc⟩ := (Reads.of_own h.row).2 (by omega)
  injection e with e
  subst e
  have ho := h.own i x B cc hx hg
  have hN := hn x (List.mem_of_getElem? hx)
  refine ⟨_, g, i * 5, B, x.rs.length, cc, rfl, by rw [add_lit_, Nat.zero_add], hb, hl, ⟨(Reads.of_own ho).weaken (fun b hb2 => own_lo ho hb2), hN.2.1, hN.2.2⟩, hN.1, fun j v hv => ?_⟩
  have := hc (i * 5 + j) v (flatI_at is gs i x B cc hx hg j v hv)
  rwa [add_lit_, Nat.zero_add] at this
theorem reads_drop {w : World} {S : Nat → Prop} {ad : Addr} {n k : Nat} {bs : List Int} (h : Reads w S 1 (some ad) n (bytv bs)) (hk : k ≤ n) : Reads w S 1 (some (ad.add k)) (n - k) (bytv (bs.drop k)) := by
  have hl : bs.length = n := by have := h.1; simpa [bytv] using this
  refine ⟨by simp [bytv]; omega, fun hp => ?_⟩
  obtain ⟨ad', e, hb, hs, hc⟩ := h.2 (by omega)
  injection e with e
  subst e
  refine ⟨_, rfl, by rw [add_block]; exact hb, by rw [add_block]; exact hs, fun j u hu => ?_⟩
  rw [add_add_]
  exact hc _ u (by simpa [bytv, List.getElem?_drop] using hu)
/-- four stores of the results -/
theorem upd_four (w : World) (pb eb : Nat) (v0 v1 v2 v3 : Value) : Upd (fun b => b = pb ∨ b = eb) w ((((w.setCell ⟨pb, 0, none⟩ v0).setCell ⟨pb, 1, none⟩ v1).setCell ⟨pb, 2, none⟩ v2).setCell ⟨eb, 0, none⟩ v3) :=
  ((((Upd.refl (fun b => b = pb ∨ b = eb) w).setCell ⟨pb, 0, none⟩ v0 (fun _ => .inl rfl)).setCell ⟨pb, 1, none⟩ v1 (fun _ => .inl rfl)).setCell ⟨pb, 2, none⟩ v2 (fun _ => .inl rfl)).setCell ⟨eb, 0, none⟩ v3 (fun _ => .inr rfl)
/-- the check, each way -/
theorem check_yes {w : World} {base : Nat} {A : Option Addr} {c : Nat} {is : List PInst} {gs : List (Option Addr × Nat)} {start caps : Int} (h : ProgW w base A c is gs) (hn : ∀ x ∈ is, NumI x) (hs : In64 start) (hc : In64 caps) (hl : is.length ≤ 20000) (hb : checkB is start caps = true) :
    Calls Tryd.prog 37 #[.agg #[.slice A is.length c, .int .i64 start, .int .i64 caps]] w fun e w' => e = .returned (.int .i64 0) ∧ Upd Nob w w' :=
  (check_any w _ A is.length c is start caps (h.insts hn) hs hc (by omega)).mono (fun e w' h => by rw [hb] at h; exact h)
theorem check_not {w : World} {base : Nat} {A : Option Addr} {c : Nat} {is : List PInst} {gs : List (Option Addr × Nat)} {start caps : Int} (h : ProgW w base A c is gs) (hn : ∀ x ∈ is, NumI x) (hs : In64 start) (hc : In64 caps) (hl : is.length ≤ 20000) (hb : ¬ checkB is start caps = true) :
    Calls Tryd.prog 37 #[.agg #[.slice A is.length c, .int .i64 start, .int .i64 caps]] w fun e w' => e = .returned (.int .i64 90) ∧ Upd Nob w w' :=
  (check_any w _ A is.length c is start caps (h.insts hn) hs hc (by omega)).mono (fun e w' h => by rw [(Bool.not_eq_true _).mp hb] at h; exact h)
end Go.Proofs.YtdbdokjlcdogiaaDoor
