/-
  heronlaw03.SparseStacks: the walk.
-/
import Derived.Test.YtpfhljcihfabbaaOps
import Derived.StillTailTactics
import Derived.Deep.QuietTactic
import Derived.BigQuiet
import Derived.Test.YtpfhljcihfabbaaBits
import Derived.Test.YtpfhljcihfabbaaTurned
import Derived.Deep.LoopGhost
import Derived.Deep.DeepCutAuto
namespace Go.Proofs.Ytpfhljcihfabbaa
open Go.RowKit
set_option linter.unusedVariables false

/-- a script's cells -/
def stepv (zs : List (Int × Int × Int)) : List Value := zs.flatMap fun z => [.int .i64 z.1, .int .i64 z.2.1, .int .i64 z.2.2]
theorem stepv_len (zs : List (Int × Int × Int)) : (stepv zs).length = zs.length * 3 := by
  induction zs with
  | nil => rfl
  | cons z r ih => simp only [stepv, List.flatMap_cons, List.length_append, List.length_cons, List.length_nil] at ih ⊢; omega
theorem stepv_at : ∀ (zs : List (Int × Int × Int)) (k : Nat) (z : Int × Int × Int), zs[k]? = some z → (stepv zs)[3 * k]? = some (.int .i64 z.1) ∧ (stepv zs)[3 * k + 1]? = some (.int .i64 z.2.1) ∧ (stepv zs)[3 * k + 2]? = some (.int .i64 z.2.2)
  | [], k, z, h => by simp at h
  | y :: r, 0, z, h => by
    have : y = z := by simpa using h
    subst this
    exact ⟨rfl, rfl, rfl⟩
  | y :: r, k + 1, z, h => by
    have := stepv_at r k z (by simpa using h)
    have e : stepv (y :: r) = .int .i64 y.1 :: .int .i64 y.2.1 :: .int .i64 y.2.2 :: stepv r := rfl
    rw [e, show 3 * (k + 1) = 3 * k + 3 by omega, show 3 * k + 3 + 1 = (3 * k + 1) + 3 by omega, show 3 * k + 3 + 2 = (3 * k + 2) + 3 by omega]
    simpa using this

/-- what the six hold: P: number, own list's block, index of the calls that stand in the first stack; L: the second one's numbers -/
def Xs (P : List (Int × Nat × Int)) (L : List Int) : Nat → List Value
  | 0 => intv (P.map (·.1))
  | 1 => intv L
  | 2 => intv (P.map (·.1))
  | 3 => intv L
  | 4 => P.map fun p => .string (txt p.1)
  | _ => P.map fun p => .slice (some ⟨p.2.1, 0, none⟩) 2 2
def Ms (M N : Nat) : Nat → Int
  | 0 => M
  | 1 => N
  | 2 => M
  | 3 => N
  | _ => M
def Ks (P : List (Int × Nat × Int)) (g : Nat) (t : TypeId) (cs : Array Value) : Prop := ∃ p ∈ P, p.2.1 = g ∧ t = 3 ∧ cs = #[.int .i64 p.1, .int .i64 p.2.2]

/-- a place of a slice of three-celled things -/
theorem add_three {w : World} {ad : Addr} {k : Nat} {u v x : Value} (h0 : w.cell? (ad.add (3 * k)) = some u) (h1 : w.cell? (ad.add (3 * k + 1)) = some v) (h2 : w.cell? (ad.add (3 * k + 2)) = some x) :
    ∃ g o, ad.add (k * 3) = ⟨g, o, none⟩ ∧ w.cell? ⟨g, o, none⟩ = some u ∧ w.cell? ⟨g, o + 1, none⟩ = some v ∧ w.cell? ⟨g, o + 2, none⟩ = some x := by
  have e : ad.add (3 * k) = ⟨(ad.add (3 * k)).block, (ad.add (3 * k)).off, none⟩ := by
    have hs := World.cell?_spot h0
    generalize ad.add (3 * k) = a at hs
    cases a
    simp_all
  refine ⟨_, _, by rw [Nat.mul_comm]; exact e, by rw [← e]; exact h0, ?_, ?_⟩
  · rw [← h1, ← add_add_, e, add_lit_]
  · rw [← h2, ← add_add_, e, add_lit_]

def bkf (b : Nat) : Nat → Nat
  | 0 => b
  | 1 => b + 1
  | 2 => b + 1 + 1
  | _ => b + 1 + 1 + 1
/-- between two calls: how many calls of the script have been -/
structure Inv (w : World) (b : Nat) (wr : World) (k : Nat) (P : List (Int × Nat × Int)) (L : List Int) (M N : Nat) : Prop where
  p : P.length ≤ k
  l : L.length ≤ k
  m : M ≤ k
  n : N ≤ k
  st : St wr w.heap.size (bkf b) (Xs P L) (Ms M N) (Ks P)
  upd : Upd Nob w wr

def world0 (w1 : World) : World := (((w1.alloc (.cells #[.slice none 0 0, .int .i64 0, .slice none 0 0, .int .i64 0] 32)).alloc (.cells #[.slice none 0 0, .int .i64 0, .slice none 0 0, .int .i64 0] 35)).alloc (.cells #[.slice none 0 0, .int .i64 0] 38)).alloc (.cells #[.slice none 0 0, .int .i64 0] 41)
theorem inv_start {w w1 : World} (hU : Upd Nob w w1) : Inv w w1.heap.size (world0 w1) 0 [] [] 0 0 where
  p := Nat.le_refl _
  l := Nat.le_refl _
  m := Nat.le_refl _
  n := Nat.le_refl _
  upd := (((hU.alloc _).alloc _).alloc _).alloc _
  st := by
    have hX : ∀ i, Xs [] [] i = [] := by intro i; unfold Xs; split <;> rfl
    have hM : ∀ i, Ms 0 0 i = 0 := by intro i; unfold Ms; split <;> rfl
    refine ⟨(fun j => if j < 2 then #[.slice none 0 0, .int .i64 0, .slice none 0 0, .int .i64 0] else #[.slice none 0 0, .int .i64 0]), (fun _ => none), (fun _ => 0), ?_⟩
    constructor
    · intro j hj
      rcases (by omega : j = 0 ∨ j = 1 ∨ j = 2 ∨ j = 3) with rfl | rfl | rfl | rfl
      · exact (((Cells.new w1 _ _).alloc _).alloc _).alloc _
      · have h := Cells.new (w1.alloc (.cells #[.slice none 0 0, .int .i64 0, .slice none 0 0, .int .i64 0] 32)) 35 #[.slice none 0 0, .int .i64 0, .slice none 0 0, .int .i64 0]
        simp only [World.size_alloc] at h
        exact (h.alloc _).alloc _
      · have h := Cells.new ((w1.alloc (.cells #[.slice none 0 0, .int .i64 0, .slice none 0 0, .int .i64 0] 32)).alloc (.cells #[.slice none 0 0, .int .i64 0, .slice none 0 0, .int .i64 0] 35)) 38 #[.slice none 0 0, .int .i64 0]
        simp only [World.size_alloc] at h
        exact h.alloc _
      · have h := Cells.new (((w1.alloc (.cells #[.slice none 0 0, .int .i64 0, .slice none 0 0, .int .i64 0] 32)).alloc (.cells #[.slice none 0 0, .int .i64 0, .slice none 0 0, .int .i64 0] 35)).alloc (.cells #[.slice none 0 0, .int .i64 0] 38)) 41 #[.slice none 0 0, .int .i64 0]
        simp only [World.size_alloc] at h
        exact h
    · intro j hj
      have := hU.size
      rcases (by omega : j = 0 ∨ j = 1 ∨ j = 2 ∨ j = 3) with rfl | rfl | rfl | rfl <;> simp only [bkf] <;> omega
    · intro i hi
      rw [hX]
      rcases (by omega : i = 0 ∨ i = 1 ∨ i = 2 ∨ i = 3 ∨ i = 4 ∨ i = 5) with rfl | rfl | rfl | rfl | rfl | rfl <;> rfl
    · intro i hi
      rw [hM]
      rcases (by omega : i = 0 ∨ i = 1 ∨ i = 2 ∨ i = 3 ∨ i = 4 ∨ i = 5) with rfl | rfl | rfl | rfl | rfl | rfl <;> rfl
    · intro i hi
      rw [hX]
      exact World.ownsRow_nil _ _ _ _
    · intro i j hi hj hij k hk
      rw [hX] at hk
      cases hk
    · intro g t cs hk
      obtain ⟨p, hp, _⟩ := hk
      cases hp

theorem up_max (M n : Nat) : up (M : Int) n = ((max M (n + 1) : Nat) : Int) := by unfold up; split <;> omega
theorem push_inv {w : World} {base b g M N : Nat} {P : List (Int × Nat × Int)} {L : List Int} {x : Int} {K : Nat → TypeId → Array Value → Prop} {kk : Int}
    (h : St w base (bkf b) (fset (fset (fset (fset (Xs P L) 0 (Xs P L 0 ++ [.int .i64 x])) 2 (Xs P L 2 ++ [.int .i64 x])) 4 (Xs P L 4 ++ [.string (txt x)])) 5 (Xs P L 5 ++ [.slice (some ⟨g, 0, none⟩) 2 2]))
      (fset (fset (fset (fset (Ms M N) 0 (up (M : Int) (Xs P L 0).length)) 2 (up (M : Int) (Xs P L 2).length)) 4 (up (M : Int) (Xs P L 4).length)) 5 (up (M : Int) (Xs P L 5).length))
      (fun g' t' cs' => (Ks P g' t' cs' ∨ K g' t' cs') ∨ (g' = g ∧ t' = 3 ∧ cs' = #[.int .i64 x, .int .i64 kk]))) :
    St w base (bkf b) (Xs (P ++ [(x, g, kk)]) L) (Ms (max M (P.length + 1)) N) (Ks (P ++ [(x, g, kk)])) := by
  refine h.congr ?_ ?_ ?_
  · intro i hi
    rcases (by omega : i = 0 ∨ i = 1 ∨ i = 2 ∨ i = 3 ∨ i = 4 ∨ i = 5) with rfl | rfl | rfl | rfl | rfl | rfl <;> simp [fset, Xs, intv]
  · intro i hi
    have l0 : (Xs P L 0).length = P.length := by simp [Xs, intv]
    have l2 : (Xs P L 2).length = P.length := by simp [Xs, intv]
    have l4 : (Xs P L 4).length = P.length := by simp [Xs]
    have l5 : (Xs P L 5).length = P.length := by simp [Xs]
    rw [l0, l2, l4, l5, up_max]
    rcases (by omega : i = 0 ∨ i = 1 ∨ i = 2 ∨ i = 3 ∨ i = 4 ∨ i = 5) with rfl | rfl | rfl | rfl | rfl | rfl <;> simp [fset, Ms]
  · rintro g' t' cs' ⟨p, hp, h1, h2, h3⟩
    rw [List.mem_append] at hp
    rcases hp with hp | hp
    · exact .inl (.inl ⟨p, hp, h1, h2, h3⟩)
    · have : p = (x, g, kk) := by simpa using hp
      subst this
      exact .inr ⟨h1.symm, h2, h3⟩

theorem six {p : Nat → Prop} (h0 : p 0) (h1 : p 1) (h2 : p 2) (h3 : p 3) (h4 : p 4) (h5 : p 5) : ∀ i, i < 6 → p i := by
  intro i hi
  rcases (by omega : i = 0 ∨ i = 1 ∨ i = 2 ∨ i = 3 ∨ i = 4 ∨ i = 5) with rfl | rfl | rfl | rfl | rfl | rfl <;> assumption
theorem push_inv1 {w : World} {base b M N : Nat} {P : List (Int × Nat × Int)} {L : List Int} {x : Int} {K : Nat → TypeId → Array Value → Prop}
    (h : St w base (bkf b) (fset (fset (Xs P L) 1 (Xs P L 1 ++ [.int .i64 x])) 3 (Xs P L 3 ++ [.int .i64 x]))
      (fset (fset (Ms M N) 1 (up (N : Int) (Xs P L 1).length)) 3 (up (N : Int) (Xs P L 3).length)) (fun g' t' cs' => Ks P g' t' cs' ∨ K g' t' cs')) :
    St w base (bkf b) (Xs P (L ++ [x])) (Ms M (max N (L.length + 1))) (Ks P) := by
  have l1 : (Xs P L 1).length = L.length := by simp [Xs, intv]
  have l3 : (Xs P L 3).length = L.length := by simp [Xs, intv]
  rw [l1, l3, up_max] at h
  exact h.congr (six (by simp [fset, Xs, intv]) (by simp [fset, Xs, intv]) (by simp [fset, Xs, intv]) (by simp [fset, Xs, intv]) (by simp [fset, Xs]) (by simp [fset, Xs]))
    (six (by simp [fset, Ms]) (by simp [fset, Ms]) (by simp [fset, Ms]) (by simp [fset, Ms]) (by simp [fset, Ms]) (by simp [fset, Ms])) (fun _ _ _ h => .inl h)
theorem pop_inv {w : World} {base b M N : Nat} {P : List (Int × Nat × Int)} {p : Int × Nat × Int} {L : List Int} {K : Nat → TypeId → Array Value → Prop}
    (h : St w base (bkf b) (fset (fset (fset (fset (Xs (P ++ [p]) L) 0 (intv (P.map (·.1)))) 2 (intv (P.map (·.1)))) 4 (P.map fun p => .string (txt p.1))) 5 (P.map fun p => .slice (some ⟨p.2.1, 0, none⟩) 2 2))
      (fset (fset (fset (fset (Ms M N) 0 (M : Int)) 2 (M : Int)) 4 (M : Int)) 5 (M : Int)) (fun g' t' cs' => Ks (P ++ [p]) g' t' cs' ∨ K g' t' cs')) :
    St w base (bkf b) (Xs P L) (Ms M N) (Ks P) := by
  refine h.congr (six (by simp [fset, Xs, intv]) (by simp [fset, Xs, intv]) (by simp [fset, Xs, intv]) (by simp [fset, Xs, intv]) (by simp [fset, Xs]) (by simp [fset, Xs]))
    (six (by simp [fset, Ms]) (by simp [fset, Ms]) (by simp [fset, Ms]) (by simp [fset, Ms]) (by simp [fset, Ms]) (by simp [fset, Ms])) ?_
  rintro g' t' cs' ⟨p', hp, h1, h2, h3⟩
  exact .inl ⟨p', by simp [hp], h1, h2, h3⟩
theorem pop_inv1 {w : World} {base b M N : Nat} {P : List (Int × Nat × Int)} {p : Int} {L : List Int} {K : Nat → TypeId → Array Value → Prop}
    (h : St w base (bkf b) (fset (fset (Xs P (L ++ [p])) 1 (intv L)) 3 (intv L)) (fset (fset (Ms M N) 1 (N : Int)) 3 (N : Int)) (fun g' t' cs' => Ks P g' t' cs' ∨ K g' t' cs')) :
    St w base (bkf b) (Xs P L) (Ms M N) (Ks P) :=
  h.congr (six (by simp [fset, Xs, intv]) (by simp [fset, Xs, intv]) (by simp [fset, Xs, intv]) (by simp [fset, Xs, intv]) (by simp [fset, Xs]) (by simp [fset, Xs]))
    (six (by simp [fset, Ms]) (by simp [fset, Ms]) (by simp [fset, Ms]) (by simp [fset, Ms]) (by simp [fset, Ms]) (by simp [fset, Ms])) (fun _ _ _ h => .inl h)
theorem clear_inv {w : World} {base b M N : Nat} {P : List (Int × Nat × Int)} {L : List Int} {K : Nat → TypeId → Array Value → Prop}
    (h : St w base (bkf b) (fset (fset (fset (fset (Xs P L) 0 []) 2 []) 4 []) 5 []) (fset (fset (fset (fset (Ms M N) 0 0) 2 0) 4 0) 5 0) (fun g' t' cs' => Ks P g' t' cs' ∨ K g' t' cs')) :
    St w base (bkf b) (Xs [] L) (Ms 0 N) (Ks []) := by
  refine h.congr (six (by simp [fset, Xs, intv]) (by simp [fset, Xs, intv]) (by simp [fset, Xs, intv]) (by simp [fset, Xs, intv]) (by simp [fset, Xs]) (by simp [fset, Xs]))
    (six (by simp [fset, Ms]) (by simp [fset, Ms]) (by simp [fset, Ms]) (by simp [fset, Ms]) (by simp [fset, Ms]) (by simp [fset, Ms])) ?_
  rintro g' t' cs' ⟨p', hp, h1, h2, h3⟩
  cases hp
theorem clear_inv1 {w : World} {base b M N : Nat} {P : List (Int × Nat × Int)} {L : List Int} {K : Nat → TypeId → Array Value → Prop}
    (h : St w base (bkf b) (fset (fset (Xs P L) 1 []) 3 []) (fset (fset (Ms M N) 1 0) 3 0) (fun g' t' cs' => Ks P g' t' cs' ∨ K g' t' cs')) :
    St w base (bkf b) (Xs P []) (Ms M 0) (Ks P) :=
  h.congr (six (by simp [fset, Xs, intv]) (by simp [fset, Xs, intv]) (by simp [fset, Xs, intv]) (by simp [fset, Xs, intv]) (by simp [fset, Xs]) (by simp [fset, Xs]))
    (six (by simp [fset, Ms]) (by simp [fset, Ms]) (by simp [fset, Ms]) (by simp [fset, Ms]) (by simp [fset, Ms]) (by simp [fset, Ms])) (fun _ _ _ h => .inl h)
theorem qof {P : Program} {f : FuncId} {args : Array Value} {w : World} {n : Nat} {v : Value} (h : Calls P f args (w.drewN n) fun e w' => e = .returned v ∧ w.drewN n = w') :
    Calls P f args (w.drewN n) fun e w'' => e = .returned v ∧ ∃ m, w'' = w.drewN m := h.mono fun _ _ ⟨he, hm⟩ => ⟨he, n, hm.symm⟩
section
variable {w : World} {base : Nat} {bk : Nat → Nat} {X : Nat → List Value} {M : Nat → Int} {K : Nat → TypeId → Array Value → Prop}
theorem len_int_q (h : St w base bk X M K) (i : Nat) (hi : i = 0 ∨ i = 1) (n : Nat) :
    Calls Try.prog 9 #[.pointer (some ⟨bk (bI i), offI i, none⟩)] (w.drewN n) fun e w'' => e = .returned (.int .i64 ((X i).length : Int)) ∧ ∃ m, w'' = w.drewN m := qof (len_int_st (h.upd ((Upd.refl Nob w).drewN n)) i hi)
theorem len_ref_q (h : St w base bk X M K) (i : Nat) (hi : i = 2 ∨ i = 3) (n : Nat) :
    Calls Try.prog 18 #[.pointer (some ⟨bk (bI i), offI i, none⟩)] (w.drewN n) fun e w'' => e = .returned (.int .i64 ((X i).length : Int)) ∧ ∃ m, w'' = w.drewN m := qof (len_ref_st (h.upd ((Upd.refl Nob w).drewN n)) i hi)
theorem most_int_q (h : St w base bk X M K) (i : Nat) (hi : i = 0 ∨ i = 1) (n : Nat) :
    Calls Try.prog 10 #[.pointer (some ⟨bk (bI i), offI i, none⟩)] (w.drewN n) fun e w'' => e = .returned (.int .i64 (M i)) ∧ ∃ m, w'' = w.drewN m := qof (most_int_st (h.upd ((Upd.refl Nob w).drewN n)) i hi)
theorem most_ref_q (h : St w base bk X M K) (i : Nat) (hi : i = 2 ∨ i = 3) (n : Nat) :
    Calls Try.prog 23 #[.pointer (some ⟨bk (bI i), offI i, none⟩)] (w.drewN n) fun e w'' => e = .returned (.int .i64 (M i)) ∧ ∃ m, w'' = w.drewN m := qof (most_ref_st (h.upd ((Upd.refl Nob w).drewN n)) i hi)
theorem most_str_q (h : St w base bk X M K) (i : Nat) (hi : i = 4) (n : Nat) :
    Calls Try.prog 24 #[.pointer (some ⟨bk (bI i), offI i, none⟩)] (w.drewN n) fun e w'' => e = .returned (.int .i64 (M i)) ∧ ∃ m, w'' = w.drewN m := qof (most_str_st (h.upd ((Upd.refl Nob w).drewN n)) i hi)
theorem len_row_q (h : St w base bk X M K) (i : Nat) (hi : i = 5) (n : Nat) :
    Calls Try.prog 25 #[.pointer (some ⟨bk (bI i), offI i, none⟩)] (w.drewN n) fun e w'' => e = .returned (.int .i64 ((X i).length : Int)) ∧ ∃ m, w'' = w.drewN m := qof (len_row_st (h.upd ((Upd.refl Nob w).drewN n)) i hi)
end

set_option maxRecDepth 100000 in
set_option maxHeartbeats 4000000 in
theorem sparseStacks_any (w : World) (A : Option Addr) (n c : Nat) (zs : List (Int × Int × Int)) (hx : Reads w (· < w.heap.size) 3 A n (stepv zs)) (hl : zs.length = n) (hn : n * 24 ≤ 140737488351232) :
    Calls Try.prog 4 #[.slice A n c] w fun e w' => e = .returned (.bool true) ∧ Upd Nob w w' := by
  go_enter Try.func4, Try.ntmps4
  have HX := hide hx
  clear hx
  go_wp2_with (go_at_call 6; refine (awake_any w).mono ?_; rintro e w1 ⟨rfl, hU1⟩)
  have hI := inv_start hU1
  have hb1 := hU1.size
  generalize w1.heap.size = b at *
  go_loopg [8] n (fun gk v8 wr => ∃ (k : Nat) (P : List (Int × Nat × Int)) (L : List Int) (M N : Nat), k + gk = n ∧ v8 = .int .i64 (k : Int) ∧ Inv w b wr k P L M N)
  case atStart => exact ⟨0, _, _, _, _, by omega, rfl, hI⟩
  case round =>
    clear hI hU1
    obtain ⟨k, P, L, M, N, hk, rfl, hI⟩ := hrel
    rcases gk with _ | j
    · have hkn : k = n := by omega
      clear hk
      subst hkn
      obtain ⟨hp, hll, hm, hnn, S, hU⟩ := hI
      have hU' := hU
      clear hU
      go_wp2_with (first
        | (go_at_call 9; first | (refine (len_int_st S 0 (.inl rfl)).mono ?_; rintro e w' ⟨rfl, rfl⟩) | (refine (len_int_st S 1 (.inr rfl)).mono ?_; rintro e w' ⟨rfl, rfl⟩))
        | (go_at_call 18; first | (refine (len_ref_st S 2 (.inl rfl)).mono ?_; rintro e w' ⟨rfl, rfl⟩) | (refine (len_ref_st S 3 (.inr rfl)).mono ?_; rintro e w' ⟨rfl, rfl⟩))
        | (go_at_call 10; first | (refine (most_int_st S 0 (.inl rfl)).mono ?_; rintro e w' ⟨rfl, rfl⟩) | (refine (most_int_st S 1 (.inr rfl)).mono ?_; rintro e w' ⟨rfl, rfl⟩))
        | (go_at_call 23; first | (refine (most_ref_st S 2 (.inl rfl)).mono ?_; rintro e w' ⟨rfl, rfl⟩) | (refine (most_ref_st S 3 (.inr rfl)).mono ?_; rintro e w' ⟨rfl, rfl⟩)))
      go_ret
      exact ⟨ret_bool (by simp [Ms]), hU'⟩
    · have hkn : k < n := by omega
      obtain ⟨⟨d, q, x⟩, hz⟩ : ∃ z, zs[k]? = some z := ⟨zs[k]'(by omega), List.getElem?_eq_getElem (by omega)⟩
      obtain ⟨s0, s1, s2⟩ := stepv_at zs k _ hz
      obtain ⟨ad, rfl, hbd, _, hcs⟩ := (HX.out.upd hI.upd (fun _ _ => not_nob)).2 (by omega)
      have z0 := hcs _ _ s0
      have z1 := hcs _ _ s1
      have z2 := hcs _ _ s2
      have hki : (k : Int) < n := by omega
      obtain ⟨g0, o0, hadd, y0, y1, y2⟩ := add_three z0 z1 z2
      clear hcs s0 s1 s2 z0 z1 z2
      obtain ⟨hp, hll, hm, hnn, S, hU⟩ := hI
      have hbs := hU.size
      have S1 := S.keep 43 #[.int .i64 d, .int .i64 q, .int .i64 x] hbs
      have hU1 := hU.alloc (.cells #[.int .i64 d, .int .i64 q, .int .i64 x] 43)
      have ha := i64_and1 q
      go_upto_region 11 with fail
      have C1 : Cells (wr.alloc (.cells #[.int .i64 d, .int .i64 q, .int .i64 x] 43)) wr.heap.size 43 #[.int .i64 d, .int .i64 q, .int .i64 x] := S1.kept (.inr ⟨rfl, rfl, rfl⟩)
      have hsz : (wr.alloc (.cells #[.int .i64 d, .int .i64 q, .int .i64 x] 43)).heap.size = wr.heap.size + 1 := World.size_alloc _ _
      generalize wr.alloc (.cells #[.int .i64 d, .int .i64 q, .int .i64 x] 43) = w2 at *
      generalize hxg : wr.heap.size = xg at *
      clear ha hadd y0 y1 y2 S hU hbs
      rcases (by omega : q % 2 = 0 ∨ q % 2 = 1) with hq | hq
      · rw [hq]
        clear hq
        by_cases hd0 : d = 0
        · subst hd0
          have x0 := C1.cellv (i := 0) rfl
          have x2 := C1.cellv (i := 2) rfl
          go_wp2_with fail
          go_still_tail 4, (by kernel_rfl)
          change wpList _ _ _ _ _ w2.drew
          have S2 := S1.upd ((Upd.refl Nob w2).drew)
          have U2 := hU1.drew
          generalize w2.drew = w3 at *
          clear x0 x2 S1 hU1 C1 hsz
          have l0 : (Xs P L 0).length = P.length := by simp [Xs, intv]
          have l1 : (Xs P L 1).length = L.length := by simp [Xs, intv]
          have l4 : (Xs P L 4).length = P.length := by simp [Xs]
          have l5 : (Xs P L 5).length = P.length := by simp [Xs]
          go_wp2_with fail
          refine (push_int_st S2 0 (.inl rfl) x (by omega) U2.size).mono ?_
          rintro e w4 ⟨rfl, S3, V3⟩
          have U3 := U2.trans V3 (fun k hk h => absurd h (by omega))
          clear S2 V3 U2
          have x2 := (S3.kept (.inr ⟨rfl, rfl, rfl⟩)).cellv (i := 2) rfl
          go_wp2_with fail
          go_still_tail 4, (by kernel_rfl)
          change wpList _ _ _ _ _ w4.drew
          have S4 := S3.upd ((Upd.refl Nob w4).drew)
          have U4 := U3.drew
          generalize w4.drew = w5 at *
          clear x2 S3 U3
          go_wp2_with fail
          refine (push_ref_st S4 2 (.inl rfl) x (by show ((Xs P L 0).length + 1) * 8 ≤ _; omega) U4.size).mono ?_
          rintro e w6 ⟨rfl, S5, V5⟩
          have U5 := U4.trans V5 (fun k hk h => absurd h (by omega))
          clear S4 V5 U4
          have x2 := (S5.kept (.inr ⟨rfl, rfl, rfl⟩)).cellv (i := 2) rfl
          go_wp2_with fail
          refine (text_any _ x).mono ?_
          rintro e w7 ⟨rfl, V7⟩
          have S6 := S5.upd V7
          have U6 := U5.trans V7 (fun _ _ h => h)
          clear x2 S5 U5 V7
          go_wp2_with fail
          refine (push_str_st S6 4 rfl (txt x) (by show ((Xs P L 4).length + 1) * 16 ≤ _; omega) U6.size).mono ?_
          rintro e w8 ⟨rfl, S7, V7⟩
          have U7 := U6.trans V7 (fun k hk h => absurd h (by omega))
          clear S6 V7 U6
          have x2 := (S7.kept (.inr ⟨rfl, rfl, rfl⟩)).cellv (i := 2) rfl
          have S8 := S7.keep 3 #[.int .i64 x, .int .i64 (k : Int)] U7.size
          have U8 := U7.alloc (.cells #[.int .i64 x, .int .i64 (k : Int)] 3)
          have hgn := U7.size
          go_wp2_with fail
          clear x2 S7 U7
          refine (push_row_st S8 5 rfl (some ⟨w8.heap.size, 0, none⟩) 2 2 (by show ((Xs P L 5).length + 1) * 24 ≤ _; omega) U8.size).mono ?_
          rintro e w9 ⟨rfl, S9, V9⟩
          have U9 := U8.trans V9 (fun k hk h => absurd h (by omega))
          generalize w8.heap.size = gn at *
          clear S8 V9 U8
          go_wp2_with fail
          go_roundg j
          case measure => omega
          case rel =>
            refine ⟨k + 1, P ++ [(x, gn, (k : Int))], L, max M (P.length + 1), N, by omega, by go_num, ⟨by simp; omega, by omega, by omega, by omega, ?_, U9⟩⟩
            exact push_inv S9
        by_cases hd1 : d = 1
        · subst hd1
          have x0 := C1.cellv (i := 0) rfl
          have x2 := C1.cellv (i := 2) rfl
          clear hsz
          have l0 : (Xs P L 0).length = P.length := by simp [Xs, intv]
          have l1 : (Xs P L 1).length = L.length := by simp [Xs, intv]
          have l4 : (Xs P L 4).length = P.length := by simp [Xs]
          have l5 : (Xs P L 5).length = P.length := by simp [Xs]
          rcases snoc_or P with rfl | ⟨P1, p1, rfl⟩
          · go_wp2_with fail
            refine (popn_int_st S1 0 (.inl rfl) rfl).mono ?_
            rintro e w' ⟨rfl, rfl⟩
            go_wp2_with fail
            refine (popn_ref_st S1 2 (.inl rfl) rfl).mono ?_
            rintro e w' ⟨rfl, rfl⟩
            go_wp2_with fail
            refine (popn_str_st S1 4 rfl rfl).mono ?_
            rintro e w' ⟨rfl, rfl⟩
            go_wp2_with fail
            refine (popn_row_st S1 5 rfl rfl).mono ?_
            rintro e w' ⟨rfl, rfl⟩
            go_wp2_with fail
            go_roundg j
            case measure => omega
            case rel => exact ⟨k + 1, [], L, M, N, by omega, by go_num, ⟨by simp, by omega, by omega, by omega, S1.congr (fun _ _ => rfl) (fun _ _ => rfl) (fun _ _ _ h => .inl h), hU1⟩⟩
          · have hl1 := hp
            simp only [List.length_append, List.length_cons, List.length_nil] at hl1
            have E0 : Hid (Xs (P1 ++ [p1]) L 0 = intv (P1.map fun z : Int × Nat × Int => z.1) ++ [.int .i64 p1.1]) := hide (by simp [Xs, intv])
            have E2 : Hid (Xs (P1 ++ [p1]) L 2 = intv (P1.map fun z : Int × Nat × Int => z.1) ++ [.int .i64 p1.1]) := hide (by simp [Xs, intv])
            have B0 : Hid ((Xs (P1 ++ [p1]) L 0).length ≤ 9223372036854775807) := hide (by rw [l0]; simp; omega)
            have B2 : Hid ((Xs (P1 ++ [p1]) L 2).length ≤ 9223372036854775807) := B0
            have E4 : Hid (Xs (P1 ++ [p1]) L 4 = (P1.map fun p : Int × Nat × Int => Value.string (txt p.1)) ++ [.string (txt p1.1)]) := hide (by simp [Xs])
            have E5 : Hid (Xs (P1 ++ [p1]) L 5 = (P1.map fun p : Int × Nat × Int => Value.slice (some ⟨p.2.1, 0, none⟩) 2 2) ++ [.slice (some ⟨p1.2.1, 0, none⟩) 2 2]) := hide (by simp [Xs])
            have B4 : Hid ((Xs (P1 ++ [p1]) L 4).length ≤ 9223372036854775807) := hide (by rw [l4]; simp; omega)
            have B5 : Hid ((Xs (P1 ++ [p1]) L 5).length ≤ 9223372036854775807) := hide (by rw [l5]; simp; omega)
            clear l0 l1 l4 l5
            go_wp2_with fail
            refine (pop_int_st S1 0 (.inl rfl) (intv (P1.map fun z : Int × Nat × Int => z.1)) p1.1 E0.out B0.out hU1.size).mono ?_
            rintro e w4 ⟨rfl, S3, V3⟩
            have U3 := hU1.trans V3 (fun k hk h => absurd h (by omega))
            clear V3
            go_wp2_with fail
            refine (pop_ref_st S3 2 (.inl rfl) (intv (P1.map fun z : Int × Nat × Int => z.1)) p1.1 E2.out B2.out U3.size).mono ?_
            rintro e w5 ⟨rfl, S5, V5⟩
            have U5 := U3.trans V5 (fun k hk h => absurd h (by omega))
            clear S3 V5 U3
            go_wp2_with fail
            refine (pop_str_st S5 4 rfl (P1.map fun p : Int × Nat × Int => Value.string (txt p.1)) (txt p1.1) E4.out B4.out U5.size).mono ?_
            rintro e w6 ⟨rfl, S6, V6⟩
            have U6 := U5.trans V6 (fun k hk h => absurd h (by omega))
            clear S5 V6 U5
            go_wp2_with fail
            refine (pop_row_st S6 5 rfl (P1.map fun p : Int × Nat × Int => Value.slice (some ⟨p.2.1, 0, none⟩) 2 2) (some ⟨p1.2.1, 0, none⟩) 2 2 E5.out B5.out U6.size).mono ?_
            rintro e w7 ⟨rfl, S7, V7⟩
            have U7 := U6.trans V7 (fun k hk h => absurd h (by omega))
            clear S6 V7 U6
            have kc : Cells w7 p1.2.1 3 #[.int .i64 p1.1, .int .i64 p1.2.2] := S7.kept (.inl ⟨p1, by simp, rfl, rfl, rfl⟩)
            go_wp2_with (go_at_call 13; refine (text_any _ p1.1).mono ?_; rintro e w8 ⟨rfl, V8⟩; have k0 := (kc.upd V8 not_nob).cellv (i := 0) rfl)
            go_roundg j
            case measure => omega
            case rel => exact ⟨k + 1, P1, L, M, N, by omega, by go_num, ⟨by omega, by omega, by omega, by omega, pop_inv (S7.upd V8), U7.trans V8 (fun _ _ h => h)⟩⟩
        by_cases hd2 : d = 2
        · subst hd2
          have x0 := C1.cellv (i := 0) rfl
          have x2 := C1.cellv (i := 2) rfl
          clear hsz
          have Q1 := fun n => len_int_q S1 0 (.inl rfl) n
          have Q2 := fun n => len_ref_q S1 2 (.inl rfl) n
          have l0 : (Xs P L 0).length = P.length := by simp [Xs, intv]
          have l2 : (Xs P L 2).length = P.length := by simp [Xs, intv]
          rw [l0] at Q1
          rw [l2] at Q2
          clear l0 l2
          go_wp2_with fail
          go_quiet ((first | (go_at_call 9; exact Q1 _) | (go_at_call 18; exact Q2 _)))
          go_wp2_with fail
          go_roundg j
          case measure => omega
          case rel => exact ⟨k + 1, P, L, M, N, by omega, by go_num, ⟨by omega, by omega, by omega, by omega, (S1.upd ((Upd.refl Nob w2).drewN _)).congr (fun _ _ => rfl) (fun _ _ => rfl) (fun _ _ _ h => .inl h), hU1.drewN _⟩⟩
        by_cases hd4 : d = 4
        · subst hd4
          have x0 := C1.cellv (i := 0) rfl
          have x2 := C1.cellv (i := 2) rfl
          clear hsz
          go_wp2_with fail
          refine (clear_int_st S1 0 (.inl rfl) hU1.size).mono ?_
          rintro e w4 ⟨rfl, S3, V3⟩
          have U3 := hU1.trans V3 (fun k hk h => absurd h (by omega))
          clear V3
          go_wp2_with fail
          refine (clear_ref_st S3 2 (.inl rfl) U3.size).mono ?_
          rintro e w5 ⟨rfl, S5, V5⟩
          have U5 := U3.trans V5 (fun k hk h => absurd h (by omega))
          clear S3 V5 U3
          go_wp2_with fail
          refine (clear_str_st S5 4 rfl U5.size).mono ?_
          rintro e w6 ⟨rfl, S6, V6⟩
          have U6 := U5.trans V6 (fun k hk h => absurd h (by omega))
          clear S5 V6 U5
          go_wp2_with fail
          refine (clear_row_st S6 5 rfl U6.size).mono ?_
          rintro e w7 ⟨rfl, S7, V7⟩
          have U7 := U6.trans V7 (fun k hk h => absurd h (by omega))
          clear S6 V7 U6
          go_wp2_with fail
          go_roundg j
          case measure => omega
          case rel => exact ⟨k + 1, [], L, 0, N, by omega, by go_num, ⟨by simp, by omega, by omega, by omega, clear_inv S7, U7⟩⟩
        have x0 := C1.cellv (i := 0) rfl
        have x2 := C1.cellv (i := 2) rfl
        clear hsz
        have e0 : (d == 0) = false := by simp [hd0]
        have e1 : (d == 1) = false := by simp [hd1]
        have e2 : (d == 2) = false := by simp [hd2]
        have e4 : (d == 4) = false := by simp [hd4]
        have Q1 := fun n => most_int_q S1 0 (.inl rfl) n
        have Q2 := fun n => most_ref_q S1 2 (.inl rfl) n
        have m0 : Ms M N 0 = (M : Int) := rfl
        have m2 : Ms M N 2 = (M : Int) := rfl
        rw [m0] at Q1
        rw [m2] at Q2
        clear m0 m2
        have Q3 := fun n => most_str_q S1 4 rfl n
        have Q4 := fun n => len_row_q S1 5 rfl n
        have Q5 := fun n => len_ref_q S1 2 (.inl rfl) n
        have l2 : (Xs P L 2).length = P.length := by simp [Xs, intv]
        have l5 : (Xs P L 5).length = P.length := by simp [Xs]
        have m4 : Ms M N 4 = (M : Int) := rfl
        rw [m4] at Q3
        rw [l5] at Q4
        rw [l2] at Q5
        clear m4 l5 l2
        go_wp2_with fail
        go_quiet ((first | (go_at_call 10; exact Q1 _) | (go_at_call 23; exact Q2 _) | (go_at_call 24; exact Q3 _) | (go_at_call 25; exact Q4 _) | (go_at_call 18; exact Q5 _)))
        go_wp2_with fail
        go_roundg j
        case measure => omega
        case rel => exact ⟨k + 1, P, L, M, N, by omega, by go_num, ⟨by omega, by omega, by omega, by omega, (S1.upd ((Upd.refl Nob w2).drewN _)).congr (fun _ _ => rfl) (fun _ _ => rfl) (fun _ _ _ h => .inl h), hU1.drewN _⟩⟩
      · rw [hq]
        clear hq
        by_cases hd0 : d = 0
        · subst hd0
          have x0 := C1.cellv (i := 0) rfl
          have x2 := C1.cellv (i := 2) rfl
          go_wp2_with fail
          go_still_tail 4, (by kernel_rfl)
          change wpList _ _ _ _ _ w2.drew
          have S2 := S1.upd ((Upd.refl Nob w2).drew)
          have U2 := hU1.drew
          generalize w2.drew = w3 at *
          clear x0 x2 S1 hU1 C1 hsz
          have l0 : (Xs P L 0).length = P.length := by simp [Xs, intv]
          have l1 : (Xs P L 1).length = L.length := by simp [Xs, intv]
          have l4 : (Xs P L 4).length = P.length := by simp [Xs]
          have l5 : (Xs P L 5).length = P.length := by simp [Xs]
          go_wp2_with fail
          refine (push_int_st S2 1 (.inr rfl) x (by omega) U2.size).mono ?_
          rintro e w4 ⟨rfl, S3, V3⟩
          have U3 := U2.trans V3 (fun k hk h => absurd h (by omega))
          clear S2 V3 U2
          have x2 := (S3.kept (.inr ⟨rfl, rfl, rfl⟩)).cellv (i := 2) rfl
          go_wp2_with fail
          go_still_tail 4, (by kernel_rfl)
          change wpList _ _ _ _ _ w4.drew
          have S4 := S3.upd ((Upd.refl Nob w4).drew)
          have U4 := U3.drew
          generalize w4.drew = w5 at *
          clear x2 S3 U3
          go_wp2_with fail
          refine (push_ref_st S4 3 (.inr rfl) x (by show ((Xs P L 1).length + 1) * 8 ≤ _; omega) U4.size).mono ?_
          rintro e w6 ⟨rfl, S5, V5⟩
          have U5 := U4.trans V5 (fun k hk h => absurd h (by omega))
          clear S4 V5 U4
          go_wp2_with fail
          go_roundg j
          case measure => omega
          case rel =>
            refine ⟨k + 1, P, L ++ [x], M, max N (L.length + 1), by omega, by go_num, ⟨by omega, by simp; omega, by omega, by omega, ?_, U5⟩⟩
            exact push_inv1 S5
        by_cases hd1 : d = 1
        · subst hd1
          have x0 := C1.cellv (i := 0) rfl
          have x2 := C1.cellv (i := 2) rfl
          clear hsz
          have l0 : (Xs P L 0).length = P.length := by simp [Xs, intv]
          have l1 : (Xs P L 1).length = L.length := by simp [Xs, intv]
          have l4 : (Xs P L 4).length = P.length := by simp [Xs]
          have l5 : (Xs P L 5).length = P.length := by simp [Xs]
          rcases snoc_or L with rfl | ⟨P1, p1, rfl⟩
          · go_wp2_with fail
            refine (popn_int_st S1 1 (.inr rfl) rfl).mono ?_
            rintro e w' ⟨rfl, rfl⟩
            go_wp2_with fail
            refine (popn_ref_st S1 3 (.inr rfl) rfl).mono ?_
            rintro e w' ⟨rfl, rfl⟩
            go_wp2_with fail
            go_roundg j
            case measure => omega
            case rel => exact ⟨k + 1, P, [], M, N, by omega, by go_num, ⟨by omega, by simp, by omega, by omega, S1.congr (fun _ _ => rfl) (fun _ _ => rfl) (fun _ _ _ h => .inl h), hU1⟩⟩
          · have hl1 := hll
            simp only [List.length_append, List.length_cons, List.length_nil] at hl1
            have E0 : Hid (Xs P (P1 ++ [p1]) 1 = intv P1 ++ [.int .i64 p1]) := hide (by simp [Xs, intv])
            have E2 : Hid (Xs P (P1 ++ [p1]) 3 = intv P1 ++ [.int .i64 p1]) := hide (by simp [Xs, intv])
            have B0 : Hid ((Xs P (P1 ++ [p1]) 1).length ≤ 9223372036854775807) := hide (by rw [l1]; simp; omega)
            have B2 : Hid ((Xs P (P1 ++ [p1]) 3).length ≤ 9223372036854775807) := B0
            clear l0 l1 l4 l5
            go_wp2_with fail
            refine (pop_int_st S1 1 (.inr rfl) (intv P1) p1 E0.out B0.out hU1.size).mono ?_
            rintro e w4 ⟨rfl, S3, V3⟩
            have U3 := hU1.trans V3 (fun k hk h => absurd h (by omega))
            clear V3
            go_wp2_with fail
            refine (pop_ref_st S3 3 (.inr rfl) (intv P1) p1 E2.out B2.out U3.size).mono ?_
            rintro e w5 ⟨rfl, S5, V5⟩
            have U5 := U3.trans V5 (fun k hk h => absurd h (by omega))
            clear S3 V5 U3
            go_wp2_with fail
            go_roundg j
            case measure => omega
            case rel => exact ⟨k + 1, P, P1, M, N, by omega, by go_num, ⟨by omega, by omega, by omega, by omega, pop_inv1 S5, U5⟩⟩
        by_cases hd2 : d = 2
        · subst hd2
          have x0 := C1.cellv (i := 0) rfl
          have x2 := C1.cellv (i := 2) rfl
          clear hsz
          have Q1 := fun n => len_int_q S1 1 (.inr rfl) n
          have Q2 := fun n => len_ref_q S1 3 (.inr rfl) n
          have l0 : (Xs P L 1).length = L.length := by simp [Xs, intv]
          have l2 : (Xs P L 3).length = L.length := by simp [Xs, intv]
          rw [l0] at Q1
          rw [l2] at Q2
          clear l0 l2
          go_wp2_with fail
          go_quiet ((first | (go_at_call 9; exact Q1 _) | (go_at_call 18; exact Q2 _)))
          go_wp2_with fail
          go_roundg j
          case measure => omega
          case rel => exact ⟨k + 1, P, L, M, N, by omega, by go_num, ⟨by omega, by omega, by omega, by omega, (S1.upd ((Upd.refl Nob w2).drewN _)).congr (fun _ _ => rfl) (fun _ _ => rfl) (fun _ _ _ h => .inl h), hU1.drewN _⟩⟩
        by_cases hd4 : d = 4
        · subst hd4
          have x0 := C1.cellv (i := 0) rfl
          have x2 := C1.cellv (i := 2) rfl
          clear hsz
          go_wp2_with fail
          refine (clear_int_st S1 1 (.inr rfl) hU1.size).mono ?_
          rintro e w4 ⟨rfl, S3, V3⟩
          have U3 := hU1.trans V3 (fun k hk h => absurd h (by omega))
          clear V3
          go_wp2_with fail
          refine (clear_ref_st S3 3 (.inr rfl) U3.size).mono ?_
          rintro e w5 ⟨rfl, S5, V5⟩
          have U5 := U3.trans V5 (fun k hk h => absurd h (by omega))
          clear S3 V5 U3
          go_wp2_with fail
          go_roundg j
          case measure => omega
          case rel => exact ⟨k + 1, P, [], M, 0, by omega, by go_num, ⟨by omega, by simp, by omega, by omega, clear_inv1 S5, U5⟩⟩
        have x0 := C1.cellv (i := 0) rfl
        have x2 := C1.cellv (i := 2) rfl
        clear hsz
        have e0 : (d == 0) = false := by simp [hd0]
        have e1 : (d == 1) = false := by simp [hd1]
        have e2 : (d == 2) = false := by simp [hd2]
        have e4 : (d == 4) = false := by simp [hd4]
        have Q1 := fun n => most_int_q S1 1 (.inr rfl) n
        have Q2 := fun n => most_ref_q S1 3 (.inr rfl) n
        have m0 : Ms M N 1 = (N : Int) := rfl
        have m2 : Ms M N 3 = (N : Int) := rfl
        rw [m0] at Q1
        rw [m2] at Q2
        clear m0 m2
        go_wp2_with fail
        go_quiet ((first | (go_at_call 10; exact Q1 _) | (go_at_call 23; exact Q2 _)))
        go_wp2_with fail
        go_roundg j
        case measure => omega
        case rel => exact ⟨k + 1, P, L, M, N, by omega, by go_num, ⟨by omega, by omega, by omega, by omega, (S1.upd ((Upd.refl Nob w2).drewN _)).congr (fun _ _ => rfl) (fun _ _ => rfl) (fun _ _ _ h => .inl h), hU1.drewN _⟩⟩
end Go.Proofs.Ytpfhljcihfabbaa
