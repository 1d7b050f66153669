/-
  Noted, RunP, put together.
-/
import Derived.Test.YtlaofcgllchedaaZ01PlainP
import Derived.Test.YtlaofcgllchedaaZ02TreeP
import Derived.Test.YtlaofcgllchedaaZ13Unf

/-
  The walk of heronref06.noted.
-/
namespace Go.Proofs.Ytlaofcgllchedaa
open Go.RowKit
set_option linter.unusedVariables false

theorem ninfo_int : (Try.prog.info? 3).map (fun i => (i.zero, i.size, i.bytes)) = some (some (.int .i64 0), 1, 8) := by kernel_rfl
/-- the answer of noted -/
def NotedAns (w : World) (c : List Int) (k : Nat) (p : Int) (e : Ending) (w' : World) : Prop :=
  ∃ g cap, e = .returned (.slice (some ⟨g, 0, none⟩) c.length cap) ∧ w.heap.size ≤ g ∧ w'.ownsRow w.heap.size 3 1 (.slice (some ⟨g, 0, none⟩) c.length cap) c.length (intv (c.set k p)) ∧ Upd Nob w w'
set_option maxHeartbeats 1000000 in
theorem noted_any (w : World) (S : Nat → Prop) (CA : Option Addr) (cc : Nat) (c : List Int) (k : Nat) (p : Int) (h : Reads w S 1 CA c.length (intv c)) (hk : k < c.length) (hl : c.length ≤ 4000) :
    Calls Try.prog 41 #[.slice CA c.length cc, .int .i64 (k : Int), .int .i64 p] w (NotedAns w c k p) := by
  obtain ⟨i0, hi0, hz0, hz1, hz2⟩ := info_parts ninfo_int
  have H := hideP h
  have g1 : (k : Int) < (c.length : Int) := by omega
  clear h
  go_enter Try.func41, Try.ntmps41
  have hE : (w.alloc (.cells #[] 3)).ownsRow w.heap.size 3 1 (.slice (some ⟨w.heap.size, 0, none⟩) 0 0) 0 [] := ⟨rfl, .inr ⟨w.heap.size, 0, #[], rfl, Nat.le_refl _, heap_alloc_new w _, Nat.le_refl _, by decide, rfl, rfl⟩⟩
  go_upto_region 2 with (at_builtin; refine wpList_append_reads rfl _ _ 22 rfl w.heap.size 3 i0 (.int .i64 0) 1 8 Try.underlying22 hi0 hz0 hz1 hz2 rfl (by decide) (.slice (some ⟨w.heap.size, 0, none⟩) 0 0) 0 [] rfl hE _ CA c.length cc (intv c) rfl (H.out.alloc _) (intv_one c) (by unfold maxLen; omega) (by omega) (by simp) ?_; intro vb w3 ob gr hatb; simp only [Nat.zero_add, List.nil_append] at ob; rcases ob.2 with ⟨-, hn0⟩ | ⟨g, cap, cur, rfl, hb, hcur, hnc, hcm, hcs, htk⟩; (have hn0' : c.length = 0 := hn0; omega))
  have U3 := ((Upd.refl Nob w).alloc (.cells #[] 3)).grown gr (fun b hb2 hlt => by simp [Value.ownBlock] at hb2; omega)
  have hcur : Cells w3 g 3 cur := hcur
  have HC := hideP hcur
  have HT := hideP htk
  have HU := hideP U3
  have HCM := hideP hcm
  have HCS := hideP hcs
  have HNC := hideP hnc
  have hf := hcur.frozen k
  have hcl : k < cur.size := by omega
  have hx : w3.cell? ⟨g, k, none⟩ = some (cur[k]'hcl) := hcur.cellv (Array.getElem?_eq_getElem hcl)
  clear ob gr hatb U3 hcur htk hE hcm hcs hnc
  go_wp2_with fail
  go_ret
  refine ⟨g, cap, rfl, by simpa using hb, ?_, HU.out.setCell _ _ (fun (hlt : g < w.heap.size) => absurd hlt (by omega))⟩
  have hC2 := HC.out.set_ k (.int .i64 p)
  refine ⟨by simp [intv], .inr ⟨g, cap, _, rfl, by simpa using hb, hC2, HNC.out, HCM.out, by simp [HCS.out], ?_⟩⟩
  apply List.ext_getElem?
  intro j
  have h0 : ∀ j < c.length, cur[j]? = some (.int .i64 (c.getD j 0)) := fun j hj => by
    have := congrArg (·[j]?) HT.out
    simp only [Nat.mul_one, List.getElem?_take, if_pos hj, Array.getElem?_toList] at this
    rw [this]
    simp [intv, hj]
  simp only [Nat.mul_one, List.getElem?_take, Array.getElem?_toList, intv, List.getElem?_map, List.getElem?_set, Array.getElem?_setIfInBounds]
  by_cases hj : j < c.length
  · rw [if_pos hj]
    by_cases e : k = j
    · subst e
      simp [hcl, hk]
    · rw [if_neg e, if_neg e, h0 j hj]
      simp [hj]
  · rw [if_neg hj]
    have e : ¬ k = j := by omega
    rw [if_neg e]
    simp [hj]
end Go.Proofs.Ytlaofcgllchedaa

/-
  The walk depth first through a row of nodes, with what was begun and decided kept, plain: it comes to an end, and its ends are what can be come to.
-/
namespace Go.Proofs.Ytlaofcgllchedaa
set_option linter.unusedVariables false

structure WSt where
  bg : Nat → Nat → Bool
  dc : Nat → Nat → Bool
  en : Nat → Bool
  out : List (Nat × List Int)
def mark2 (b : Nat → Nat → Bool) (n p : Nat) : Nat → Nat → Bool := fun i j => if i = n ∧ j = p then true else b i j
def mark1 (b : Nat → Bool) (p : Nat) : Nat → Bool := fun j => if j = p then true else b j
theorem mark2_self (b : Nat → Nat → Bool) (n p : Nat) : mark2 b n p n p = true := by simp [mark2]
theorem mark2_le {b : Nat → Nat → Bool} {n p i j : Nat} (h : b i j = true) : mark2 b n p i j = true := by unfold mark2; split; rfl; exact h
theorem mark2_inv {b : Nat → Nat → Bool} {n p i j : Nat} (h : mark2 b n p i j = true) : (i = n ∧ j = p) ∨ b i j = true := by
  unfold mark2 at h
  split at h
  · exact .inl ‹_›
  · exact .inr h
/-- the walker's calls; K: what begin does behind its mark; A: the Subs of an alternation -/
inductive Cl where
  | B (n p : Nat) (c : List Int) | K (n p : Nat) (c : List Int) | A (ms : List Nat) (p : Nat) (c : List Int) | C (n p : Nat) (c : List Int) | D (n p : Nat) (c : List Int) | H (n p : Nat) (c : List Int)
inductive Run (E : Env) (l : List PN) (at_ : Nat) : Cl → WSt → WSt → Prop
  | Bmet (n : Nat) (p : Nat) (c : List Int) (s : WSt) : s.bg n p = true → Run E l at_ (.B n p c) s s
  | Bgo (n : Nat) (p : Nat) (c : List Int) (s : WSt) (s' : WSt) : s.bg n p = false → Run E l at_ (.K n p c) { s with bg := mark2 s.bg n p } s' → Run E l at_ (.B n p c) s s'
  | K1 (n : Nat) (p : Nat) (c : List Int) (s : WSt) (s' : WSt) (x : PN) : l[n]? = some x → x.kind = 1 → Run E l at_ (.H n p c) s s' → Run E l at_ (.K n p c) s s'
  | K2y (n : Nat) (p : Nat) (c : List Int) (s : WSt) (s' : WSt) (x : PN) : l[n]? = some x → x.kind = 2 → E.cls x.rs p = true → Run E l at_ (.H n (p + 1) c) s s' → Run E l at_ (.K n p c) s s'
  | K2n (n : Nat) (p : Nat) (c : List Int) (s : WSt) (x : PN) : l[n]? = some x → x.kind = 2 → E.cls x.rs p = false → Run E l at_ (.K n p c) s s
  | K3y (n : Nat) (p : Nat) (c : List Int) (s : WSt) (s' : WSt) (x : PN) : l[n]? = some x → x.kind = 3 → E.asr x.asr p = true → Run E l at_ (.H n p c) s s' → Run E l at_ (.K n p c) s s'
  | K3n (n : Nat) (p : Nat) (c : List Int) (s : WSt) (x : PN) : l[n]? = some x → x.kind = 3 → E.asr x.asr p = false → Run E l at_ (.K n p c) s s
  | K4 (n : Nat) (p : Nat) (c : List Int) (s : WSt) (s' : WSt) (x : PN) : l[n]? = some x → x.kind = 4 ∨ x.kind = 102 → x.subs ≠ [] → Run E l at_ (.B (subW x) p c) s s' → Run E l at_ (.K n p c) s s'
  | K5 (n : Nat) (p : Nat) (c : List Int) (s : WSt) (s' : WSt) (x : PN) : l[n]? = some x → x.kind = 5 → Run E l at_ (.A x.subs p c) s s' → Run E l at_ (.K n p c) s s'
  | K7 (n : Nat) (p : Nat) (c : List Int) (s : WSt) (s' : WSt) (x : PN) : l[n]? = some x → x.kind = 7 → x.subs ≠ [] → Run E l at_ (.B (subW x) p (c.set (2 * x.ix).toNat p)) s s' → Run E l at_ (.K n p c) s s'
  | Kq (n : Nat) (p : Nat) (c : List Int) (s : WSt) (s' : WSt) (x : PN) : l[n]? = some x → x.kind = 103 → Run E l at_ (.C n p c) s s' → Run E l at_ (.K n p c) s s'
  | Ks (n : Nat) (p : Nat) (c : List Int) (s : WSt) (s' : WSt) (x : PN) : l[n]? = some x → x.kind = 101 → Run E l at_ (.D n p c) s s' → Run E l at_ (.K n p c) s s'
  | A0 (p : Nat) (c : List Int) (s : WSt) : Run E l at_ (.A [] p c) s s
  | A1 (m : Nat) (r : List Nat) (p : Nat) (c : List Int) (s : WSt) (s1 : WSt) (s2 : WSt) : Run E l at_ (.B m p c) s s1 → Run E l at_ (.A r p c) s1 s2 → Run E l at_ (.A (m :: r) p c) s s2
  | Cy (n : Nat) (p : Nat) (c : List Int) (s : WSt) (s1 : WSt) (s2 : WSt) (x : PN) : l[n]? = some x → x.subs ≠ [] → x.lz = true → Run E l at_ (.H n p c) s s1 → Run E l at_ (.B (subW x) p c) s1 s2 → Run E l at_ (.C n p c) s s2
  | Cn (n : Nat) (p : Nat) (c : List Int) (s : WSt) (s1 : WSt) (s2 : WSt) (x : PN) : l[n]? = some x → x.subs ≠ [] → x.lz = false → Run E l at_ (.B (subW x) p c) s s1 → Run E l at_ (.H n p c) s1 s2 → Run E l at_ (.C n p c) s s2
  | Dmet (n : Nat) (p : Nat) (c : List Int) (s : WSt) : s.dc n p = true → Run E l at_ (.D n p c) s s
  | Dgo (n : Nat) (p : Nat) (c : List Int) (s : WSt) (s' : WSt) : s.dc n p = false → Run E l at_ (.C n p c) { s with dc := mark2 s.dc n p } s' → Run E l at_ (.D n p c) s s'
  | Hmet (n : Nat) (p : Nat) (c : List Int) (s : WSt) (x : PN) : l[n]? = some x → x.up < 0 → s.en p = true → Run E l at_ (.H n p c) s s
  | Hend (n : Nat) (p : Nat) (c : List Int) (s : WSt) (x : PN) : l[n]? = some x → x.up < 0 → s.en p = false → Run E l at_ (.H n p c) s { s with en := mark1 s.en p, out := s.out ++ [(p, (c.set 0 at_).set 1 p)] }
  | H4 (n : Nat) (p : Nat) (c : List Int) (s : WSt) (s' : WSt) (x : PN) (m : Nat) (y : PN) : l[n]? = some x → x.up = (m : Int) → l[m]? = some y → y.kind = 4 → x.nth.toNat + 1 < y.subs.length → Run E l at_ (.B (y.subs.getD (x.nth.toNat + 1) 0) p c) s s' → Run E l at_ (.H n p c) s s'
  | H4e (n : Nat) (p : Nat) (c : List Int) (s : WSt) (s' : WSt) (x : PN) (m : Nat) (y : PN) : l[n]? = some x → x.up = (m : Int) → l[m]? = some y → y.kind = 4 → ¬ x.nth.toNat + 1 < y.subs.length → Run E l at_ (.H m p c) s s' → Run E l at_ (.H n p c) s s'
  | H7 (n : Nat) (p : Nat) (c : List Int) (s : WSt) (s' : WSt) (x : PN) (m : Nat) (y : PN) : l[n]? = some x → x.up = (m : Int) → l[m]? = some y → y.kind = 7 → Run E l at_ (.H m p (c.set (2 * y.ix + 1).toNat p)) s s' → Run E l at_ (.H n p c) s s'
  | Hl (n : Nat) (p : Nat) (c : List Int) (s : WSt) (s' : WSt) (x : PN) (m : Nat) (y : PN) : l[n]? = some x → x.up = (m : Int) → l[m]? = some y → y.kind = 101 ∨ y.kind = 102 → Run E l at_ (.D m p c) s s' → Run E l at_ (.H n p c) s s'
  | Ho (n : Nat) (p : Nat) (c : List Int) (s : WSt) (s' : WSt) (x : PN) (m : Nat) (y : PN) : l[n]? = some x → x.up = (m : Int) → l[m]? = some y → y.kind = 5 ∨ y.kind = 103 → Run E l at_ (.H m p c) s s' → Run E l at_ (.H n p c) s s'

/-! ### what it marks -/
structure Le (s s' : WSt) : Prop where
  b : ∀ n p, s.bg n p = true → s'.bg n p = true
  d : ∀ n p, s.dc n p = true → s'.dc n p = true
  e : ∀ p, s.en p = true → s'.en p = true
theorem Le.refl (s : WSt) : Le s s := ⟨fun _ _ h => h, fun _ _ h => h, fun _ h => h⟩
theorem Le.trans {a b c : WSt} (h : Le a b) (g : Le b c) : Le a c := ⟨fun n p x => g.b n p (h.b n p x), fun n p x => g.d n p (h.d n p x), fun p x => g.e p (h.e p x)⟩
theorem le_bg (s : WSt) (n p : Nat) : Le s { s with bg := mark2 s.bg n p } := ⟨fun _ _ h => mark2_le h, fun _ _ h => h, fun _ h => h⟩
theorem le_dc (s : WSt) (n p : Nat) : Le s { s with dc := mark2 s.dc n p } := ⟨fun _ _ h => h, fun _ _ h => mark2_le h, fun _ h => h⟩
/-- a thing is done: marked, or (behind a node) what follows is -/
inductive Done (E : Env) (l : List PN) (s : WSt) : Cf → Prop
  | B (n p) : s.bg n p = true → Done E l s (.B n p)
  | D (n p) : s.dc n p = true → Done E l s (.D n p)
  | E (p) : s.en p = true → Done E l s (.E p)
  | H (n p) : (∀ c ∈ succs E l (.H n p), Done E l s c) → Done E l s (.H n p)
theorem Done.mono {E : Env} {l : List PN} {s s' : WSt} (hl : Le s s') {c : Cf} (h : Done E l s c) : Done E l s' c := by
  induction h with
  | B n p h => exact .B n p (hl.b n p h)
  | D n p h => exact .D n p (hl.d n p h)
  | E p h => exact .E p (hl.e p h)
  | H n p _ ih => exact .H n p ih
structure NewCl (E : Env) (l : List PN) (s s' : WSt) : Prop where
  b : ∀ n p, s'.bg n p = true → s.bg n p = false → ∀ c ∈ succs E l (.B n p), Done E l s' c
  d : ∀ n p, s'.dc n p = true → s.dc n p = false → ∀ c ∈ succs E l (.D n p), Done E l s' c
theorem NewCl.refl (E : Env) (l : List PN) (s : WSt) : NewCl E l s s := ⟨fun n p h1 h2 => (by rw [h1] at h2; cases h2), fun n p h1 h2 => by rw [h1] at h2; cases h2⟩
theorem NewCl.trans {E : Env} {l : List PN} {a b c : WSt} (h : NewCl E l a b) (g : NewCl E l b c) (hl : Le b c) : NewCl E l a c := by
  refine ⟨fun n p h1 h2 q hq => ?_, fun n p h1 h2 q hq => ?_⟩
  · cases hb : b.bg n p with
    | true => exact (h.b n p hb h2 q hq).mono hl
    | false => exact g.b n p h1 hb q hq
  · cases hb : b.dc n p with
    | true => exact (h.d n p hb h2 q hq).mono hl
    | false => exact g.d n p h1 hb q hq
/-- what stands behind a call -/
def DoneCl (E : Env) (l : List PN) (s : WSt) : Cl → Prop
  | .B n p _ => Done E l s (.B n p)
  | .K n p _ => ∀ c ∈ succs E l (.B n p), Done E l s c
  | .A ms p _ => ∀ m ∈ ms, Done E l s (.B m p)
  | .C n p _ => ∀ c ∈ succs E l (.D n p), Done E l s c
  | .D n p _ => Done E l s (.D n p)
  | .H n p _ => Done E l s (.H n p)
/-- a call may be come to from R0 -/
def RchCl (E : Env) (l : List PN) (R0 : Cf) : Cl → Prop
  | .B n p _ => Rch E l R0 (.B n p)
  | .K n p _ => ∀ c ∈ succs E l (.B n p), Rch E l R0 c
  | .A ms p _ => ∀ m ∈ ms, Rch E l R0 (.B m p)
  | .C n p _ => ∀ c ∈ succs E l (.D n p), Rch E l R0 c
  | .D n p _ => Rch E l R0 (.D n p)
  | .H n p _ => Rch E l R0 (.H n p)
structure AllR (E : Env) (l : List PN) (R0 : Cf) (s : WSt) : Prop where
  b : ∀ n p, s.bg n p = true → Rch E l R0 (.B n p)
  d : ∀ n p, s.dc n p = true → Rch E l R0 (.D n p)
  e : ∀ p, s.en p = true → Rch E l R0 (.E p)
/-- the Ends that were told are the ended places, each once -/
def OutOk (s : WSt) : Prop := ∀ p, s.en p = true ↔ ∃ c, (p, c) ∈ s.out
theorem Rch.snoc {E : Env} {l : List PN} {a b c : Cf} (h : Rch E l a b) (hc : c ∈ succs E l b) : Rch E l a c := h.trans (.one hc)
structure Post (E : Env) (l : List PN) (R0 : Cf) (k : Cl) (s s' : WSt) : Prop where
  le : Le s s'
  new : NewCl E l s s'
  done : DoneCl E l s' k
  all : RchCl E l R0 k → AllR E l R0 s → AllR E l R0 s'
  out : OutOk s → OutOk s'
theorem post_via {E : Env} {l : List PN} {R0 : Cf} {k k' : Cl} {s s' : WSt} (h : Post E l R0 k' s s') (hd : DoneCl E l s' k' → DoneCl E l s' k) (hr : RchCl E l R0 k → RchCl E l R0 k') : Post E l R0 k s s' :=
  ⟨h.le, h.new, hd h.done, fun a b => h.all (hr a) b, h.out⟩
theorem run_post {E : Env} {l : List PN} {at_ : Nat} {R0 : Cf} {k : Cl} {s s' : WSt} (h : Run E l at_ k s s') : Post E l R0 k s s' := by
  induction h with
  | Bmet n p c s hb => exact ⟨.refl s, .refl E l s, .B n p hb, fun _ h => h, id⟩
  | Bgo n p c s s' hb _ ih =>
    refine ⟨(le_bg s n p).trans ih.le, ⟨fun i j h1 h2 q hq => ?_, fun i j h1 h2 q hq => ih.new.d i j h1 h2 q hq⟩, .B n p (ih.le.b n p (mark2_self _ _ _)), fun hr ha => ?_, fun ho => ih.out ho⟩
    · cases hm : mark2 s.bg n p i j with
      | true =>
        rcases mark2_inv hm with ⟨rfl, rfl⟩ | hm
        · exact ih.done q hq
        · rw [hm] at h2; cases h2
      | false => exact ih.new.b i j h1 hm q hq
    · refine ih.all (fun q hq => Rch.snoc hr hq) ⟨fun i j h => ?_, ha.d, ha.e⟩
      rcases mark2_inv h with ⟨rfl, rfl⟩ | h
      · exact hr
      · exact ha.b i j h
  | K1 n p c s s' x hx hk _ ih => exact post_via ih (fun h q hq => by simp [succs, hx, hk] at hq; subst hq; exact h) (fun h => h _ (by simp [succs, hx, hk]))
  | K2y n p c s s' x hx hk he _ ih => exact post_via ih (fun h q hq => by simp [succs, hx, hk, he] at hq; subst hq; exact h) (fun h => h _ (by simp [succs, hx, hk, he]))
  | K2n n p c s x hx hk he => exact ⟨.refl s, .refl E l s, fun q hq => by simp [succs, hx, hk, he] at hq, fun _ h => h, id⟩
  | K3y n p c s s' x hx hk he _ ih => exact post_via ih (fun h q hq => by simp [succs, hx, hk, he] at hq; subst hq; exact h) (fun h => h _ (by simp [succs, hx, hk, he]))
  | K3n n p c s x hx hk he => exact ⟨.refl s, .refl E l s, fun q hq => by simp [succs, hx, hk, he] at hq, fun _ h => h, id⟩
  | K4 n p c s s' x hx hk h0 _ ih =>
    have e : succs E l (.B n p) = [.B (subW x) p] := by rcases hk with hk | hk <;> simp [succs, hx, hk]
    exact post_via ih (fun h q hq => by rw [e] at hq; simp at hq; subst hq; exact h) (fun h => h _ (by rw [e]; simp))
  | K5 n p c s s' x hx hk _ ih =>
    have e : succs E l (.B n p) = x.subs.map (fun s => .B s p) := by simp [succs, hx, hk]
    exact post_via ih (fun h q hq => by rw [e] at hq; simp at hq; obtain ⟨m, hm, rfl⟩ := hq; exact h m hm) (fun h m hm => h _ (by rw [e]; simp [hm]))
  | K7 n p c s s' x hx hk h0 _ ih =>
    have e : succs E l (.B n p) = [.B (subW x) p] := by simp [succs, hx, hk]
    exact post_via ih (fun h q hq => by rw [e] at hq; simp at hq; subst hq; exact h) (fun h => h _ (by rw [e]; simp))
  | Kq n p c s s' x hx hk _ ih =>
    have e : succs E l (.B n p) = succs E l (.D n p) := by simp [succs, hx, hk]
    exact post_via ih (fun h q hq => h q (by rw [← e]; exact hq)) (fun h q hq => h q (by rw [e]; exact hq))
  | Ks n p c s s' x hx hk _ ih =>
    have e : succs E l (.B n p) = [.D n p] := by simp [succs, hx, hk]
    exact post_via ih (fun h q hq => by rw [e] at hq; simp at hq; subst hq; exact h) (fun h => h _ (by rw [e]; simp))
  | A0 p c s => exact ⟨.refl s, .refl E l s, fun m hm => by simp at hm, fun _ h => h, id⟩
  | A1 m r p c s s1 s2 _ _ ih1 ih2 =>
    exact ⟨ih1.le.trans ih2.le, ih1.new.trans ih2.new ih2.le, fun q hq => by
      rcases List.mem_cons.1 hq with rfl | hq
      · exact Done.mono ih2.le ih1.done
      · exact ih2.done q hq, fun hr ha => ih2.all (fun q hq => hr q (by simp [hq])) (ih1.all (hr m (by simp)) ha), fun ho => ih2.out (ih1.out ho)⟩
  | Cy n p c s s1 s2 x hx h0 hz _ _ ih1 ih2 =>
    have e : succs E l (.D n p) = [.B (subW x) p, .H n p] := by simp [succs, hx]
    exact ⟨ih1.le.trans ih2.le, ih1.new.trans ih2.new ih2.le, fun q hq => by
      rw [e] at hq
      simp at hq
      rcases hq with rfl | rfl
      · exact ih2.done
      · exact Done.mono ih2.le ih1.done, fun hr ha => ih2.all (hr _ (by rw [e]; simp)) (ih1.all (hr _ (by rw [e]; simp)) ha), fun ho => ih2.out (ih1.out ho)⟩
  | Cn n p c s s1 s2 x hx h0 hz _ _ ih1 ih2 =>
    have e : succs E l (.D n p) = [.B (subW x) p, .H n p] := by simp [succs, hx]
    exact ⟨ih1.le.trans ih2.le, ih1.new.trans ih2.new ih2.le, fun q hq => by
      rw [e] at hq
      simp at hq
      rcases hq with rfl | rfl
      · exact Done.mono ih2.le ih1.done
      · exact ih2.done, fun hr ha => ih2.all (hr _ (by rw [e]; simp)) (ih1.all (hr _ (by rw [e]; simp)) ha), fun ho => ih2.out (ih1.out ho)⟩
  | Dmet n p c s hb => exact ⟨.refl s, .refl E l s, .D n p hb, fun _ h => h, id⟩
  | Dgo n p c s s' hb _ ih =>
    refine ⟨(le_dc s n p).trans ih.le, ⟨fun i j h1 h2 q hq => ih.new.b i j h1 h2 q hq, fun i j h1 h2 q hq => ?_⟩, .D n p (ih.le.d n p (mark2_self _ _ _)), fun hr ha => ?_, fun ho => ih.out ho⟩
    · cases hm : mark2 s.dc n p i j with
      | true =>
        rcases mark2_inv hm with ⟨rfl, rfl⟩ | hm
        · exact ih.done q hq
        · rw [hm] at h2; cases h2
      | false => exact ih.new.d i j h1 hm q hq
    · refine ih.all (fun q hq => Rch.snoc hr hq) ⟨ha.b, fun i j h => ?_, ha.e⟩
      rcases mark2_inv h with ⟨rfl, rfl⟩ | h
      · exact hr
      · exact ha.d i j h
  | Hmet n p c s x hx hu he => exact ⟨.refl s, .refl E l s, .H n p (fun q hq => by simp [succs, hx, hu] at hq; subst hq; exact .E p he), fun _ h => h, id⟩
  | Hend n p c s x hx hu he =>
    have hs : succs E l (.H n p) = [.E p] := by simp [succs, hx, hu]
    refine ⟨⟨fun _ _ h => h, fun _ _ h => h, fun q h => by simp only [mark1]; split; rfl; exact h⟩, ⟨fun i j h1 h2 => (by rw [h1] at h2; cases h2), fun i j h1 h2 => (by rw [h1] at h2; cases h2)⟩, .H n p (fun q hq => by rw [hs] at hq; simp at hq; subst hq; exact .E p (by simp [mark1])), fun hr ha => ⟨ha.b, ha.d, fun q hq => ?_⟩, fun ho q => ?_⟩
    · simp only [mark1] at hq
      split at hq
      · rename_i h; subst h; exact Rch.snoc hr (by rw [hs]; simp)
      · exact ha.e q hq
    · simp only [mark1]
      split
      · rename_i h
        subst h
        exact ⟨fun _ => ⟨_, by simp; exact .inr rfl⟩, fun _ => rfl⟩
      · rename_i h
        rw [ho q]
        constructor
        · rintro ⟨c', hc⟩
          exact ⟨c', by simp [hc]⟩
        · rintro ⟨c', hc⟩
          simp at hc
          rcases hc with hc | ⟨h2, -⟩
          · exact ⟨c', hc⟩
          · exact absurd h2 h
  | H4 n p c s s' x m y hx hu hm hk hlt _ ih =>
    have e : succs E l (.H n p) = [.B (y.subs.getD (x.nth.toNat + 1) 0) p] := by rw [succ_up hx hu hm, if_pos hk, if_pos hlt]
    exact post_via ih (fun h => .H n p (fun q hq => by rw [e] at hq; simp only [List.mem_singleton] at hq; subst hq; exact h)) (fun h => Rch.snoc h (by rw [e]; simp))
  | H4e n p c s s' x m y hx hu hm hk hlt _ ih =>
    have e : succs E l (.H n p) = [.H m p] := by rw [succ_up hx hu hm, if_pos hk, if_neg hlt]
    exact post_via ih (fun h => .H n p (fun q hq => by rw [e] at hq; simp at hq; subst hq; exact h)) (fun h => Rch.snoc h (by rw [e]; simp))
  | H7 n p c s s' x m y hx hu hm hk _ ih =>
    have e : succs E l (.H n p) = [.H m p] := by rw [succ_up hx hu hm, if_neg (by omega), if_pos hk]
    exact post_via ih (fun h => .H n p (fun q hq => by rw [e] at hq; simp at hq; subst hq; exact h)) (fun h => Rch.snoc h (by rw [e]; simp))
  | Hl n p c s s' x m y hx hu hm hk _ ih =>
    have e : succs E l (.H n p) = [.D m p] := by rw [succ_up hx hu hm, if_neg (by omega), if_neg (by omega), if_pos hk]
    exact post_via ih (fun h => .H n p (fun q hq => by rw [e] at hq; simp at hq; subst hq; exact h)) (fun h => Rch.snoc h (by rw [e]; simp))
  | Ho n p c s s' x m y hx hu hm hk _ ih =>
    have e : succs E l (.H n p) = [.H m p] := by rw [succ_up hx hu hm, if_neg (by omega), if_neg (by omega), if_neg (by omega)]
    exact post_via ih (fun h => .H n p (fun q hq => by rw [e] at hq; simp at hq; subst hq; exact h)) (fun h => Rch.snoc h (by rw [e]; simp))
/-- nothing marked -/
def st0 : WSt := ⟨fun _ _ => false, fun _ _ => false, fun _ => false, []⟩
/-- the ends are what can be come to -/
theorem run_ends {E : Env} {l : List PN} {at_ n p : Nat} {c : List Int} {s' : WSt} (h : Run E l at_ (.B n p c) st0 s') (e : Nat) : (∃ c, (e, c) ∈ s'.out) ↔ Rch E l (.B n p) (.E e) := by
  have hp := run_post (R0 := .B n p) h
  have ho := hp.out (fun q => by simp [st0])
  rw [← ho e]
  constructor
  · exact fun he => (hp.all (.nil _) ⟨fun _ _ h => by simp [st0] at h, fun _ _ h => by simp [st0] at h, fun _ h => by simp [st0] at h⟩).e e he
  · intro hr
    have hd : ∀ c, Rch E l (.B n p) c → Done E l s' c := by
      have key : ∀ a c, Rch E l a c → Done E l s' a → Done E l s' c := by
        intro a c hr
        induction hr with
        | nil => exact id
        | cons a b c hab _ ih =>
          intro ha
          refine ih ?_
          cases ha with
          | B n p hb => exact hp.new.b n p hb rfl b hab
          | D n p hb => exact hp.new.d n p hb rfl b hab
          | E p hb => simp [succs] at hab
          | H n p hb => exact hb b hab
      exact fun c hc => key _ c hc hp.done
    cases hd _ hr with
    | E p he => exact he
end Go.Proofs.Ytlaofcgllchedaa
