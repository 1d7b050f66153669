/-
  RefHas, Wk, put together.
-/
import Derived.Test.YtlaofcgllchedaaZ16PlainV
import Derived.Test.YtlaofcgllchedaaZRfRight
import Derived.Test.YtlaofcgllchedaaZ18RunP

/-
  The walks of heronref01.in, Has.
-/
namespace Go.Proofs.Ytlaofcgllchedaa
open Go.RowKit
set_option linter.unusedVariables false

theorem inB_drop {rs : List (Int × Int)} {k : Nat} {x : Int × Int} {c : Int} (h : rs[k]? = some x) : inB (rs.drop k) c = (decide (x.1 ≤ c ∧ c ≤ x.2) || inB (rs.drop (k + 1)) c) := by
  have hl := (List.getElem?_eq_some_iff.1 h).1
  rw [List.drop_eq_getElem_cons hl]
  rw [List.getElem?_eq_getElem hl] at h
  injection h with h
  rw [h]
  rfl

set_option maxHeartbeats 1000000 in
theorem ref_in (w : World) (S : Nat → Prop) (A : Option Addr) (n cc : Nat) (rs : List (Int × Int)) (h : RangesR w S A n rs) (c : Int) (hc : In64 c) :
    Calls Try.prog 56 #[.slice A n cc, .int .i64 c] w fun e w' => e = .returned (.bool (inB rs c)) ∧ ∃ q, w' = w.drewN q := by
  have hn := h.n
  obtain rfl : rs.length = n := h.len
  have H := hideP h
  have h1 := hc.1
  have h2 := hc.2
  clear h
  go_enter Try.func56, Try.ntmps56
  go_wp2_with fail
  go_loopg [5] rs.length (fun gk v5 wr => ∃ k q : Nat, k + gk = rs.length ∧ v5 = .int .i64 (k : Int) ∧ wr = w.drewN q ∧ inB rs c = inB (rs.drop k) c)
  case atStart => exact ⟨0, 0, by omega, rfl, rfl, rfl⟩
  case round =>
    obtain ⟨k, q, hk, rfl, rfl, hq⟩ := hrel
    have HQ := hideP hq
    clear hq
    by_cases hlt : k < rs.length
    · obtain ⟨ad, x, g, o, rfl, hx, i1, i2, hadd, c0, c1, -⟩ := H.out.at1 hlt
      have hstep := inB_drop (c := c) hx
      obtain ⟨lo, hi⟩ := x
      simp only at c0 c1 hstep
      have kl : (k : Int) < (rs.length : Int) := by omega
      by_cases hlo : lo ≤ c
      · by_cases hhi : c ≤ hi
        · have HV := hideP (show inB rs c = true by rw [HQ.out, hstep, decide_eq_true ⟨hlo, hhi⟩]; rfl)
          clear hx hstep
          go_wp2_with fail
          go_ret
          exact ⟨congrArg Ending.returned (congrArg Value.bool HV.out.symm), q, rfl⟩
        · have hhb : decide (c ≤ hi) = false := decide_eq_false hhi
          have HV := hideP (show inB rs c = inB (rs.drop (k + 1)) c by rw [HQ.out, hstep, decide_eq_false (fun h => hhi h.2)]; rfl)
          clear hx hstep
          go_wp2_with fail
          go_roundg (rs.length - (k + 1))
          case measure => omega
          case rel => exact ⟨k + 1, q, by omega, by go_num, rfl, HV.out⟩
      · have hlb : decide (lo ≤ c) = false := decide_eq_false hlo
        have HV := hideP (show inB rs c = inB (rs.drop (k + 1)) c by rw [HQ.out, hstep, decide_eq_false (fun h => hlo h.1)]; rfl)
        clear hx hstep
        go_wp2_with fail
        go_roundg (rs.length - (k + 1))
        case measure => omega
        case rel => exact ⟨k + 1, q, by omega, by go_num, rfl, HV.out⟩
    · have hkn : k = rs.length := by omega
      have HV := hideP (show inB rs c = false by rw [HQ.out, hkn, List.drop_length]; rfl)
      have kl : ¬ (k : Int) < (rs.length : Int) := by omega
      go_wp2_with fail
      go_ret
      exact ⟨congrArg Ending.returned (congrArg Value.bool HV.out.symm), q, rfl⟩

theorem ref_has (w : World) (S : Nat → Prop) (A : Option Addr) (n cc : Nat) (rs : List (Int × Int)) (h : RangesR w S A n rs) (c : Int) (hc : In64 c) :
    Calls Try.prog 38 #[.slice A n cc, .int .i64 c] w fun e w' => e = .returned (.bool (hasB rs c)) ∧ ∃ q, w' = w.drewN q := by
  rcases hr : rightB rs with _ | _
  · have HV := hideP (show hasB rs c = false by unfold hasB; rw [hr]; rfl)
    go_enter Try.func38, Try.ntmps38
    go_wp2_with fail
    refine (ref_right w S A n cc rs h).mono ?_
    rintro e w1 ⟨he, q, rfl⟩
    rw [hr] at he
    subst he
    go_wp2_with fail
    go_ret
    exact ⟨congrArg Ending.returned (congrArg Value.bool HV.out.symm), q, rfl⟩
  · have HV := hideP (show hasB rs c = inB rs c by unfold hasB; rw [hr]; rfl)
    go_enter Try.func38, Try.ntmps38
    go_wp2_with fail
    refine (ref_right w S A n cc rs h).mono ?_
    rintro e w1 ⟨he, q, rfl⟩
    rw [hr] at he
    subst he
    go_wp2_with fail
    refine (ref_in (w.drewN q) S A n cc rs (h.upd ((Upd.refl Nob w).drewN q) (fun _ _ => not_nob)) c hc).mono ?_
    rintro e w2 ⟨rfl, q2, rfl⟩
    go_wp2_with fail
    go_ret
    exact ⟨congrArg Ending.returned (congrArg Value.bool HV.out.symm), by first | exact ⟨_, rfl⟩ | exact drew_two _ _ _⟩
end Go.Proofs.Ytlaofcgllchedaa

/-
  heronref06's walker in memory: its row of nodes, what was begun, decided, ended, what was found.
-/
namespace Go.Proofs.Ytlaofcgllchedaa
open Go.RowKit
set_option linter.unusedVariables false

theorem wk_lo {w : World} {base e size n : Nat} {v : Value} {xs : List Value} (h : w.ownsRow base e size v n xs) {b : Nat} (hb : v.ownBlock = some b) : base ≤ b := by
  rcases h.2 with ⟨rfl, _⟩ | ⟨g, cap, cur, rfl, hg, _⟩
  · simp [Value.ownBlock] at hb
  · have : g = b := by simpa [Value.ownBlock] using hb
    omega
structure Fx where
  wb : Nat
  tb : Nat
  tg : Nat
  lc : Nat
  TA : Option Addr
  tc : Nat
  bo : Nat
  bc : Nat
  dk : Nat
  dkc : Nat
  bgb : Nat → Nat
  dcb : Nat → Nat
  eb : Nat
  ec : Nat
  l : List PN
  xs : List Int
  at_ : Nat
  base : Nat
def pnCells (x : PN) (RA : Option Addr) (rc : Nat) (SA : Option Addr) (sc : Nat) : Array Value :=
  #[.int .i64 x.kind, .int .i64 x.asr, .int .i64 x.ix, .slice RA x.rs.length rc, .slice SA x.subs.length sc, .bool x.lz, .int .i64 x.up, .int .i64 x.nth]
/-- a node of the row in memory -/
def NodeAt (w : World) (S : Nat → Prop) (tg i : Nat) (x : PN) : Prop :=
  ∃ RA rc SA sc, (∀ j v, (pnCells x RA rc SA sc)[j]? = some v → w.cell? ⟨tg, i * 8 + j, none⟩ = some v) ∧ RangesR w S RA x.rs.length x.rs ∧ Reads w S 1 SA x.subs.length (intv (x.subs.map fun (s : Nat) => (s : Int))) ∧ In64 x.asr ∧ In64 x.ix
/-- what is only read -/
structure Rd (F : Fx) (S : Nat → Prop) (w : World) : Prop where
  tab : Cells w F.tb 61 #[.slice (some ⟨F.tg, 0, none⟩) F.l.length F.lc]
  node : ∀ (i : Nat) (x : PN), F.l[i]? = some x → NodeAt w S F.tg i x
  bo : ∀ n, n < F.l.length → w.cell? ⟨F.bo, n, none⟩ = some (.slice (some ⟨F.bgb n, 0, none⟩) (F.xs.length + 1) (F.xs.length + 1))
  dk : ∀ n, n < F.l.length → w.cell? ⟨F.dk, n, none⟩ = some (.slice (some ⟨F.dcb n, 0, none⟩) (F.xs.length + 1) (F.xs.length + 1))
  text : TextR w S F.TA F.xs.length F.xs
  stb : S F.tb
  stg : S F.tg
  sbo : S F.bo
  sdk : S F.dk
  lt : ∀ b, S b → b < w.heap.size
  base : F.base ≤ w.heap.size
  few : F.l.length ≤ 100000
  short : F.xs.length ≤ 64
theorem NodeAt.upd {G : Nat → Prop} {w w' : World} {S : Nat → Prop} {tg i : Nat} {x : PN} (h : NodeAt w S tg i x) (hU : Upd G w w') (hG : ∀ b, S b → ¬ G b) (ht : S tg) (hl : tg < w.heap.size) : NodeAt w' S tg i x := by
  obtain ⟨RA, rc, SA, sc, h1, h2, h3, h4⟩ := h
  exact ⟨RA, rc, SA, sc, fun j v hv => (hU.cell (p := ⟨tg, i * 8 + j, none⟩) hl (hG _ ht)).trans (h1 j v hv), h2.upd hU hG, h3.upd hU hG, h4⟩
theorem Rd.upd {F : Fx} {G S : Nat → Prop} {w w' : World} (h : Rd F S w) (hU : Upd G w w') (hG : ∀ b, S b → ¬ G b) : Rd F S w' :=
  ⟨h.tab.upd hU (hG _ h.stb), fun i x hx => (h.node i x hx).upd hU hG h.stg (h.lt _ h.stg), fun n hn => (hU.cell (p := ⟨F.bo, n, none⟩) (h.lt _ h.sbo) (hG _ h.sbo)).trans (h.bo n hn),
    fun n hn => (hU.cell (p := ⟨F.dk, n, none⟩) (h.lt _ h.sdk) (hG _ h.sdk)).trans (h.dk n hn), h.text.upd hU hG, h.stb, h.stg, h.sbo, h.sdk, fun b hb => Nat.lt_of_lt_of_le (h.lt b hb) hU.size, Nat.le_trans h.base hU.size, h.few, h.short⟩
/-- a row of marks -/
def rowC (b : Nat → Bool) (n : Nat) : Array Value := ((List.range n).map fun p => Value.bool (b p)).toArray
theorem rowC_at (b : Nat → Bool) {n p : Nat} (h : p < n) : (rowC b n)[p]? = some (.bool (b p)) := by simp [rowC, h]
theorem rowC_set {b b' : Nat → Bool} {n p : Nat} (hp : b' p = true) (h : ∀ q, q ≠ p → b' q = b q) : (rowC b n).setIfInBounds p (.bool true) = rowC b' n := by
  apply Array.ext_getElem?
  intro i
  rw [Array.getElem?_setIfInBounds]
  by_cases e : p = i
  · subst e
    by_cases hn : p < n
    · rw [rowC_at b' hn, hp, if_pos rfl, if_pos (by simpa [rowC] using hn)]
    · rw [if_pos rfl, if_neg (by simpa [rowC] using hn)]
      symm
      simp [rowC, hn]
  · rw [if_neg e]
    by_cases hn : i < n
    · rw [rowC_at b hn, rowC_at b' hn, h i (fun k => e k.symm)]
    · simp [rowC, hn]
/-- the parses found, in memory -/
def flatO : List (Nat × List Int) → List (Nat × Nat) → List Value
  | (p, c) :: out, (g, k) :: gs => .int .i64 (p : Int) :: .slice (some ⟨g, 0, none⟩) c.length k :: flatO out gs
  | _, _ => []
theorem flatO_len : ∀ (out : List (Nat × List Int)) (gs : List (Nat × Nat)), gs.length = out.length → (flatO out gs).length = out.length * 2
  | [], [], _ => rfl
  | (p, c) :: out, (g, k) :: gs, h => by
    simp only [flatO, List.length_cons]
    rw [flatO_len out gs (by simpa using h)]
    omega
  | [], _ :: _, h => by simp at h
  | _ :: _, [], h => by simp at h
theorem flatO_append : ∀ (out : List (Nat × List Int)) (gs : List (Nat × Nat)) (p : Nat) (c : List Int) (g k : Nat), gs.length = out.length → flatO (out ++ [(p, c)]) (gs ++ [(g, k)]) = flatO out gs ++ [.int .i64 (p : Int), .slice (some ⟨g, 0, none⟩) c.length k]
  | [], [], p, c, g, k, _ => rfl
  | (q, d) :: out, (g', k') :: gs, p, c, g, k, h => by
    simp only [List.cons_append, flatO]
    rw [flatO_append out gs p c g k (by simpa using h)]
  | [], _ :: _, _, _, _, _, h => by simp at h
  | _ :: _, [], _, _, _, _, h => by simp at h
def OutR (w : World) (base : Nat) (OA : Option Addr) (oc : Nat) (out : List (Nat × List Int)) : Prop :=
  ∃ gs : List (Nat × Nat), gs.length = out.length ∧ w.ownsRow base 53 2 (.slice OA out.length oc) out.length (flatO out gs) ∧
    ∀ (i p : Nat) (c : List Int) (g k : Nat), out[i]? = some (p, c) → gs[i]? = some (g, k) → w.ownsRow base 3 1 (.slice (some ⟨g, 0, none⟩) c.length k) c.length (intv c)
def cntE (n : Nat) (e : Nat → Bool) : Nat := (List.range n).countP e
theorem cntE_mark {e : Nat → Bool} {p : Nat} (h : e p = false) : ∀ {n : Nat}, p < n → cntE n (mark1 e p) = cntE n e + 1
  | 0, hp => by omega
  | n + 1, hp => by
    unfold cntE
    rw [List.range_succ, List.countP_append, List.countP_append]
    by_cases hn : p = n
    · subst hn
      have e1 : (List.range p).countP (mark1 e p) = (List.range p).countP e := by
        refine List.countP_congr (fun q hq => ?_)
        have : ¬ q = p := by have := List.mem_range.1 hq; omega
        simp [mark1, this]
      rw [e1]
      simp [mark1, h]
    · have := cntE_mark h (n := n) (by omega)
      unfold cntE at this
      rw [this]
      have : mark1 e p n = e n := by simp [mark1, show ¬ n = p by omega]
      simp [this]
      omega
theorem cntE_le (n : Nat) (e : Nat → Bool) : cntE n e ≤ n := by
  unfold cntE
  have := List.countP_le_length (p := e) (l := List.range n)
  simpa using this
/-- what is written -/
structure WkR (F : Fx) (w : World) (s : WSt) (OA : Option Addr) (oc : Nat) : Prop where
  wk : Cells w F.wb 65 #[.pointer (some ⟨F.tb, 0, none⟩), .slice F.TA F.xs.length F.tc, .int .i64 (F.at_ : Nat), .slice (some ⟨F.bo, 0, none⟩) F.l.length F.bc, .slice (some ⟨F.dk, 0, none⟩) F.l.length F.dkc, .slice (some ⟨F.eb, 0, none⟩) (F.xs.length + 1) F.ec, .slice OA s.out.length oc]
  bg : ∀ n, n < F.l.length → Cells w (F.bgb n) 4 (rowC (s.bg n) (F.xs.length + 1))
  dc : ∀ n, n < F.l.length → Cells w (F.dcb n) 4 (rowC (s.dc n) (F.xs.length + 1))
  en : Cells w F.eb 4 (rowC s.en (F.xs.length + 1))
  out : OutR w F.base OA oc s.out
  cnt : s.out.length = cntE (F.xs.length + 1) s.en
/-- the blocks that are written, but for that of what was found -/
def MutF (F : Fx) (b : Nat) : Prop := b = F.wb ∨ b = F.eb ∨ (∃ n, n < F.l.length ∧ b = F.bgb n) ∨ (∃ n, n < F.l.length ∧ b = F.dcb n)
def Mut (F : Fx) (OA : Option Addr) (b : Nat) : Prop := MutF F b ∨ OA.map (·.block) = some b
/-- they lie apart -/
structure Dis (F : Fx) (S : Nat → Prop) : Prop where
  lt : ∀ b, MutF F b → b < F.base
  s : ∀ b, S b → b < F.base ∧ ¬ MutF F b
  bb : ∀ i j, i < F.l.length → j < F.l.length → F.bgb i = F.bgb j → i = j
  dd : ∀ i j, i < F.l.length → j < F.l.length → F.dcb i = F.dcb j → i = j
  bd : ∀ i j, i < F.l.length → j < F.l.length → F.bgb i ≠ F.dcb j
  be : ∀ i, i < F.l.length → F.bgb i ≠ F.eb
  de : ∀ i, i < F.l.length → F.dcb i ≠ F.eb
theorem OutR.lo {w : World} {base : Nat} {OA : Option Addr} {oc : Nat} {out : List (Nat × List Int)} (h : OutR w base OA oc out) {b : Nat} (hb : OA.map (·.block) = some b) : base ≤ b ∧ b < w.heap.size := by
  obtain ⟨gs, -, ho, -⟩ := h
  have hb2 : (Value.slice OA out.length oc).ownBlock = some b := by cases OA <;> simp_all [Value.ownBlock]
  obtain ⟨cur, hc, -⟩ := own_cells ho hb2
  exact ⟨wk_lo ho hb2, hc.lt⟩
theorem OutR.ne_ {w : World} {base : Nat} {OA : Option Addr} {oc : Nat} {out : List (Nat × List Int)} (h : OutR w base OA oc out) {b : Nat} {t : TypeId} {cs : Array Value} (hc : Cells w b t cs) (ht : 53 ≠ t) : ¬ OA.map (·.block) = some b := fun hb => by
  obtain ⟨gs, -, ho, -⟩ := h
  have hb2 : (Value.slice OA out.length oc).ownBlock = some b := by cases OA <;> simp_all [Value.ownBlock]
  exact own_ne ho hc ht hb2
theorem OutR.upd {G : Nat → Prop} {w w' : World} {base : Nat} {OA : Option Addr} {oc : Nat} {out : List (Nat × List Int)} (h : OutR w base OA oc out) (hU : Upd G w w') (hG : ∀ b, base ≤ b → ¬ G b) : OutR w' base OA oc out := by
  obtain ⟨gs, h1, h2, h3⟩ := h
  exact ⟨gs, h1, own_upd h2 hU (fun b hb => hG b (wk_lo h2 hb)), fun i p c g k hi hg => own_upd (h3 i p c g k hi hg) hU (fun b hb => hG b (wk_lo (h3 i p c g k hi hg) hb))⟩
theorem Rd.mut {F : Fx} {S : Nat → Prop} {w w' : World} {OA : Option Addr} (h : Rd F S w) (hd : Dis F S) (hlo : ∀ b, OA.map (·.block) = some b → F.base ≤ b) (hU : Upd (Mut F OA) w w') : Rd F S w' :=
  h.upd hU (fun b hb hm => by
    have := hd.s b hb
    rcases hm with hm | hm
    · exact this.2 hm
    · have := hlo b hm; omega)
/-- captures handed on -/
def CapR (w : World) (F : Fx) (OA CA : Option Addr) (c : List Int) : Prop := Reads w (fun b => ¬ MutF F b ∧ ¬ OA.map (·.block) = some b) 1 CA c.length (intv c)
/-- what a call leaves -/
structure Nx (F : Fx) (w : World) (s' : WSt) (OA : Option Addr) (w' : World) (OA' : Option Addr) (oc' : Nat) : Prop where
  wk : WkR F w' s' OA' oc'
  upd : Upd (Mut F OA) w w'
  new : OA'.map (·.block) = OA.map (·.block) ∨ ∀ b, OA'.map (·.block) = some b → w.heap.size ≤ b
def Ans (F : Fx) (w : World) (s' : WSt) (OA : Option Addr) (e : Ending) (w' : World) : Prop := e = .returned (.tuple #[]) ∧ ∃ OA' oc', Nx F w s' OA w' OA' oc'
theorem CapR.nx {F : Fx} {w w' : World} {s' : WSt} {OA OA' CA : Option Addr} {oc' : Nat} {c : List Int} (h : CapR w F OA CA c) (hn : Nx F w s' OA w' OA' oc') : CapR w' F OA' CA c := by
  have h2 := Reads.upd h hn.upd (fun b hb hm => by rcases hm with hm | hm; exact hb.1 hm; exact hb.2 hm)
  refine ⟨h2.1, fun hl => ?_⟩
  obtain ⟨ad, e, hb, hs, -⟩ := h.2 hl
  obtain ⟨ad', e', hb', hs', hc'⟩ := h2.2 hl
  rw [e] at e'
  injection e' with e'
  subst e'
  refine ⟨ad, e, hb', ⟨hs.1, fun ho => ?_⟩, hc'⟩
  rcases hn.new with h3 | h3
  · exact hs.2 (by rw [← h3]; exact ho)
  · have := h3 _ ho; omega
theorem Nx.trans {F : Fx} {w w1 w2 : World} {s1 s2 : WSt} {OA O1 O2 : Option Addr} {c1 c2 : Nat} (h : Nx F w s1 OA w1 O1 c1) (g : Nx F w1 s2 O1 w2 O2 c2) : Nx F w s2 OA w2 O2 c2 := by
  refine ⟨g.wk, h.upd.trans g.upd (fun k hk hm => ?_), ?_⟩
  · rcases hm with hm | hm
    · exact .inl hm
    · rcases h.new with h3 | h3
      · exact .inr (by rw [← h3]; exact hm)
      · have := h3 k hm; omega
  · rcases g.new with g3 | g3
    · rcases h.new with h3 | h3
      · exact .inl (g3.trans h3)
      · exact .inr (fun b hb => h3 b (by rw [← g3]; exact hb))
    · exact .inr (fun b hb => Nat.le_trans h.upd.size (g3 b hb))
/-- nothing but new memory -/
theorem WkR.upd {F : Fx} {w w' : World} {s : WSt} {OA : Option Addr} {oc : Nat} (h : WkR F w s OA oc) (hU : Upd Nob w w') : WkR F w' s OA oc :=
  ⟨h.wk.upd hU not_nob, fun n hn => (h.bg n hn).upd hU not_nob, fun n hn => (h.dc n hn).upd hU not_nob, h.en.upd hU not_nob, h.out.upd hU (fun _ _ => not_nob), h.cnt⟩
theorem Nx.of_upd {F : Fx} {w w' : World} {s : WSt} {OA : Option Addr} {oc : Nat} (h : WkR F w s OA oc) (hU : Upd Nob w w') : Nx F w s OA w' OA oc := ⟨h.upd hU, hU.mono (fun _ _ h => absurd h not_nob), .inl rfl⟩
end Go.Proofs.Ytlaofcgllchedaa
