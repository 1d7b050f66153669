/-
  heronlaw02.LookAts: the walk of the law.
-/
import Derived.Test.YtmcagnahpgjilaaLent
namespace Go.Proofs.Ytmcagnahpgjilaa
open Go.RowKit
set_option linter.unusedVariables false

theorem refAt_any (w : World) (S : Nat → Prop) (A : Option Addr) (n c : Nat) (p : Int) (xs : List Int) (hx : TextR w S A n xs) (hp : In64 p) :
    Calls Try.prog 12 #[.slice A n c, .int .i64 p] w fun e w' => e = .returned (.int .i64 (lookAt xs p)) ∧ w = w' := by
  have hl := hx.len
  have hm := hx.n
  by_cases h0 : p < 0
  · have hr : lookAt xs p = 0 := by unfold lookAt; rw [if_neg (by omega)]
    rw [hr]
    clear hr
    have hp1 := hp.1
    go_enter Try.func12, Try.ntmps12
    go_wp2
    go_ret
    exact ⟨rfl, rfl⟩
  obtain ⟨i, rfl⟩ := Int.eq_ofNat_of_zero_le (by omega : 0 ≤ p)
  by_cases h1 : i ≤ n
  · have hr : lookAt xs (i : Int) = part xs i 6 := by unfold lookAt; rw [if_pos (by omega)]; simp
    rw [hr]
    exact refAt_in w S A n c i xs hx h1
  · have hr : lookAt xs (i : Int) = 0 := by unfold lookAt; rw [if_neg (by omega)]
    rw [hr]
    clear hr
    have hp2 := hp.2
    go_enter Try.func12, Try.ntmps12
    go_wp2
    go_ret
    exact ⟨rfl, rfl⟩

/-- what the law writes over a rune -/
def over1 (x : Int) : Int := if x = 10 then 95 else 10
/-- the first k written over -/
def mixed (xs : List Int) (k : Nat) : List Int := (xs.take k).map over1 ++ xs.drop k
theorem mixed_length (xs : List Int) (k : Nat) : (mixed xs k).length = xs.length := by simp [mixed]; omega
theorem mixed_at (xs : List Int) (k : Nat) (hk : k < xs.length) : (mixed xs k)[k]? = xs[k]? := by
  unfold mixed
  rw [List.getElem?_append_right (by simp; omega)]
  simp
  congr 1
  omega
theorem mixed_next (xs : List Int) (k : Nat) (x : Int) (h : xs[k]? = some x) : (mixed xs k).set k (over1 x) = mixed xs (k + 1) := by
  have hk : k < xs.length := (List.getElem?_eq_some_iff.1 h).1
  unfold mixed
  rw [List.set_append_right _ _ (by simp; omega)]
  have e : xs.drop k = x :: xs.drop (k + 1) := by
    rw [List.drop_eq_getElem_cons hk]
    rw [List.getElem?_eq_getElem hk] at h
    injection h with h
    rw [h]
  have hz : k - ((xs.take k).map over1).length = 0 := by simp; omega
  rw [hz, e, List.set_cons_zero, List.take_add_one, h]
  simp
theorem in64_over (x : Int) : In64 (over1 x) := by unfold over1 In64; split <;> omega
theorem in64_mixed {xs : List Int} (h : ∀ x ∈ xs, In64 x) (k : Nat) : ∀ x ∈ mixed xs k, In64 x := by
  intro x hx
  unfold mixed at hx
  rw [List.mem_append] at hx
  rcases hx with hx | hx
  · rw [List.mem_map] at hx
    obtain ⟨y, _, rfl⟩ := hx
    exact in64_over y
  · exact h x (List.mem_of_mem_drop hx)

set_option maxHeartbeats 2000000 in
theorem lookAts_any (w : World) (A B : Option Addr) (n c m d : Nat) (xs ys : List Int) (p : Int) (hx : TextR w (· < w.heap.size) A n xs) (hy : TextR w (· < w.heap.size) B m ys) (hp : In64 p) :
    Calls Try.prog 3 #[.slice A n c, .int .i64 p, .slice B m d] w fun e w' => e = .returned (.bool true) ∧ Upd Nob w w' := by
  have hl := hx.len
  have hn := hx.n
  go_enter Try.func3, Try.ntmps3
  go_wp2_with fail
  refine (awake_any w).mono ?_
  rintro e w1 ⟨rfl, hU1⟩
  go_wp2_with fail
  refine (lent_any w1 _ A n c xs (hx.upd hU1 (fun _ _ => not_nob))).mono ?_
  rintro e w2 ⟨g, rfl, o2, hU2⟩
  have hU2' := hU1.trans hU2 (fun _ _ h => h)
  have o2' := own_base (base' := w.heap.size) o2 (fun k hk => by have := (o2.lt k hk).1; have := hU1.size; omega)
  clear o2 hU2
  have hTu := TextR.mk (marked_reads hl o2') hx.i hn
  go_wp2_with fail
  refine (at_any w2 _ _ n (n + 2) p xs hTu hp).mono ?_
  rintro e w3 ⟨rfl, hU3⟩
  go_wp2_with fail
  refine (at_any w3 _ B m d p ys ((hy.upd hU2' (fun _ _ => not_nob)).upd hU3 (fun _ _ => not_nob)) hp).mono ?_
  rintro e w4 ⟨rfl, hU4⟩
  have hU24 := hU3.trans hU4 (fun _ _ h => h)
  go_wp2_with fail
  refine (at_any w4 _ _ n (n + 2) p xs (hTu.upd hU24 (fun _ _ => not_nob)) hp).mono ?_
  rintro e w5 ⟨rfl, hU5⟩
  have hU25 := hU24.trans hU5 (fun _ _ h => h)
  have hU6 := hU2'.trans hU25 (fun _ _ h => h)
  have o5 := own_upd o2' hU25 (fun _ _ => not_nob)
  clear hU3 hU4 hU5 hU24 hU25 hTu o2' hU2' hU1
  go_wp2_with fail
  refine (kept_any w5 _ g _ A n c xs (hx.upd hU6 (fun _ _ => not_nob)) o5).mono ?_
  rintro e w6 ⟨rfl, q, rfl⟩
  have hU7 := hU6.drewN q
  have o6 : (w5.drewN q).ownsRow w.heap.size 3 1 (.slice (some ⟨g, 0, none⟩) (n + 2) (n + 2)) (n + 2) (marked xs) := own_upd o5 ((Upd.refl Nob _).drewN q) (fun _ _ => not_nob)
  clear hU6 o5
  generalize w5.drewN q = w6 at *
  go_wp2_with fail
  refine (refAt_any w6 _ A n c p xs (hx.upd hU7 (fun _ _ => not_nob)) hp).mono ?_
  rintro e w' ⟨rfl, rfl⟩
  go_wp2_with fail
  refine (refAt_any w6 _ B m d p ys (hy.upd hU7 (fun _ _ => not_nob)) hp).mono ?_
  rintro e w' ⟨rfl, rfl⟩
  go_wp2_with fail
  have hm0 : mixed xs 0 = xs := by simp [mixed]
  have hxi := hx.i
  clear hx hy
  go_loopg [15] n (fun gk v15 wr => ∃ k : Nat, k + gk = n ∧ v15 = .int .i64 (k : Int) ∧ wr.ownsRow w.heap.size 3 1 (.slice (some ⟨g, 0, none⟩) (n + 2) (n + 2)) (n + 2) (marked (mixed xs k)) ∧ Upd Nob w wr)
  case atStart => exact ⟨0, by omega, rfl, by rw [hm0]; exact o6, hU7⟩
  case round =>
    clear hm0 o6 hU7
    obtain ⟨k, hk, rfl, o, hU⟩ := hrel
    have hlm : (mixed xs k).length = n := by rw [mixed_length]; exact hl
    by_cases hlt : k < n
    · obtain ⟨ad, x, e1, hxk, hc⟩ := (marked_reads hlm o).int1 hlt
      injection e1 with e1
      subst e1
      rw [add_lit_, Nat.zero_add] at hc
      rw [mixed_at xs k (by omega)] at hxk
      have hf : wr.frozen? ⟨g, k, none⟩ = false := o.frozenAt k
      have hgb := (o.lt g rfl).1
      have hst := o.stored k (.int .i64 (over1 x))
      have hme : (marked (mixed xs k)).set k (.int .i64 (over1 x)) = marked (mixed xs (k + 1)) := by
        unfold marked
        rw [intv_append, intv_append, List.set_append_left _ _ (by simp [intv, hlm]; omega), ← mixed_next xs k x hxk]
        simp [intv, List.map_set]
      have hU9 : Upd Nob w (wr.setCell ⟨g, k, none⟩ (.int .i64 (over1 x))) := hU.setCell _ _ (fun h => absurd h (by simp; omega))
      rw [hme] at hst
      have o9 := hst.1
      clear hst hme hU o hxk hlm
      by_cases h10 : x = 10
      · have ho : over1 x = 95 := by simp [over1, h10]
        rw [ho] at o9 hU9
        subst h10
        clear ho
        go_wp2
        go_roundg (n - (k + 1))
        case measure => omega
        case rel => exact ⟨k + 1, by omega, by go_num, o9, hU9⟩
      · have ho : over1 x = 10 := by simp [over1, h10]
        rw [ho] at o9 hU9
        have h10' : (x == 10) = false := by simpa using h10
        clear ho
        go_wp2
        go_roundg (n - (k + 1))
        case measure => omega
        case rel => exact ⟨k + 1, by omega, by go_num, o9, hU9⟩
    · have hkn : k = n := by omega
      clear hk
      subst hkn
      have hT := TextR.mk (marked_reads hlm o) (in64_mixed hxi _) hn
      clear o
      go_wp2_with fail
      refine (at_any wr _ _ k (k + 2) p _ hT hp).mono ?_
      rintro e w8 ⟨rfl, hU8⟩
      go_wp2_with fail
      refine (refAt_any w8 _ _ k (k + 2) p _ (hT.upd hU8 (fun _ _ => not_nob)) hp).mono ?_
      rintro e w' ⟨rfl, rfl⟩
      go_wp2
      go_ret
      exact ⟨ret_bool (by simp), hU.trans hU8 (fun _ _ h => h)⟩
end Go.Proofs.Ytmcagnahpgjilaa
