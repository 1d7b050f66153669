/-
  The walks of heronlaw10.sameBytes (on equal bytes) and heronlaw10.great.
-/
import Derived.Test.YtdbdokjlcdogiaaDoorNum
import Derived.Test.YtdbdokjlcdogiaaDoorInsts
namespace Go.Proofs.YtdbdokjlcdogiaaDoor
open Go.RowKit
set_option linter.unusedVariables false

set_option maxRecDepth 100000 in
set_option maxHeartbeats 2000000 in
theorem sameBytes_any (w : World) (S1 S2 : Nat → Prop) (A1 A2 : Option Addr) (n c1 c2 : Nat) (xs : List Int) (h1 : Reads w S1 1 A1 n (bytv xs)) (h2 : Reads w S2 1 A2 n (bytv xs)) (hn : n ≤ 140737488355328) :
    Calls Tryd.prog 16 #[.slice A1 n c1, .slice A2 n c2] w fun e w' => e = .returned (.bool true) ∧ Upd Nob w w' := by
  have H1 := hideP h1
  have H2 := hideP h2
  clear h1 h2
  go_enter Tryd.func16, Tryd.ntmps16
  go_wp2_with fail
  go_loopg [5] n (fun gk v5 wr => ∃ k : Nat, k + gk = n ∧ v5 = .int .i64 (k : Int) ∧ Upd Nob w wr)
  case atStart => exact ⟨0, by omega, rfl, Upd.refl _ _⟩
  case round =>
    obtain ⟨k, hk, rfl, hU⟩ := hrel
    by_cases hlt : k < n
    · have g1 : (k : Int) < (n : Int) := by omega
      obtain ⟨ad, u, rfl, _, _, hu, hcell⟩ := (H1.out.upd hU (fun _ _ => not_nob)).at1 hlt
      obtain ⟨ad', u', rfl, _, _, hu', hcell'⟩ := (H2.out.upd hU (fun _ _ => not_nob)).at1 hlt
      rw [hu] at hu'
      injection hu' with hu'
      subst hu'
      simp only [bytv, List.getElem?_map, Option.map_eq_some_iff] at hu
      obtain ⟨x, hxk, rfl⟩ := hu
      have HU := hideP hU
      have z1 : wr.drew.cell? (ad.add k) = some (.int .u8 x) := hcell
      have z2 : wr.drew.cell? (ad'.add k) = some (.int .u8 x) := hcell'
      clear hxk hU
      go_wp2_with fail
      go_region
      go_wp2_with fail
      go_roundg (n - (k + 1))
      case measure => omega
      case rel => exact ⟨k + 1, by omega, by go_num, HU.out.drew⟩
    · have g1 : ¬ (k : Int) < (n : Int) := by omega
      go_wp2_with fail
      go_ret
      exact ⟨rfl, hU⟩

/-- some answer -/
def SomeB (e : Ending) : Prop := ∃ b : Bool, e = .returned (.bool b)
set_option maxRecDepth 100000 in
set_option maxHeartbeats 2000000 in
theorem great_any (w : World) (S : Nat → Prop) (A : Option Addr) (n c : Nat) (is : List PInst) (start caps : Int) (h : InstsR w S A n is) (hn : n ≤ 140737488355328) :
    Calls Tryd.prog 8 #[.agg #[.slice A n c, .int .i64 start, .int .i64 caps]] w fun e w' => SomeB e ∧ Upd Nob w w' := by
  obtain rfl : is.length = n := h.len
  have C0 := Cells.new w 24 #[.slice A is.length c, .int .i64 start, .int .i64 caps]
  have hU := (Upd.refl Nob w).alloc (.cells #[.slice A is.length c, .int .i64 start, .int .i64 caps] 24)
  have H := hideP (h.upd hU (fun _ _ => not_nob))
  clear h
  go_enter Tryd.func8, Tryd.ntmps8
  go_upto_region 1 with fail
  generalize w.alloc (.cells #[.slice A is.length c, .int .i64 start, .int .i64 caps] 24) = w2 at *
  have HC := hideP C0
  have HU := hideP hU
  clear C0 hU
  go_wp2_with fail
  go_loopg [3, 4] is.length (fun gk v3 v4 wr => ∃ (k : Nat) (m : Nat), k + gk = is.length ∧ v4 = .int .i64 (k : Int) ∧ v3 = .int .i64 (m : Int) ∧ m ≤ 140737492549632 ∧ Upd Nob w2 wr)
  case atStart => exact ⟨0, 0, by omega, rfl, rfl, by omega, Upd.refl _ _⟩
  case round =>
    obtain ⟨k, m, hk, rfl, rfl, hm, hU⟩ := hrel
    have e0 : wr.cell? ⟨w.heap.size, 0, none⟩ = some (.slice A is.length c) := (HC.out.upd hU not_nob).cellv rfl
    by_cases hlt : k < is.length
    · have g1 : (k : Int) < (is.length : Int) := by omega
      by_cases hmm : m < 4194304
      · have g2 : (m : Int) < 4194304 := by omega
        obtain ⟨ad, g, o, x, B, rl, c2, rfl, hx, hadd, -, hg, hR, hI, c0, c1, c3, c4, c5⟩ := (H.out.upd hU (fun _ _ => not_nob)).at1 hlt
        have hrn := hR.n
        have hrl := hR.len
        have HU2 := hideP hU
        have HK := hideP hk
        clear hx hR hI hU hk c0 c1 c3 c4
        obtain rfl : x.rs.length = rl := hrl
        go_wp2_with fail
        have hk := HK.out
        go_roundg (is.length - (k + 1))
        case measure => omega
        case rel => exact ⟨k + 1, m + 1 + x.rs.length, by omega, by go_num, by go_num, by omega, HU2.out⟩
      · have g2 : ¬ (m : Int) < 4194304 := by omega
        have HU2 := hideP hU
        clear hU
        go_wp2_with fail
        try go_ret
        exact ⟨⟨_, rfl⟩, HU.out.trans HU2.out (fun _ _ h => h)⟩
    · have g1 : ¬ (k : Int) < (is.length : Int) := by omega
      have HU2 := hideP hU
      clear hU
      go_wp2_with fail
      try go_ret
      exact ⟨⟨_, rfl⟩, HU.out.trans HU2.out (fun _ _ h => h)⟩
end Go.Proofs.YtdbdokjlcdogiaaDoor
