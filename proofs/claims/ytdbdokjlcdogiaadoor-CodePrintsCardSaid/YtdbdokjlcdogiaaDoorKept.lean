/-
  The walks of heronlaw10.Kept, heronref09.Same.
-/
import Derived.Test.YtdbdokjlcdogiaaDoorLend
namespace Go.Proofs.YtdbdokjlcdogiaaDoor
open Go.RowKit
set_option linter.unusedVariables false

/-- a lent program with its marks -/
structure LentM (w : World) (base ga : Nat) (is : List PInst) (gr : Nat → Nat) (cs : Array Value) : Prop where
  l : LendR w base ga is gr cs is.length
  m1 : cs[is.length * 5]? = some (.int .i64 (-77))
theorem LentM.upd {F : Nat → Prop} {w w' : World} {base ga : Nat} {is : List PInst} {gr : Nat → Nat} {cs : Array Value} (h : LentM w base ga is gr cs) (hU : Upd F w w') (ha : ¬ F ga) (hr : ∀ i, i < is.length → ¬ F (gr i)) : LentM w' base ga is gr cs :=
  ⟨h.l.upd (Nat.le_refl _) hU ha hr, h.m1⟩
theorem LentM.old {F : Nat → Prop} {w w' : World} {base ga : Nat} {is : List PInst} {gr : Nat → Nat} {cs : Array Value} (h : LentM w base ga is gr cs) (hU : Upd F w w') (hF : ∀ b, b < w.heap.size → ¬ F b) : LentM w' base ga is gr cs :=
  ⟨h.l.old (Nat.le_refl _) hU hF, h.m1⟩

set_option maxHeartbeats 2000000 in
theorem keptProg_any (w : World) (base ga : Nat) (is : List PInst) (gr : Nat → Nat) (cs : Array Value) (start caps : Int) (h : LentM w base ga is gr cs) (hnb : is.length * 56 ≤ 140737488351232)
    (hI : ∀ x ∈ is, x.rs.length * 16 ≤ 140737488351232) :
    Calls Tryd.prog 12 #[.agg #[.slice (some ⟨ga, 0, none⟩) is.length (is.length + 1), .int .i64 start, .int .i64 caps]] w fun e w' => e = .returned (.bool true) ∧ Upd Nob w w' := by
  have HI := hideP hI
  have C0 : Cells (w.alloc (.cells #[.slice (some ⟨ga, 0, none⟩) is.length (is.length + 1), .int .i64 start, .int .i64 caps] 24)) w.heap.size 24 #[.slice (some ⟨ga, 0, none⟩) is.length (is.length + 1), .int .i64 start, .int .i64 caps] := Cells.new _ _ _
  have hU := (Upd.refl Nob w).alloc (.cells #[.slice (some ⟨ga, 0, none⟩) is.length (is.length + 1), .int .i64 start, .int .i64 caps] 24)
  have hM := h.old hU (fun _ _ => not_nob)
  clear h hI
  go_enter Tryd.func12, Tryd.ntmps12
  go_upto_region 1 with fail
  generalize w.alloc (.cells #[.slice (some ⟨ga, 0, none⟩) is.length (is.length + 1), .int .i64 start, .int .i64 caps] 24) = w2 at *
  have e0 : w2.cell? ⟨w.heap.size, 0, none⟩ = some (.slice (some ⟨ga, 0, none⟩) is.length (is.length + 1)) := C0.cellv rfl
  have m1 : w2.cell? ⟨ga, is.length * 5, none⟩ = some (.int .i64 (-77)) := hM.l.blk.cellv hM.m1
  have k1 : (is.length : Int) < (is.length : Int) + 1 := by omega
  have HM := hideP hM
  have HU := hideP hU
  have kw : IntKind.i64.wrap ((is.length : Int) + 1) = (is.length : Int) + 1 := by rw [IntKind.wrap_i64]; omega
  have kle : (is.length : Int) + 1 ≤ (is.length : Int) + 1 := by omega
  clear hM hU C0
  go_wp2_with fail
  go_loopg [4] is.length (fun gk v4 wr => ∃ k : Nat, k + gk = is.length ∧ v4 = .int .i64 (k : Int) ∧ w2 = wr)
  case atStart => exact ⟨0, by omega, rfl, rfl⟩
  case round =>
    obtain ⟨k, hk, rfl, rfl⟩ := hrel
    by_cases hlt : k < is.length
    · obtain ⟨x, hx⟩ : ∃ x, is[k]? = some x := ⟨_, List.getElem?_eq_getElem hlt⟩
      obtain ⟨h1, h2⟩ := HM.out.l.done k x hlt hx
      have hmx := HI.out x (List.mem_of_getElem? hx)
      have c4 : w2.cell? ⟨ga, k * 5 + 4, none⟩ = some (.slice (some ⟨gr k, 0, none⟩) x.rs.length (x.rs.length + 1)) := HM.out.l.blk.cellv (h1 4 _ rfl)
      have r1 := lent_marks rfl h2
      have kl : (k : Int) < (is.length : Int) := by omega
      have kl2 : (k : Int) < (is.length : Int) + 1 := by omega
      have kr : (x.rs.length : Int) < (x.rs.length : Int) + 1 := by omega
      have kw2 : IntKind.i64.wrap ((x.rs.length : Int) + 1) = (x.rs.length : Int) + 1 := by rw [IntKind.wrap_i64]; omega
      clear hx h1 h2
      go_wp2_with fail
      go_roundg (is.length - (k + 1))
      case measure => omega
      case rel => exact ⟨k + 1, by omega, by go_num, rfl⟩
    · have hkn : k = is.length := by omega
      clear hk
      subst hkn
      go_wp2_with fail
      go_ret
      exact ⟨rfl, HU.out⟩
end Go.Proofs.YtdbdokjlcdogiaaDoor
