/-
  heronlaw03.text: a number's text: what it is counts for nothing but that it hangs on the number alone.
-/
import Derived.Test.YtpfhljcihfabbaaOnce
import Derived.Test.YtpfhljcihfabbaaView
import Derived.Deep.LoopGhost
import Derived.Laws.IdiomStrings
namespace Go.Proofs.Ytpfhljcihfabbaa
open Go.RowKit
set_option linter.unusedVariables false

theorem info_byte : (Try.prog.info? 5).map (fun i => (i.zero, i.size, i.bytes)) = some (some (.int .u8 0), 1, 1) := by kernel_rfl

/-- the k-th byte of a number -/
def tb (x : Int) (k : Nat) : UInt8 := UInt8.ofNat (x / 2 ^ (8 * k) % 256).toNat
theorem tb_eq (x : Int) (k : Nat) : ((tb x k).toNat : Int) = x / 2 ^ (8 * k) % 256 := by
  unfold tb
  have h0 : 0 ≤ x / 2 ^ (8 * k) % 256 := Int.emod_nonneg _ (by decide)
  have h1 : x / 2 ^ (8 * k) % 256 < 256 := Int.emod_lt_of_pos _ (by decide)
  generalize x / 2 ^ (8 * k) % 256 = y at h0 h1
  rw [UInt8.toNat_ofNat_of_lt' (by simp only [UInt8.size]; omega)]
  omega
/-- its text -/
def txtl (x : Int) : List UInt8 := (List.range 8).map (tb x)
def txt (x : Int) : ByteArray := ⟨(txtl x).toArray⟩
def txtk (x : Int) (k : Nat) : List UInt8 := (List.range k).map (tb x) ++ List.replicate (8 - k) 0
theorem txtk_set (x : Int) (k : Nat) (hk : k < 8) : (txtk x k).set k (tb x k) = txtk x (k + 1) := by
  unfold txtk
  rw [List.set_append_right _ _ (by simp), List.range_succ, List.map_append]
  simp only [List.length_map, List.length_range, Nat.sub_self, List.append_assoc]
  congr 1
  rw [show 8 - k = (8 - (k + 1)) + 1 by omega, List.replicate_succ]
  rfl
def bytev (l : List UInt8) : List Value := l.map fun b => .int .u8 (b.toNat : Int)

theorem text_any (w : World) (x : Int) : Calls Try.prog 13 #[.int .i64 x] w fun e w' => e = .returned (.string (txt x)) ∧ Upd Nob w w' := by
  obtain ⟨i0, hi0, hz0, hz1, hz2⟩ := info_parts info_byte
  go_enter Try.func13, Try.ntmps13
  have hz : (madeCells (Value.int .u8 0).cells (8 * 1)).toList = List.replicate 8 (.int .u8 0) := by
    have : (Value.int .u8 0).cells = #[Value.int .u8 0] := rfl
    rw [this, toList_madeCells_one, Nat.mul_one]
  have HZ := hide hz
  clear hz
  go_wp2_with (at_make; refine wpList_make_full w rfl (.const (.int .i64 8)) (.const (.int .i64 8)) 60 rfl w.heap.size 5 i0 (.int .u8 0) 1 Try.underlying60 hi0 hz0 hz1 .i64 .i64 8 8 8 rfl rfl (by omega) (by omega) (by rw [hz2]; omega) (by unfold maxLen; omega) (Nat.le_refl _) ?_; intro w1 o1 hg1; rw [HZ.out] at o1)
  have hU1 := (Upd.refl Nob w).grown hg1 (by simp)
  go_loopg [4] 8 (fun gk v4 wr => ∃ (k : Nat), k + gk = 8 ∧ v4 = .int .i64 (k : Int) ∧ wr.ownsRow w.heap.size 5 1 (.slice (some ⟨w.heap.size, 0, none⟩) 8 8) 8 (bytev (txtk x k)) ∧ Upd Nob w wr)
  case atStart => exact ⟨0, rfl, rfl, by simpa [bytev, txtk] using o1, hU1⟩
  case round =>
    clear o1 hg1 hU1
    obtain ⟨k, hk, rfl, ho, hU⟩ := hrel
    rcases (by omega : k = 8 ∨ k < 8) with rfl | hk8
    · have hcv := run_convert_bytes_back (P := Try.prog) wr 60 9 5 ⟨w.heap.size, 0, none⟩ 8 (txtl x) Try.underlying60 Try.underlying5 Try.underlying9 (fun j hj => by
        have hj8 : j < 8 := by simpa [txtl] using hj
        rw [add_lit_, Nat.zero_add, ho.cellAt j (by omega)]
        simp [bytev, txtk, txtl, hj8])
      have hl : (txtl x).length = 8 := by simp [txtl]
      rw [hl] at hcv
      go_wp2_with fail
      go_ret
      exact ⟨rfl, hU⟩
    · have hkk : (k : Int) < 8 := by omega
      have f0 := ho.frozenAt k
      have hlk : k < (txtk x k).length := by simp [txtk]; omega
      have c0 : wr.cell? ⟨w.heap.size, k, none⟩ = some (.int .u8 ((txtk x k)[k].toNat : Int)) := by
        rw [ho.cellAt k (by omega)]
        unfold bytev
        rw [List.getElem?_map, List.getElem?_eq_getElem hlk]
        rfl
      go_wp2_with fail
      rw [← tb_eq x k]
      go_roundg (8 - (k + 1))
      case measure => omega
      case rel =>
        refine ⟨k + 1, by omega, rfl, ?_, hU.setCell _ _ (fun h => absurd h (by simp))⟩
        have := (ho.stored k (.int .u8 ((tb x k).toNat : Int))).1
        rw [← txtk_set x k hk8]
        have e : (bytev (txtk x k)).set k (.int .u8 ((tb x k).toNat : Int)) = bytev ((txtk x k).set k (tb x k)) := by simp [bytev, List.map_set]
        rw [e] at this
        exact this
end Go.Proofs.Ytpfhljcihfabbaa
