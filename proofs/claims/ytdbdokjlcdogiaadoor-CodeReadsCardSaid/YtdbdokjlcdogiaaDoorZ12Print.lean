/-
  Shelf, AppInt, Print, put together.
-/
import Derived.Shelf.Strconv.Itoa1
import Derived.Shelf.LaysM
import Derived.Shelf.Strconv.Itoa2
import Derived.Shelf.Strconv.Itoa3
import Derived.Test.YtdbdokjlcdogiaaDoorProg
import Derived.Test.YtdbdokjlcdogiaaDoorZ11TextW
import Derived.Lib.AppendIntMem
import Derived.Lib.ItoaMem
import Derived.Lib.Walk
import Derived.Lib.Slices
import Derived.BigCall
import Derived.BigGuard
import Derived.Test.YtdbdokjlcdogiaaDoorZ05Held
import Derived.Deep.RegionHeld
import Derived.Lib.ConvBytes

/-
  Contracts of Go's library that the shelf has proved over any program, laid at this seat's program: internal/strconv.small, numDigits, formatBase10, strconv.Itoa. Written by the kit's lay-shelf.mjs and lay-plain.mjs; gen_shelf.py took the four out.
-/
namespace Go.Proofs.YtdbdokjlcdogiaaDoor
open Go.Proofs Go.Shelf
def sh_lays283_ren : Go.Shelf.Ren := ⟨fun | 283 => 68 | n => n, fun | 3 => 3 | 9 => 9 | 4 => 4 | n => n, fun | n => n⟩
theorem sh_lays283 : Go.Proofs.Lays.n283 Tryd.prog sh_lays283_ren := {
  mixed := by kernel_rfl
  f283 := Tryd.func68.trans (congrArg some (by kernel_rfl))
  t3 := Tryd.underlying3
  a3 := Tryd.isAgg3
  z3 := Tryd.sizeOf3
  v3 := Tryd.zeroValue3
  t4 := Tryd.underlying4
  a4 := Tryd.isAgg4
  z4 := Tryd.sizeOf4
  v4 := Tryd.zeroValue4
  t9 := Tryd.underlying9
  a9 := Tryd.isAgg9
  z9 := Tryd.sizeOf9
  v9 := Tryd.zeroValue9 }
open Go.Lib in
theorem sh_internal_strconv_small (i : Nat) (h : i < 100) (w : World) :
    Calls Tryd.prog 68 #[.int .i64 i] w fun e w' => e = .returned (.string ⟨(Lib.decDigits i).toArray⟩) ∧ w' = w := Any.internal_strconv_small sh_lays283 i h w
def sh_laysM284_ren : Go.Shelf.Ren := ⟨fun | 284 => 69 | 129 => 73 | 317 => 72 | 318 => 74 | n => n, fun | 53 => 94 | 3 => 3 | 212 => 101 | 0 => 0 | 4 => 4 | 46 => 62 | 5 => 5 | 9 => 9 | n => n, fun | 17 => 1 | n => n⟩
theorem sh_laysM284 : Go.Proofs.LaysM.n284 Tryd.prog sh_laysM284_ren := {
  mixed := by kernel_rfl
  f129 := Tryd.func73.trans (congrArg some (by kernel_rfl))
  f284 := Tryd.func69.trans (congrArg some (by kernel_rfl))
  f317 := Tryd.func72.trans (congrArg some (by kernel_rfl))
  f318 := Tryd.func74.trans (congrArg some (by kernel_rfl))
  t0 := Tryd.underlying0
  a0 := Tryd.isAgg0
  z0 := Tryd.sizeOf0
  v0 := Tryd.zeroValue0
  t3 := Tryd.underlying3
  a3 := Tryd.isAgg3
  z3 := Tryd.sizeOf3
  v3 := Tryd.zeroValue3
  t4 := Tryd.underlying4
  a4 := Tryd.isAgg4
  z4 := Tryd.sizeOf4
  v4 := Tryd.zeroValue4
  t5 := Tryd.underlying5
  a5 := Tryd.isAgg5
  z5 := Tryd.sizeOf5
  v5 := Tryd.zeroValue5
  t9 := Tryd.underlying9
  a9 := Tryd.isAgg9
  z9 := Tryd.sizeOf9
  v9 := Tryd.zeroValue9
  t46 := Tryd.underlying62
  a46 := Tryd.isAgg62
  z46 := Tryd.sizeOf62
  v46 := Tryd.zeroValue62
  t53 := Tryd.underlying94
  a53 := Tryd.isAgg94
  z53 := Tryd.sizeOf94
  v53 := Tryd.zeroValue94
  t212 := Tryd.underlying101
  a212 := Tryd.isAgg101
  z212 := Tryd.sizeOf101
  v212 := Tryd.zeroValue101
  g17 := by kernel_rfl
  i0 := by kernel_rfl
  i3 := by kernel_rfl
  i4 := by kernel_rfl
  i5 := by kernel_rfl
  i9 := by kernel_rfl
  i46 := by kernel_rfl
  i53 := by kernel_rfl
  i212 := by kernel_rfl
  m17 := by kernel_rfl }
open Go.Lib in
theorem sh_internal_strconv_numDigits (u : Nat) (h1 : 1 ≤ u) (h2 : u < 18446744073709551616) (w : World) (htab : Lib.TabIs Tryd.prog w "internal/strconv.uint64pow10" .u64 Lib.pow10Tab) :
    Calls Tryd.prog 69 #[.int .u64 u] w fun e w' => e = .returned (.int .i64 (Lib.nDigits u)) ∧ w' = w := Any.internal_strconv_numDigits sh_laysM284 u h1 h2 w htab
def sh_lays285_ren : Go.Shelf.Ren := ⟨fun | 285 => 70 | n => n, fun | 37 => 30 | 53 => 94 | 3 => 3 | 4 => 4 | 51 => 51 | 9 => 9 | 5 => 5 | 0 => 0 | n => n, fun | n => n⟩
theorem sh_lays285 : Go.Proofs.Lays.n285 Tryd.prog sh_lays285_ren := {
  mixed := by kernel_rfl
  f285 := Tryd.func70.trans (congrArg some (by kernel_rfl))
  t0 := Tryd.underlying0
  a0 := Tryd.isAgg0
  z0 := Tryd.sizeOf0
  v0 := Tryd.zeroValue0
  t3 := Tryd.underlying3
  a3 := Tryd.isAgg3
  z3 := Tryd.sizeOf3
  v3 := Tryd.zeroValue3
  t4 := Tryd.underlying4
  a4 := Tryd.isAgg4
  z4 := Tryd.sizeOf4
  v4 := Tryd.zeroValue4
  t5 := Tryd.underlying5
  a5 := Tryd.isAgg5
  z5 := Tryd.sizeOf5
  v5 := Tryd.zeroValue5
  t9 := Tryd.underlying9
  a9 := Tryd.isAgg9
  z9 := Tryd.sizeOf9
  v9 := Tryd.zeroValue9
  t37 := Tryd.underlying30
  a37 := Tryd.isAgg30
  z37 := Tryd.sizeOf30
  v37 := Tryd.zeroValue30
  t51 := Tryd.underlying51
  a51 := Tryd.isAgg51
  z51 := Tryd.sizeOf51
  v51 := Tryd.zeroValue51
  t53 := Tryd.underlying94
  a53 := Tryd.isAgg94
  z53 := Tryd.sizeOf94
  v53 := Tryd.zeroValue94 }
open Go.RowKit Go.Sort Go.Lib in
theorem sh_internal_strconv_formatBase10 (blk off cap : Nat) (u : Nat) (d : Array UInt8) (w : World) (hH : Holds (fun (b : UInt8) => Value.int .u8 (b.toNat : Int)) w blk off d) (hu : u < 10 ^ d.size) (hu64 : u < 18446744073709551616) (hsz : d.size < 4611686018427387904) :
    Calls Tryd.prog 70 #[.slice (some ⟨blk, off, none⟩) d.size cap, .int .u64 u] w fun e w' =>
      e = .returned (.tuple #[]) ∧ ∃ (n v' : Nat) (dk : Array UInt8), w' = (putRow (fun (b : UInt8) => Value.int .u8 (b.toNat : Int)) w blk off dk).drewN n ∧ FmtInv d.size u 0 v' dk := Any.internal_strconv_formatBase10 sh_lays285 blk off cap u d w hH hu hu64 hsz
def sh_laysM171_ren : Go.Shelf.Ren := ⟨fun | 171 => 46 | 243 => 59 | 246 => 64 | 283 => 68 | 284 => 69 | 285 => 70 | 286 => 71 | 129 => 73 | 317 => 72 | 318 => 74 | 319 => 75 | 320 => 76 | 337 => 77 | 338 => 78 | n => n, fun | 3 => 3 | 9 => 9 | 2 => 2 | 4 => 4 | 171 => 96 | 0 => 0 | 53 => 94 | 37 => 30 | 5 => 5 | 173 => 99 | 212 => 101 | 51 => 51 | 20 => 20 | 213 => 102 | 46 => 62 | 232 => 105 | 233 => 106 | n => n, fun | 17 => 1 | 18 => 2 | 19 => 3 | n => n⟩
theorem sh_laysM171 : Go.Proofs.LaysM.n171 Tryd.prog sh_laysM171_ren := {
  mixed := by kernel_rfl
  f129 := Tryd.func73.trans (congrArg some (by kernel_rfl))
  f171 := Tryd.func46.trans (congrArg some (by kernel_rfl))
  f243 := Tryd.func59.trans (congrArg some (by kernel_rfl))
  f246 := Tryd.func64.trans (congrArg some (by kernel_rfl))
  f283 := Tryd.func68.trans (congrArg some (by kernel_rfl))
  f284 := Tryd.func69.trans (congrArg some (by kernel_rfl))
  f285 := Tryd.func70.trans (congrArg some (by kernel_rfl))
  f286 := Tryd.func71.trans (congrArg some (by kernel_rfl))
  f317 := Tryd.func72.trans (congrArg some (by kernel_rfl))
  f318 := Tryd.func74.trans (congrArg some (by kernel_rfl))
  f319 := Tryd.func75.trans (congrArg some (by kernel_rfl))
  f320 := Tryd.func76.trans (congrArg some (by kernel_rfl))
  f337 := Tryd.func77.trans (congrArg some (by kernel_rfl))
  f338 := Tryd.func78.trans (congrArg some (by kernel_rfl))
  t0 := Tryd.underlying0
  a0 := Tryd.isAgg0
  z0 := Tryd.sizeOf0
  v0 := Tryd.zeroValue0
  t2 := Tryd.underlying2
  a2 := Tryd.isAgg2
  z2 := Tryd.sizeOf2
  v2 := Tryd.zeroValue2
  t3 := Tryd.underlying3
  a3 := Tryd.isAgg3
  z3 := Tryd.sizeOf3
  v3 := Tryd.zeroValue3
  t4 := Tryd.underlying4
  a4 := Tryd.isAgg4
  z4 := Tryd.sizeOf4
  v4 := Tryd.zeroValue4
  t5 := Tryd.underlying5
  a5 := Tryd.isAgg5
  z5 := Tryd.sizeOf5
  v5 := Tryd.zeroValue5
  t9 := Tryd.underlying9
  a9 := Tryd.isAgg9
  z9 := Tryd.sizeOf9
  v9 := Tryd.zeroValue9
  t20 := Tryd.underlying20
  a20 := Tryd.isAgg20
  z20 := Tryd.sizeOf20
  v20 := Tryd.zeroValue20
  t37 := Tryd.underlying30
  a37 := Tryd.isAgg30
  z37 := Tryd.sizeOf30
  v37 := Tryd.zeroValue30
  t46 := Tryd.underlying62
  a46 := Tryd.isAgg62
  z46 := Tryd.sizeOf62
  v46 := Tryd.zeroValue62
  t51 := Tryd.underlying51
  a51 := Tryd.isAgg51
  z51 := Tryd.sizeOf51
  v51 := Tryd.zeroValue51
  t53 := Tryd.underlying94
  a53 := Tryd.isAgg94
  z53 := Tryd.sizeOf94
  v53 := Tryd.zeroValue94
  t171 := Tryd.underlying96
  a171 := Tryd.isAgg96
  z171 := Tryd.sizeOf96
  v171 := Tryd.zeroValue96
  t173 := Tryd.underlying99
  a173 := Tryd.isAgg99
  z173 := Tryd.sizeOf99
  v173 := Tryd.zeroValue99
  t212 := Tryd.underlying101
  a212 := Tryd.isAgg101
  z212 := Tryd.sizeOf101
  v212 := Tryd.zeroValue101
  t213 := Tryd.underlying102
  a213 := Tryd.isAgg102
  z213 := Tryd.sizeOf102
  t232 := Tryd.underlying105
  a232 := Tryd.isAgg105
  z232 := Tryd.sizeOf105
  v232 := Tryd.zeroValue105
  t233 := Tryd.underlying106
  a233 := Tryd.isAgg106
  z233 := Tryd.sizeOf106
  v233 := Tryd.zeroValue106
  g17 := by kernel_rfl
  g18 := by kernel_rfl
  g19 := by kernel_rfl
  i0 := by kernel_rfl
  i2 := by kernel_rfl
  i3 := by kernel_rfl
  i4 := by kernel_rfl
  i5 := by kernel_rfl
  i9 := by kernel_rfl
  i20 := by kernel_rfl
  i37 := by kernel_rfl
  i46 := by kernel_rfl
  i51 := by kernel_rfl
  i53 := by kernel_rfl
  i171 := by kernel_rfl
  i173 := by kernel_rfl
  i212 := by kernel_rfl
  i232 := by kernel_rfl
  i233 := by kernel_rfl
  m17 := by kernel_rfl
  m18 := by kernel_rfl
  m19 := by kernel_rfl }
open Go.RowKit Go.Sort Go.Lib in
theorem sh_strconv_Itoa (n : Int) (h0 : -9223372036854775808 ≤ n) (h1 : n ≤ 9223372036854775807) (w : World) (htab : Lib.TabIs Tryd.prog w "internal/strconv.uint64pow10" .u64 Lib.pow10Tab) :
    Calls Tryd.prog 46 #[.int .i64 n] w fun e w' => e = .returned (.string ⟨(Lib.itoa n).toArray⟩) ∧ ∃ k os, w' = grow (w.drewN k) os := Any.strconv_Itoa sh_laysM171 n h0 h1 w htab
end Go.Proofs.YtdbdokjlcdogiaaDoor

/-
  The walk of strconv.AppendInt at base 10, at numbers that are not negative, behind a row whose block may bear a mark.
-/
namespace Go.Proofs.YtdbdokjlcdogiaaDoor
open Go.RowKit Go.Lib Go.Sort
set_option linter.unusedVariables false

/-- the library's table of powers reads as it is laid -/
def PowTab (w : World) : Prop := Lib.TabIs Tryd.prog w "internal/strconv.uint64pow10" .u64 Lib.pow10Tab

set_option maxRecDepth 100000 in
set_option maxHeartbeats 4000000 in
theorem appUint_small (w : World) (base : Nat) (A : Option Addr) (c : Nat) (T : List UInt8) (u : Nat) (ho : TextR w base A c T) (hb : base ≤ w.heap.size) (hu : u < 100) (hm : T.length ≤ 100000000) :
    Calls Tryd.prog 65 #[.slice A T.length c, .int .u64 (u : Int), .int .i64 10] w (PutL w base A c T (decDigits u)) := by
  have HO := hideP ho
  have hdl := dec_len (n := u) (by omega)
  clear ho
  generalize hP : PutL w base A c T (decDigits u) = P
  have HP := hideP (show ∀ A' c' T' w', Hid (T ++ decDigits u = T') → TextR w' base A' c' T' → Upd (fun b => (Value.slice A T.length c).ownBlock = some b) w w' → P (.returned (.slice A' T'.length c')) w' from fun A' c' T' w' h1 h2 h3 => by rw [← hP]; exact ⟨A', c', T', h1, rfl, h2, h3⟩)
  clear hP
  go_enter Tryd.func65, Tryd.ntmps65
  go_wp2_with (first
    | (go_at_call 68; refine (sh_internal_strconv_small u hu _).mono ?_; rintro e w' ⟨rfl, rfl⟩)
    | (at_builtin; refine text_append rfl _ _ rfl base _ _ T (decDigits u) rfl HO.out _ rfl rfl ?d1 hb ?_))
  case d1 => omega
  intro A8 c8 w8 T8 H8 o8 u8
  have HO8 := hideP o8
  have HU8 := hideP u8
  clear o8 u8
  go_wp2_with fail
  try go_ret
  exact HP.out _ _ _ _ H8 HO8.out HU8.out
set_option maxRecDepth 100000 in
set_option maxHeartbeats 12800000 in
theorem appUint_big (w : World) (base : Nat) (A : Option Addr) (c : Nat) (T : List UInt8) (u : Nat) (ho : TextR w base A c T) (hb : base ≤ w.heap.size) (hu : 100 ≤ u) (hul : u < 10000000) (hm : T.length ≤ 100000000) (htab : PowTab w) :
    Calls Tryd.prog 65 #[.slice A T.length c, .int .u64 (u : Int), .int .i64 10] w (PutL w base A c T (decDigits u)) := by
  have hdl := dec_len (n := u) (by omega)
  have hu1 : 1 ≤ u := by omega
  have hu64 : u < 18446744073709551616 := by omega
  have hnd20 : nDigits u ≤ 20 := by rw [← decDigits_length]; omega
  have hal : Tryd.prog.arrayLen 96 = 24 := by kernel_rfl
  have hel : Tryd.prog.elem 96 = 5 := by kernel_rfl
  have hsl : ∀ W, (Instr.sliceAt 96 (.pointer (some ⟨w.heap.size, 0, none⟩)) none (some (.int .i64 (nDigits u : Int))) none).run Tryd.prog W = .ok (.slice (some ⟨w.heap.size, 0, none⟩) (nDigits u) 24) W := fun W => by
    rw [run_sliceAt_array_h W 96 ⟨w.heap.size, 0, none⟩ (by kernel_rfl) .i64 (nDigits u : Int) (by omega) (by rw [hal]; omega)]
    go_simp
  have hH0 := Lib.holds_zero0 w 96 (nDigits u) (by omega)
  have hfmt := sh_internal_strconv_formatBase10 w.heap.size 0 24 u (Array.replicate (nDigits u) 0) (w.alloc (.cells Lib.zeros24 96)) hH0 (by rw [Array.size_replicate]; exact Lib.lt_pow_nDigits u) hu64 (by rw [Array.size_replicate]; omega)
  rw [Array.size_replicate] at hfmt
  have HH0 := Lib.hid hH0
  have HO := hideP ho
  have iu : (100 : Int) ≤ (u : Int) := by omega
  have HT := hideP htab
  clear hH0 hal hel ho htab
  generalize hP : PutL w base A c T (decDigits u) = P
  have HP := hideP (show ∀ A' c' T' w', Hid (T ++ decDigits u = T') → TextR w' base A' c' T' → Upd (fun b => (Value.slice A T.length c).ownBlock = some b) w w' → P (.returned (.slice A' T'.length c')) w' from fun A' c' T' w' h1 h2 h3 => by rw [← hP]; exact ⟨A', c', T', h1, rfl, h2, h3⟩)
  clear hP
  go_enter Tryd.func65, Tryd.ntmps65
  go_wp2_with (first
    | (go_at_call 69; refine (sh_internal_strconv_numDigits u hu1 hu64 _ (Lib.tabIs_alloc HT.out _)).mono ?_; rintro e w' ⟨rfl, rfl⟩)
    | (go_at_call 70; refine hfmt.mono ?_; rintro e w' ⟨rfl, k, v', dk, rfl, hF⟩; refine Hid.out ?_))
  have hcells : ∀ j u', (byteCells (decDigits u))[j]? = some u' → ((putRow (fun (b : UInt8) => Value.int .u8 (b.toNat : Int)) (w.alloc (.cells Lib.zeros24 96)) w.heap.size 0 dk).drewN k).cell? ((⟨w.heap.size, 0, none⟩ : Addr).add j) = some u' := by
    intro j u' hj
    have hjl : j < (decDigits u).length := by
      have h5 := (List.getElem?_eq_some_iff.1 hj).1
      rwa [byteCells_length] at h5
    have e5 : (byteCells (decDigits u))[j]? = some (Value.int .u8 ((decDigits u)[j].toNat : Int)) := by simp [byteCells, hjl]
    rw [e5] at hj
    cases hj
    rw [Lib.row_is_numeral hF j hjl, Lib.add_plain, World.cell?_drewN]
    exact cell?_putRow (fun (b : UInt8) => Value.int .u8 (b.toNat : Int)) _ w.heap.size 0 _ dk HH0.out (by rw [hF.size, Array.size_replicate]) j (by rw [hF.size]; rw [decDigits_length] at hjl; exact hjl)
  obtain ⟨os, eo⟩ := Lib.fin_at w (.cells Lib.zeros24 96) dk k 0
  have hU2 : Upd Nob w ((putRow (fun (b : UInt8) => Value.int .u8 (b.toNat : Int)) (w.alloc (.cells Lib.zeros24 96)) w.heap.size 0 dk).drewN k) := by
    rw [eo]
    exact (Upd.of_below (Lib.below_grow w.heap.size w (Nat.le_refl _) k os)).mono (fun j hj hk => absurd hj (by omega))
  generalize (putRow (fun (b : UInt8) => Value.int .u8 (b.toNat : Int)) (w.alloc (.cells Lib.zeros24 96)) w.heap.size 0 dk).drewN k = W2 at hcells hU2 ⊢
  have HC := hideP hcells
  have HU2 := hideP hU2
  have hs2 := hU2.size
  have HO2 := hideP (OwnT.upd HO.out hU2 (fun _ _ => not_nob))
  obtain ⟨i0, hi0, hz0, hz1, hz2⟩ := info_parts cinfo_u8
  clear eo HH0 hfmt hcells hU2 hF HO HT
  refine hideP ?_
  go_wp2_with (at_builtin; refine wpList_append_T rfl _ _ 30 rfl base 5 i0 (.int .u8 0) Tryd.underlying30 hi0 hz0 hz1 hz2 rfl _ _ _ rfl HO2.out ⟨w.heap.size, 0, none⟩ (nDigits u) 24 (byteCells (decDigits u)) rfl ?c0 HC.out ?c2 ?c3 ?c4 ?c5 ?_)
  case c0 => rw [byteCells_length, decDigits_length]
  case c2 => intro u' hu'; simp only [byteCells, List.mem_map] at hu'; obtain ⟨b, _, rfl⟩ := hu'; rfl
  case c3 => unfold maxLen; omega
  case c4 => omega
  case c5 => omega
  intro A8 c8 w8 o8 g8 hat
  have hl : T.length + nDigits u = (T ++ decDigits u).length := by simp [decDigits_length]
  rw [hl, ← byteCells_append] at o8
  rw [hl]
  have HO8 := hideP o8
  have HU8 := hideP ((HU2.out.mono (G := fun b => (Value.slice A T.length c).ownBlock = some b) (fun _ _ h => False.elim h)).trans ((Upd.refl (fun b => (Value.slice A T.length c).ownBlock = some b) W2).grown g8 (fun b hb _ => hb)) (fun b hb h => h))
  obtain ⟨T8, hT8⟩ : ∃ T8, T ++ decDigits u = T8 := ⟨_, rfl⟩
  rw [hT8] at HO8
  rw [hT8]
  have H8 := hideP hT8
  clear o8 g8 hat hl hT8
  go_wp2_with fail
  try go_ret
  exact HP.out _ _ _ _ H8 HO8.out HU8.out
theorem appUint (w : World) (base : Nat) (A : Option Addr) (c : Nat) (T : List UInt8) (u : Nat) (ho : TextR w base A c T) (hb : base ≤ w.heap.size) (hul : u < 10000000) (hm : T.length ≤ 100000000) (htab : PowTab w) :
    Calls Tryd.prog 65 #[.slice A T.length c, .int .u64 (u : Int), .int .i64 10] w (PutL w base A c T (decDigits u)) := by
  by_cases h : u < 100
  · exact appUint_small w base A c T u ho hb h hm
  · exact appUint_big w base A c T u ho hb (by omega) hul hm htab
set_option maxRecDepth 100000 in
set_option maxHeartbeats 4000000 in
theorem appInt_in (w : World) (base : Nat) (A : Option Addr) (c : Nat) (T : List UInt8) (u : Nat) (ho : TextR w base A c T) (hb : base ≤ w.heap.size) (hul : u < 10000000) (hm : T.length ≤ 100000000) (htab : PowTab w) :
    Calls Tryd.prog 60 #[.slice A T.length c, .int .i64 (u : Int), .int .i64 10] w (PutL w base A c T (decDigits u)) := by
  have H := hideP (appUint w base A c T u ho hb hul hm htab)
  clear ho htab
  generalize hP : PutL w base A c T (decDigits u) = P at *
  have HP := hideP hP
  clear hP
  go_enter Tryd.func60, Tryd.ntmps60
  go_wp2_with (go_at_call 65; refine H.out.mono ?_; intro e w' h; rw [← HP.out] at h; obtain ⟨A8, c8, T8, H8, rfl, h2, h3⟩ := h; have HH := hideP (show PutL w base A c T (decDigits u) (.returned (.slice A8 T8.length c8)) w' from ⟨A8, c8, T8, H8, rfl, h2, h3⟩); rw [HP.out] at HH; clear h2 h3)
  try go_ret
  exact HH.out
set_option maxRecDepth 100000 in
set_option maxHeartbeats 4000000 in
theorem appInt_any (w : World) (base : Nat) (A : Option Addr) (c : Nat) (T : List UInt8) (u : Nat) (ho : TextR w base A c T) (hb : base ≤ w.heap.size) (hul : u < 10000000) (hm : T.length ≤ 100000000) (htab : PowTab w) :
    Calls Tryd.prog 47 #[.slice A T.length c, .int .i64 (u : Int), .int .i64 10] w (PutL w base A c T (decDigits u)) := by
  have H := hideP (appInt_in w base A c T u ho hb hul hm htab)
  clear ho htab
  generalize hP : PutL w base A c T (decDigits u) = P at *
  have HP := hideP hP
  clear hP
  go_enter Tryd.func47, Tryd.ntmps47
  go_wp2_with (go_at_call 60; refine H.out.mono ?_; intro e w' h; rw [← HP.out] at h; obtain ⟨A8, c8, T8, H8, rfl, h2, h3⟩ := h; have HH := hideP (show PutL w base A c T (decDigits u) (.returned (.slice A8 T8.length c8)) w' from ⟨A8, c8, T8, H8, rfl, h2, h3⟩); rw [HP.out] at HH; clear h2 h3)
  try go_ret
  exact HH.out
end Go.Proofs.YtdbdokjlcdogiaaDoor

/-
  The walk of code.Print.
-/
namespace Go.Proofs.YtdbdokjlcdogiaaDoor
open Go.RowKit Go.Lib
set_option linter.unusedVariables false

/-- the operations' table reads as it is laid -/
def WordTab (w : World) : Prop := ∀ i : Nat, i < 8 → w.cell? ⟨0, i, none⟩ = some (.string (wordS i))
theorem WordTab.upd {w w' : World} (h : WordTab w) (hU : Upd Nob w w') : WordTab w' := fun i hi => (hU.cell (World.block_lt_of_cell? _ _ (h i hi)) not_nob).trans (h i hi)
theorem PowTab.upd {w w' : World} (h : PowTab w) (hU : Upd Nob w w') : PowTab w' := Lib.tabBelow_of_tabIs h w' (hU.below (Nat.le_refl _) (fun _ _ => not_nob))
theorem itoa_any (w2 w : World) (n : Nat) (hU : Upd Nob w2 w) (hn : n < 10000000) (hpt : PowTab w2) :
    Calls Tryd.prog 46 #[.int .i64 (n : Int)] w (fun e w' => ∃ s : ByteArray, e = .returned (.string s) ∧ Hid (s.data.toList = decDigits n) ∧ s.size ≤ 7 ∧ Upd Nob w2 w') := by
  refine (sh_strconv_Itoa (n : Int) (by omega) (by omega) w (hpt.upd hU)).mono ?_
  rintro e w' ⟨rfl, q, os, rfl⟩
  refine ⟨_, rfl, hideP (by rw [Lib.itoa_nonneg]), ?_, hU.trans ((Upd.of_below (Lib.below_grow w.heap.size w (Nat.le_refl _) q os)).mono (fun j hj hk => absurd hj (by omega))) (fun _ _ h => h)⟩
  rw [Lib.itoa_nonneg]
  exact dec_len hn
theorem upd_bytes {F : Nat → Prop} {w w' : World} (h : Upd F w w') (e : TypeId) (s : ByteArray) : Upd F w (Lib.bytesWorld w' e s) :=
  h.trans (Upd.mono (F := fun k => w'.heap.size ≤ k) (G := F) ⟨rfl, rfl, rfl, by rw [Lib.bytesWorld_size]; omega, fun k hk _ => Lib.bytesWorld_at_old w' e s k hk⟩ (fun k hk h => absurd hk (by omega))) (fun _ _ h => h)
theorem text_conv (w : World) (s : ByteArray) (hs : s.size ≤ 1000000000) : TextR (Lib.bytesWorld w 5 s) w.heap.size (some ⟨w.heap.size, 0, none⟩) (grownCap w s.size 0 5) s.data.toList := by
  have hge := grownCap_ge w s.size 0 5
  have hl : s.data.toList.length = s.size := by rw [Array.length_toList]; rfl
  have hsz : (Lib.bytesCells w 5 s).size = grownCap w s.size 0 5 := by
    unfold Lib.bytesCells
    simp only [Array.size_append, Array.size_map, Array.size_replicate]
    have : s.data.size = s.size := rfl
    omega
  refine ⟨by rw [byteCells_length], .inr ⟨w.heap.size, grownCap w s.size 0 5, Lib.bytesCells w 5 s, _, by rw [hl], Nat.le_refl _, Lib.bytesWorld_at_new w _ s, .inr (Nat.le_refl _), by omega, grownCap_le_maxLen w s.size 0 _ (by unfold maxLen; omega), hsz, ?_⟩⟩
  unfold Lib.bytesCells
  rw [hl, Array.toList_append, List.take_left' (by rw [Array.length_toList, Array.size_map]; rfl), Array.toList_map]
  rfl

set_option maxRecDepth 100000 in
set_option maxHeartbeats 4000000 in
theorem print_any (w : World) (S : Nat → Prop) (A : Option Addr) (n c : Nat) (is : List PInst) (start caps : Int) (h : InstsR w S A n is) (hs : In64 start) (hc : In64 caps) (hn : n ≤ 140737488355328) (hpt : PowTab w) (hwt : WordTab w) :
    Calls Tryd.prog 22 #[.agg #[.slice A n c, .int .i64 start, .int .i64 caps]] w (TextAns w (textOf is start caps)) := by
  obtain rfl : is.length = n := h.len
  have C0 := Cells.new w 24 #[.slice A is.length c, .int .i64 start, .int .i64 caps]
  have hU := (Upd.refl Nob w).alloc (.cells #[.slice A is.length c, .int .i64 start, .int .i64 caps] 24)
  have HI := hideP h
  have HPT := hideP (hpt.upd hU)
  have HWT := hideP (hwt.upd hU)
  clear h hpt hwt
  generalize hP : TextAns w (textOf is start caps) = P
  have HP := hideP (show ∀ R w', textOf is start caps = R → Upd Nob w w' → P (.returned (.tuple #[.string ⟨R.1.toArray⟩, .int .i64 R.2])) w' from fun R w' h1 h3 => by rw [← hP, h1]; exact ⟨rfl, h3⟩)
  clear hP
  go_enter Tryd.func22, Tryd.ntmps22
  go_upto_region 1 with fail
  generalize w.alloc (.cells #[.slice A is.length c, .int .i64 start, .int .i64 caps] 24) = w2 at *
  have HC := hideP C0
  have HU := hideP hU
  have e0 : w2.cell? ⟨w.heap.size, 0, none⟩ = some (.slice A is.length c) := C0.cellv rfl
  have e1 : w2.cell? ⟨w.heap.size, 0 + 1, none⟩ = some (.int .i64 start) := C0.cellv rfl
  have e2 : w2.cell? ⟨w.heap.size, 0 + 2, none⟩ = some (.int .i64 caps) := C0.cellv rfl
  have HI2 := hideP (HI.out.upd hU (fun _ _ => not_nob))
  clear C0 hU HI
  cases hv : checkB is start caps
  · have HB := hideP (show textOf is start caps = ([], 90) by unfold textOf; rw [hv]; rfl)
    have HE := hideP (show errOf (checkB is start caps) = 90 by rw [hv]; rfl)
    clear hv
    go_wp2_with (go_at_call 37; refine (check_any _ S A is.length c is start caps HI2.out hs hc hn).mono ?_; rintro e w3 ⟨he, hU3⟩; rw [HE.out] at he; subst he)
    try go_ret
    exact HP.out ([], 90) _ HB.out (HU.out.trans hU3 (fun _ _ h => h))
  have F := fineP hv
  obtain ⟨l0, l1, s0, s1, k0, k1, hfi⟩ := F
  have HF := hideP hfi
  obtain ⟨cN, rfl⟩ := Int.eq_ofNat_of_zero_le (show 0 ≤ caps by omega)
  obtain ⟨sN, rfl⟩ := Int.eq_ofNat_of_zero_le s0
  have HB := hideP (show textOf is sN cN = match linesT is (headT sN cN) with | some b => (b, 0) | none => ([], 3) by unfold textOf; rw [hv]; rfl)
  have HE := hideP (show errOf (checkB is sN cN) = 0 by rw [hv]; rfl)
  clear hv hfi
  go_upto_region 4 with (go_at_call 37; refine (check_any _ S A is.length c is sN cN HI2.out hs hc hn).mono ?_; rintro e w3 ⟨he, hU3⟩; rw [HE.out] at he; subst he)
  have hsz2 := HU.out.size
  have hle3 := hU3.size
  have HU3 := hideP hU3
  have HSL := hideP (show ∀ w', Upd Nob w2 w' → (w'.cell? ⟨w.heap.size, 0 + 2, none⟩ = some (.int .i64 (cN : Int)) ∧ w'.cell? ⟨w.heap.size, 0 + 1, none⟩ = some (.int .i64 (sN : Int))) from fun w' hv => ⟨(HC.out.upd hv not_nob).cellv rfl, (HC.out.upd hv not_nob).cellv rfl⟩)
  have kc : ∀ (W : World) (s : ByteArray), (convert 9 30 (.string s)).run Tryd.prog W = .ok (.slice (some ⟨W.heap.size, 0, none⟩) s.size (grownCap W s.size 0 5)) (Lib.bytesWorld W 5 s) := fun W s => Lib.run_convert_string_bytes W _ _ _ s Tryd.underlying9 Tryd.underlying30 Tryd.underlying5
  have HU0 := hideP (HU3.out.drew)
  have pl1 := dec_len (n := cN) (by omega)
  have pl2 := dec_len (n := sN) (by omega)
  clear e0 e1 e2 hU3
  go_region_held (fun w' => w'.cell? ⟨w.heap.size, 0 + 2, none⟩ = some (.int .i64 (cN : Int)) ∧ w'.cell? ⟨w.heap.size, 0 + 1, none⟩ = some (.int .i64 (sN : Int)))
    (first | exact HSL.out _ (upd_bytes HU6.out _ _) | exact HSL.out _ HU6.out | exact HSL.out _ HU5.out | exact HSL.out _ HU0.out)
    (first
    | (go_at_call 46; have hh5 := HU5.out; refine (itoa_any w2 _ sN hh5 (by omega) HPT.out).mono ?_; rintro e w6 ⟨s6, rfl, HS6, hz6, u6⟩; have HU6 := hideP u6; have kk3 : ¬ 9223372036854775807 < 5 + s5.size + 7 + s6.size := (by omega); have kk4 : ¬ 9223372036854775807 < 5 + s5.size + 7 + s6.size + 1 := (by omega); clear u6 hh5)
    | (go_at_call 46; refine (itoa_any w2 _ cN HU0.out (by omega) HPT.out).mono ?_; rintro e w5 ⟨s5, rfl, HS5, hz5, u5⟩; have HU5 := hideP u5; have kk1 : ¬ 9223372036854775807 < 5 + s5.size := (by omega); have kk2 : ¬ 9223372036854775807 < 5 + s5.size + 7 := (by omega); clear u5))
  obtain ⟨sx, hsx⟩ : ∃ sx : ByteArray, ((⟨#[99, 97, 112, 115, 32]⟩ : ByteArray) ++ s5 ++ ⟨#[32, 115, 116, 97, 114, 116, 32]⟩ ++ s6 ++ ⟨#[10]⟩) = sx := ⟨_, rfl⟩
  have hlen : 5 + s5.size + 7 + s6.size + 1 = sx.size := by
    rw [← hsx]
    simp only [ByteArray.size_append]
    rfl
  have hT8 : sx.data.toList = headT sN cN := by
    rw [← hsx]
    simp only [ByteArray.data_append, Array.toList_append, HS5.out, HS6.out]
    simp [headT]
  rw [hlen, hsx]
  have HX := text_conv w6 sx (by omega)
  have HU8 := hideP (upd_bytes HU6.out 5 sx)
  rw [show sx.size = (headT sN cN).length by rw [← hT8, Array.length_toList]; rfl] at *
  rw [hT8] at HX
  have hbl := headT_len (start := (sN : Int)) (caps := (cN : Int)) (by omega) (by omega)
  have hne8 : headT sN cN ≠ [] := by unfold headT; simp
  obtain ⟨T8, hT8'⟩ : ∃ T8, headT sN cN = T8 := ⟨_, rfl⟩
  rw [hT8'] at HB HX hbl hne8 ⊢
  generalize grownCap w6 T8.length 0 5 = c8 at *
  generalize Lib.bytesWorld w6 5 sx = w8 at *
  have hs6 := HU6.out.size
  have HO8 := hideP (show TextR w8 w2.heap.size (some ⟨w6.heap.size, 0, none⟩) c8 T8 from OwnT.base_ HX (fun g hg => by simp [Value.ownBlock] at hg; omega))
  have HNE := hideP hne8
  have e0 : w8.cell? ⟨w.heap.size, 0, none⟩ = some (.slice A is.length c) := (HC.out.upd HU8.out not_nob).cellv rfl
  generalize w6.heap.size = g8 at *
  clear hlen hT8 hT8' hsx HX hne8 kc kk1 kk2 kk3 kk4 HU0 HU3 HU5 HU6 HSL
  go_upto_region 5 with fail
  go_wp2_with fail
  go_loopg [5, 29] is.length (fun gk v5 v29 wr => ∃ (k : Nat) (T : List UInt8) (A' : Option Addr) (c' : Nat), k + gk = is.length ∧ v29 = .int .i64 (k : Int) ∧ v5 = .slice A' T.length c' ∧ TextR wr w2.heap.size A' c' T ∧ linesT (is.drop k) T = linesT is T8 ∧ T.length ≤ 8388608 ∧ T ≠ [] ∧ Upd Nob w2 wr)
  case atStart => exact ⟨0, T8, _, c8, by omega, rfl, rfl, HO8.out, rfl, by omega, HNE.out, HU8.out⟩
  case round =>
    obtain ⟨k, T, A', c', hk, rfl, rfl, ho, hq, hbs, hne, hU⟩ := hrel
    have HOo := hideP ho
    have HQ := hideP hq
    have HUu := hideP hU
    have HNe := hideP hne
    have hszr := hU.size
    clear ho hq hne
    by_cases hlt : k < is.length
    · have gk1 : (k : Int) < (is.length : Int) := by omega
      obtain ⟨ad, g, o, x, B, m, c2, rfl, hx, hadd, -, hg, hR, hI, d0, d1, d3, d4, d5⟩ := HI2.out.at1 hlt
      have c0 := (hU.cell (World.block_lt_of_cell? _ _ d0) not_nob).trans d0
      have c1 := (hU.cell (World.block_lt_of_cell? _ _ d1) not_nob).trans d1
      have c3 := (hU.cell (World.block_lt_of_cell? _ _ d3) not_nob).trans d3
      have c4 := (hU.cell (World.block_lt_of_cell? _ _ d4) not_nob).trans d4
      have c5 := (hU.cell (World.block_lt_of_cell? _ _ d5) not_nob).trans d5
      clear d0 d1 d3 d4 d5
      obtain rfl : x.rs.length = m := hR.len
      have hfx := HF.out x (List.mem_of_getElem? hx)
      have HST := hideP (linesT_drop T hx)
      have HR := hideP hR
      have hop0 := hfx.op0
      have hop1 := hfx.op1
      have hrs := hfx.rs
      have HNL := hideP (numsOf_len hrs)
      have HNI := hideP hfx.nums
      clear hx hR hI hfx
      have C2 := Cells.new wr 48 #[.int .i64 x.op, .int .i64 x.x, .int .i64 x.y, .int .i64 x.arg, .slice B x.rs.length c2]
      have hU1 := (Upd.refl Nob wr).alloc (.cells #[.int .i64 x.op, .int .i64 x.x, .int .i64 x.y, .int .i64 x.arg, .slice B x.rs.length c2] 48)
      have HO4 := hideP (OwnT.alloc HOo.out (.cells #[.int .i64 x.op, .int .i64 x.x, .int .i64 x.y, .int .i64 x.arg, .slice B x.rs.length c2] 48))
      have HU4 := hideP (hU.alloc (.cells #[.int .i64 x.op, .int .i64 x.x, .int .i64 x.y, .int .i64 x.arg, .slice B x.rs.length c2] 48))
      go_upto_region 8 with fail
      generalize wr.alloc (.cells #[.int .i64 x.op, .int .i64 x.x, .int .i64 x.y, .int .i64 x.arg, .slice B x.rs.length c2] 48) = w4 at *
      generalize hxb : wr.heap.size = xb at *
      have HXB := hideP hxb
      clear hxb
      have l0 : w4.cell? ⟨xb, 0, none⟩ = some (.int .i64 x.op) := C2.cellv rfl
      have HC2 := hideP C2
      have hs4 := HU4.out.size
      have hxl := C2.lt
      have hwo : ∃ oN : Nat, x.op = (oN : Int) ∧ oN < 8 := ⟨x.op.toNat, by omega, by omega⟩
      have hwt : w4.cell? ⟨0, x.op.toNat, none⟩ = some (.string (wordS x.op)) := by
        have := HWT.out.upd HU4.out x.op.toNat (by omega)
        rwa [Int.toNat_of_nonneg (by omega)] at this
      have hwl := wordT_len x.op
      have hws : (wordS x.op).size ≤ 6 := hwl
      have kw : ¬ 9223372036854775807 < 2 + (wordS x.op).size := by omega
      clear C2 hU1 hU c0 c1 c3 c4 c5 hadd hg hwo
      go_wp2_with (at_builtin; refine text_append rfl _ _ rfl w2.heap.size _ _ T ([32, 32] ++ wordT x.op) rfl HO4.out _ rfl ?d0 ?d1 hs4 ?_)
      case d0 => simp [ByteArray.data_append, wordS]
      case d1 => simp only [List.length_append, List.length_cons, List.length_nil]; omega
      intro A9 c9 w9 T9 H9 o9 u9
      have HO9 := hideP o9
      have HU9 := hideP (TextR.step HO4.out HU4.out u9)
      have hl9 := cat_len H9
      have hs9 := HU9.out.size
      simp only [List.length_cons] at hl9
      have hC9 : Cells w9 xb 48 #[.int .i64 x.op, .int .i64 x.x, .int .i64 x.y, .int .i64 x.arg, .slice B x.rs.length c2] := HC2.out.upd u9 (fun h => OwnT.ne HO4.out HC2.out (by decide) h)
      have n0 : w9.cell? ⟨xb, 0, none⟩ = some (.int .i64 x.op) := hC9.cellv rfl
      have n1 : w9.cell? ⟨xb, 1, none⟩ = some (.int .i64 x.x) := hC9.cellv rfl
      have n2 : w9.cell? ⟨xb, 2, none⟩ = some (.int .i64 x.y) := hC9.cellv rfl
      have n3 : w9.cell? ⟨xb, 3, none⟩ = some (.int .i64 x.arg) := hC9.cellv rfl
      have n4 : w9.cell? ⟨xb, 4, none⟩ = some (.slice B x.rs.length c2) := hC9.cellv rfl
      have HR9 := hideP (HR.out.upd HU9.out (fun _ _ => not_nob))
      clear o9 u9 hC9 l0 hwt kw
      go_wp2_with (go_at_call 39; refine (numbers_any w9 S B c2 x HR9.out hrs).mono ?_; rintro e w10 ⟨NA, nc, rfl, o10, u10⟩; have HO10 := hideP o10; have HU10 := hideP (HU9.out.trans u10 (fun _ _ h => h)); have HT10 := hideP (OwnT.upd HO9.out u10 (fun _ _ => not_nob)); clear o10 u10)
      clear n0 n1 n2 n3 n4
      have HK := hideP hk
      obtain ⟨nN, hnN⟩ : ∃ nN, (numsOf x).length = nN := ⟨_, rfl⟩
      rw [hnN] at HNL
      have hnl := HNL.out
      rw [hnN] at HO10
      rw [hnN]
      have HNN := hideP hnN
      clear hk hnN
      go_loopg [5, 43] nN (fun gj v5 v43 wq => ∃ (j : Nat) (T2 : List UInt8) (A2 : Option Addr) (c3 : Nat), j + gj = nN ∧ v43 = .int .i64 (j : Int) ∧ v5 = .slice A2 T2.length c3 ∧ TextR wq w2.heap.size A2 c3 T2 ∧ T2 ++ ((numsOf x).drop j).flatMap numT = T9 ++ (numsOf x).flatMap numT ∧ T2.length ≤ 8388616 + 8 * j ∧ T2 ≠ [] ∧ wq.ownsRow w9.heap.size 3 1 (.slice NA nN nc) nN ((numsOf x).map (Value.int .i64)) ∧ Upd Nob w2 wq)
      case atStart => exact ⟨0, T9, A9, c9, by omega, rfl, rfl, HT10.out, rfl, by omega, cat_ne H9 HNe.out, HO10.out, HU10.out⟩
      case round =>
        obtain ⟨j, T2, A2, c3, hj, rfl, rfl, ho2, hq2, hb2l, hne2, ho3, hU2⟩ := hrel
        have HO2 := hideP ho2
        have HQ2 := hideP hq2
        have HN3 := hideP ho3
        have HU2 := hideP hU2
        have HNe2 := hideP hne2
        have hsz2' := hU2.size
        clear ho2 hq2 hU2 hne2
        by_cases hjl : j < nN
        · have g2 : (j : Int) < (nN : Int) := by omega
          obtain ⟨ad2, u, rfl, -, -, hu, hcell⟩ := (Reads.of_own ho3).at1 hjl
          simp only [List.getElem?_map, Option.map_eq_some_iff] at hu
          obtain ⟨n0, hn0, rfl⟩ := hu
          obtain ⟨z0, z1⟩ := HNI.out n0 (List.mem_of_getElem? hn0)
          have HFD := hideP (flat_drop numT hn0)
          obtain ⟨n1, rfl⟩ := Int.eq_ofNat_of_zero_le z0
          have HJ := hideP hj
          clear hn0 ho3 hj
          go_wp2_with (at_builtin; refine text_byte rfl _ _ rfl w2.heap.size _ _ T2 rfl wr 32 rfl HO2.out 32 rfl rfl ?f1 hsz2' ?_)
          case f1 => omega
          intro A11 c11 w11 T11 H11 o11 u11
          have HO11 := hideP o11
          have HU11 := hideP (HO2.out.step HU2.out u11)
          have HN11 := hideP (own_upd HN3.out u11 (fun b hb h => by
              obtain ⟨cur, hcur, -⟩ := own_cells HN3.out hb
              exact OwnT.ne HO2.out hcur (by decide) h))
          have hl11 := cat_len H11
          have hs11 := HU11.out.size
          simp only [List.length_cons, List.length_nil] at hl11
          have hp4 := dec_len (n := n1) (by omega)
          clear o11 u11 hcell
          go_wp2_with (go_at_call 47; refine (appInt_any _ w2.heap.size _ _ T11 n1 HO11.out hs11 (by omega) (by omega) (HPT.out.upd HU11.out)).mono ?_; rintro e w12 ⟨A12, c12, T12, H12, rfl, o12, u12⟩; have HO12 := hideP o12; have HU12 := hideP u12; have hl12 := cat_len H12; clear o12 u12)
          have hj := HJ.out
          go_roundg (nN - (j + 1))
          case measure => omega
          case rel => exact ⟨j + 1, T12, A12, c12, by omega, by go_num, rfl, HO12.out, by
            have h := HQ2.out
            rw [HFD.out] at h
            rw [← H12.out, ← H11.out, ← h]
            simp [numT], by omega, cat_ne H12 (cat_ne H11 HNe2.out), own_upd HN11.out HU12.out (fun b hb h => by
              obtain ⟨cur, hcur, -⟩ := own_cells HN11.out hb
              exact OwnT.ne HO11.out hcur (by decide) h), HO11.out.step HU11.out HU12.out⟩
        · have g2 : ¬ (j : Int) < (nN : Int) := by omega
          obtain rfl : j = nN := by omega
          have hb3 : T2 = T9 ++ (numsOf x).flatMap numT := by
            have h := HQ2.out
            rw [List.drop_of_length_le (by rw [HNN.out]; exact Nat.le_refl _)] at h
            simpa using h
          have HB3 := hideP hb3
          clear hb3 hj ho3
          go_upto_region 15 with fail
          go_wp2_with (at_builtin; refine text_byte rfl _ _ rfl w2.heap.size _ _ T2 rfl wr 10 rfl HO2.out 10 rfl rfl ?g1 hsz2' ?_)
          case g1 => omega
          intro A13 c13 w13 T13 H13 o13 u13
          have HO13 := hideP o13
          have HU13 := hideP (HO2.out.step HU2.out u13)
          have hl13 := cat_len H13
          have hs13 := HU13.out.size
          have HLN := hideP (show T13 = T ++ lineT x by
            rw [← H13.out, HB3.out, ← H9.out]
            simp [lineT])
          have HNE13 := hideP (cat_ne H13 HNe2.out)
          simp only [List.length_cons, List.length_nil] at hl13
          clear o13 u13
          by_cases hbig : 8388608 < T13.length
          · have hbig' : (8388608 : Int) < (T13.length : Int) := by omega
            have HNO := hideP (show linesT is T8 = none by rw [← HQ.out, HST.out, ← HLN.out, if_pos hbig])
            go_wp2_with fail
            try go_ret
            exact HP.out ([], 3) _ (by rw [HB.out, HNO.out]) (HU.out.trans HU13.out (fun _ _ h => h))
          · have hbig' : ¬ (8388608 : Int) < (T13.length : Int) := by omega
            have HYES := hideP (show linesT (is.drop (k + 1)) T13 = linesT is T8 by rw [← HQ.out, HST.out, ← HLN.out, if_neg hbig])
            go_wp2_with fail
            have hk := HK.out
            go_roundg (is.length - (k + 1))
            case measure => omega
            case rel => exact ⟨k + 1, T13, A13, c13, by omega, by go_num, rfl, HO13.out, HYES.out, by omega, HNE13.out, HU13.out⟩
    · have g1 : ¬ (k : Int) < (is.length : Int) := by omega
      obtain rfl : k = is.length := by omega
      have HY := hideP (show linesT is T8 = some T by rw [← HQ.out, List.drop_length]; rfl)
      have hcv := text_string HOo.out HNe.out
      clear hk
      go_wp2_with fail
      try go_ret
      exact HP.out (T, 0) _ (by rw [HB.out, HY.out]) (HU.out.trans HUu.out (fun _ _ h => h))
end Go.Proofs.YtdbdokjlcdogiaaDoor
