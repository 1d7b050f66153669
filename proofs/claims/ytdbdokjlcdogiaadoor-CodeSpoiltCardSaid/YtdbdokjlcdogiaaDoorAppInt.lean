/-
  The walk of strconv.AppendInt at base 10, at numbers that are not negative, behind a row whose block may bear a mark.
-/
import Derived.Test.YtdbdokjlcdogiaaDoorTextW
import Derived.Test.YtdbdokjlcdogiaaDoorShelf
import Derived.Lib.AppendIntMem
import Derived.Lib.ItoaMem
import Derived.Lib.Walk
import Derived.Lib.Slices
import Derived.BigCall
import Derived.BigGuard
namespace Go.Proofs.YtdbdokjlcdogiaaDoor
open Go.RowKit Go.Lib Go.Sort
set_option linter.unusedVariables false

/-- the library's table of powers reads as it is laid -/
def PowTab (w : World) : Prop := Lib.TabIs Tryd.prog w "internal/strconv.uint64pow10" .u64 Lib.pow10Tab

set_option maxRecDepth 100000 in
set_option maxHeartbeats 4000000 in
theorem appUint_small (w : World) (base : Nat) (A : Option Addr) (c : Nat) (T : List UInt8) (u : Nat) (ho : TextR w base A c T) (hb : base ≤ w.heap.size) (hu : u < 100) (hm : T.length ≤ 100000000) :
    Calls Tryd.prog 65 #[.slice A T.length c, .int .u64 (u : Int), .int .i64 10] w (PutL w base A c T (decDigits u)) := by
  have HO := hideP ho
  have hdl := dec_len (n := u) (by omega)
  clear ho
  generalize hP : PutL w base A c T (decDigits u) = P
  have HP := hideP (show ∀ A' c' T' w', Hid (T ++ decDigits u = T') → TextR w' base A' c' T' → Upd (fun b => (Value.slice A T.length c).ownBlock = some b) w w' → P (.returned (.slice A' T'.length c')) w' from fun A' c' T' w' h1 h2 h3 => by rw [← hP]; exact ⟨A', c', T', h1, rfl, h2, h3⟩)
  clear hP
  go_enter Tryd.func65, Tryd.ntmps65
  go_wp2_with (first
    | (go_at_call 68; refine (sh_internal_strconv_small u hu _).mono ?_; rintro e w' ⟨rfl, rfl⟩)
    | (at_builtin; refine text_append rfl _ _ rfl base _ _ T (decDigits u) rfl HO.out _ rfl rfl ?d1 hb ?_))
  case d1 => omega
  intro A8 c8 w8 T8 H8 o8 u8
  have HO8 := hideP o8
  have HU8 := hideP u8
  clear o8 u8
  go_wp2_with fail
  try go_ret
  exact HP.out _ _ _ _ H8 HO8.out HU8.out
set_option maxRecDepth 100000 in
set_option maxHeartbeats 12800000 in
theorem appUint_big (w : World) (base : Nat) (A : Option Addr) (c : Nat) (T : List UInt8) (u : Nat) (ho : TextR w base A c T) (hb : base ≤ w.heap.size) (hu : 100 ≤ u) (hul : u < 10000000) (hm : T.length ≤ 100000000) (htab : PowTab w) :
    Calls Tryd.prog 65 #[.slice A T.length c, .int .u64 (u : Int), .int .i64 10] w (PutL w base A c T (decDigits u)) := by
  have hdl := dec_len (n := u) (by omega)
  have hu1 : 1 ≤ u := by omega
  have hu64 : u < 18446744073709551616 := by omega
  have hnd20 : nDigits u ≤ 20 := by rw [← decDigits_length]; omega
  have hal : Tryd.prog.arrayLen 96 = 24 := by kernel_rfl
  have hel : Tryd.prog.elem 96 = 5 := by kernel_rfl
  have hsl : ∀ W, (Instr.sliceAt 96 (.pointer (some ⟨w.heap.size, 0, none⟩)) none (some (.int .i64 (nDigits u : Int))) none).run Tryd.prog W = .ok (.slice (some ⟨w.heap.size, 0, none⟩) (nDigits u) 24) W := fun W => by
    rw [run_sliceAt_array_h W 96 ⟨w.heap.size, 0, none⟩ (by kernel_rfl) .i64 (nDigits u : Int) (by omega) (by rw [hal]; omega)]
    go_simp
  have hH0 := Lib.holds_zero0 w 96 (nDigits u) (by omega)
  have hfmt := sh_internal_strconv_formatBase10 w.heap.size 0 24 u (Array.replicate (nDigits u) 0) (w.alloc (.cells Lib.zeros24 96)) hH0 (by rw [Array.size_replicate]; exact Lib.lt_pow_nDigits u) hu64 (by rw [Array.size_replicate]; omega)
  rw [Array.size_replicate] at hfmt
  have HH0 := Lib.hid hH0
  have HO := hideP ho
  have iu : (100 : Int) ≤ (u : Int) := by omega
  have HT := hideP htab
  clear hH0 hal hel ho htab
  generalize hP : PutL w base A c T (decDigits u) = P
  have HP := hideP (show ∀ A' c' T' w', Hid (T ++ decDigits u = T') → TextR w' base A' c' T' → Upd (fun b => (Value.slice A T.length c).ownBlock = some b) w w' → P (.returned (.slice A' T'.length c')) w' from fun A' c' T' w' h1 h2 h3 => by rw [← hP]; exact ⟨A', c', T', h1, rfl, h2, h3⟩)
  clear hP
  go_enter Tryd.func65, Tryd.ntmps65
  go_wp2_with (first
    | (go_at_call 69; refine (sh_internal_strconv_numDigits u hu1 hu64 _ (Lib.tabIs_alloc HT.out _)).mono ?_; rintro e w' ⟨rfl, rfl⟩)
    | (go_at_call 70; refine hfmt.mono ?_; rintro e w' ⟨rfl, k, v', dk, rfl, hF⟩; refine Hid.out ?_))
  have hcells : ∀ j u', (byteCells (decDigits u))[j]? = some u' → ((putRow (fun (b : UInt8) => Value.int .u8 (b.toNat : Int)) (w.alloc (.cells Lib.zeros24 96)) w.heap.size 0 dk).drewN k).cell? ((⟨w.heap.size, 0, none⟩ : Addr).add j) = some u' := by
    intro j u' hj
    have hjl : j < (decDigits u).length := by
      have h5 := (List.getElem?_eq_some_iff.1 hj).1
      rwa [byteCells_length] at h5
    have e5 : (byteCells (decDigits u))[j]? = some (Value.int .u8 ((decDigits u)[j].toNat : Int)) := by simp [byteCells, hjl]
    rw [e5] at hj
    cases hj
    rw [Lib.row_is_numeral hF j hjl, Lib.add_plain, World.cell?_drewN]
    exact cell?_putRow (fun (b : UInt8) => Value.int .u8 (b.toNat : Int)) _ w.heap.size 0 _ dk HH0.out (by rw [hF.size, Array.size_replicate]) j (by rw [hF.size]; rw [decDigits_length] at hjl; exact hjl)
  obtain ⟨os, eo⟩ := Lib.fin_at w (.cells Lib.zeros24 96) dk k 0
  have hU2 : Upd Nob w ((putRow (fun (b : UInt8) => Value.int .u8 (b.toNat : Int)) (w.alloc (.cells Lib.zeros24 96)) w.heap.size 0 dk).drewN k) := by
    rw [eo]
    exact (Upd.of_below (Lib.below_grow w.heap.size w (Nat.le_refl _) k os)).mono (fun j hj hk => absurd hj (by omega))
  generalize (putRow (fun (b : UInt8) => Value.int .u8 (b.toNat : Int)) (w.alloc (.cells Lib.zeros24 96)) w.heap.size 0 dk).drewN k = W2 at hcells hU2 ⊢
  have HC := hideP hcells
  have HU2 := hideP hU2
  have hs2 := hU2.size
  have HO2 := hideP (OwnT.upd HO.out hU2 (fun _ _ => not_nob))
  obtain ⟨i0, hi0, hz0, hz1, hz2⟩ := info_parts cinfo_u8
  clear eo HH0 hfmt hcells hU2 hF HO HT
  refine hideP ?_
  go_wp2_with (at_builtin; refine wpList_append_T rfl _ _ 30 rfl base 5 i0 (.int .u8 0) Tryd.underlying30 hi0 hz0 hz1 hz2 rfl _ _ _ rfl HO2.out ⟨w.heap.size, 0, none⟩ (nDigits u) 24 (byteCells (decDigits u)) rfl ?c0 HC.out ?c2 ?c3 ?c4 ?c5 ?_)
  case c0 => rw [byteCells_length, decDigits_length]
  case c2 => intro u' hu'; simp only [byteCells, List.mem_map] at hu'; obtain ⟨b, _, rfl⟩ := hu'; rfl
  case c3 => unfold maxLen; omega
  case c4 => omega
  case c5 => omega
  intro A8 c8 w8 o8 g8 hat
  have hl : T.length + nDigits u = (T ++ decDigits u).length := by simp [decDigits_length]
  rw [hl, ← byteCells_append] at o8
  rw [hl]
  have HO8 := hideP o8
  have HU8 := hideP ((HU2.out.mono (G := fun b => (Value.slice A T.length c).ownBlock = some b) (fun _ _ h => False.elim h)).trans ((Upd.refl (fun b => (Value.slice A T.length c).ownBlock = some b) W2).grown g8 (fun b hb _ => hb)) (fun b hb h => h))
  obtain ⟨T8, hT8⟩ : ∃ T8, T ++ decDigits u = T8 := ⟨_, rfl⟩
  rw [hT8] at HO8
  rw [hT8]
  have H8 := hideP hT8
  clear o8 g8 hat hl hT8
  go_wp2_with fail
  try go_ret
  exact HP.out _ _ _ _ H8 HO8.out HU8.out
theorem appUint (w : World) (base : Nat) (A : Option Addr) (c : Nat) (T : List UInt8) (u : Nat) (ho : TextR w base A c T) (hb : base ≤ w.heap.size) (hul : u < 10000000) (hm : T.length ≤ 100000000) (htab : PowTab w) :
    Calls Tryd.prog 65 #[.slice A T.length c, .int .u64 (u : Int), .int .i64 10] w (PutL w base A c T (decDigits u)) := by
  by_cases h : u < 100
  · exact appUint_small w base A c T u ho hb h hm
  · exact appUint_big w base A c T u ho hb (by omega) hul hm htab
set_option maxRecDepth 100000 in
set_option maxHeartbeats 4000000 in
theorem appInt_in (w : World) (base : Nat) (A : Option Addr) (c : Nat) (T : List UInt8) (u : Nat) (ho : TextR w base A c T) (hb : base ≤ w.heap.size) (hul : u < 10000000) (hm : T.length ≤ 100000000) (htab : PowTab w) :
    Calls Tryd.prog 60 #[.slice A T.length c, .int .i64 (u : Int), .int .i64 10] w (PutL w base A c T (decDigits u)) := by
  have H := hideP (appUint w base A c T u ho hb hul hm htab)
  clear ho htab
  generalize hP : PutL w base A c T (decDigits u) = P at *
  have HP := hideP hP
  clear hP
  go_enter Tryd.func60, Tryd.ntmps60
  go_wp2_with (go_at_call 65; refine H.out.mono ?_; intro e w' h; rw [← HP.out] at h; obtain ⟨A8, c8, T8, H8, rfl, h2, h3⟩ := h; have HH := hideP (show PutL w base A c T (decDigits u) (.returned (.slice A8 T8.length c8)) w' from ⟨A8, c8, T8, H8, rfl, h2, h3⟩); rw [HP.out] at HH; clear h2 h3)
  try go_ret
  exact HH.out
set_option maxRecDepth 100000 in
set_option maxHeartbeats 4000000 in
theorem appInt_any (w : World) (base : Nat) (A : Option Addr) (c : Nat) (T : List UInt8) (u : Nat) (ho : TextR w base A c T) (hb : base ≤ w.heap.size) (hul : u < 10000000) (hm : T.length ≤ 100000000) (htab : PowTab w) :
    Calls Tryd.prog 47 #[.slice A T.length c, .int .i64 (u : Int), .int .i64 10] w (PutL w base A c T (decDigits u)) := by
  have H := hideP (appInt_in w base A c T u ho hb hul hm htab)
  clear ho htab
  generalize hP : PutL w base A c T (decDigits u) = P at *
  have HP := hideP hP
  clear hP
  go_enter Tryd.func47, Tryd.ntmps47
  go_wp2_with (go_at_call 60; refine H.out.mono ?_; intro e w' h; rw [← HP.out] at h; obtain ⟨A8, c8, T8, H8, rfl, h2, h3⟩ := h; have HH := hideP (show PutL w base A c T (decDigits u) (.returned (.slice A8 T8.length c8)) w' from ⟨A8, c8, T8, H8, rfl, h2, h3⟩); rw [HP.out] at HH; clear h2 h3)
  try go_ret
  exact HH.out
end Go.Proofs.YtdbdokjlcdogiaaDoor
