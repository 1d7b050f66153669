/-
  Reads, Tabs, put together.
-/
import Derived.Test.YtdbdokjlcdogiaaDoorZ28Lend
import Derived.Test.YtdbdokjlcdogiaaDoorZ29Apart
import Derived.Test.YtdbdokjlcdogiaaDoorZ31Small
import Derived.Test.YtdbdokjlcdogiaaDoorZ33Awake
import Derived.Test.YtdbdokjlcdogiaaDoorRows
import Derived.Test.YtdbdokjlcdogiaaDoorZ12Print
import Derived.LaidMore
import Derived.Stop.Joined
import Derived.Lib.LaidTab
import Derived.Stop.LaidErr

/-
  The walk of heronlaw10.CodeReads. Printed by tools/mkReads.py.
-/
namespace Go.Proofs.YtdbdokjlcdogiaaDoor
open Go.RowKit
set_option linter.unusedVariables false

set_option maxRecDepth 100000 in
set_option maxHeartbeats 8000000 in
theorem reads_any (w : World) (s o : ByteArray) (hpt : PowTab w) (hwt : WordTab w) : Calls Tryd.prog 6 #[.string s, .string o] w fun e w' => e = .returned (.bool true) ∧ Upd Nob w w' := by
  obtain ⟨m1, m2, m3⟩ := rd_num s
  have MN := hideP m1
  have MS := hideP m3
  have HPT := hideP hpt
  have HWT := hideP hwt
  clear m1 m3 hpt hwt
  go_enter Tryd.func6, Tryd.ntmps6
  go_upto_region 2 with (go_at_call 7; refine (awake_any w HPT.out HWT.out).mono ?_; rintro e w1 ⟨rfl, hU1⟩)
  have HV := hideP hU1
  have HWT := hideP (HWT.out.upd hU1)
  have hs1 := hU1.size
  clear hU1 HPT
  go_upto_region 3 with (go_at_call 19; refine (refRead_prg w1 s).mono ?_; rintro e wp1 ⟨Ap, cp, gp, rfl, hPp, hUp⟩)
  have Vp := hUp.alloc (.cells #[.slice Ap (rdI s).length cp, .int .i64 (rdS s), .int .i64 (rdC s)] 24)
  have HV := hideP (HV.out.trans Vp (fun _ _ h => h))
  have HWT := hideP (HWT.out.upd Vp)
  have HCp := hideP (Cells.new wp1 24 #[.slice Ap (rdI s).length cp, .int .i64 (rdS s), .int .i64 (rdC s)])
  have HPp := hideP (hPp.upd ((Upd.refl Nob wp1).alloc (.cells #[.slice Ap (rdI s).length cp, .int .i64 (rdS s), .int .i64 (rdC s)] 24)) (fun _ _ => not_nob))
  have HTp := hideP hPp.below
  have hsp := hUp.size
  have hzp : wp1.heap.size < (wp1.alloc (.cells #[.slice Ap (rdI s).length cp, .int .i64 (rdS s), .int .i64 (rdC s)] 24)).heap.size := by simp
  clear hPp hUp Vp
  generalize wp1.alloc (.cells #[.slice Ap (rdI s).length cp, .int .i64 (rdS s), .int .i64 (rdC s)] 24) = w2 at *
  generalize wp1.heap.size = bp at *
  go_upto_region 4 with (go_at_call 20; refine (read_prg w2 s HWT.out).mono ?_; rintro e wa1 ⟨Aa, ca, ga, rfl, hPa, hUa⟩)
  have Va := hUa.alloc (.cells #[.slice Aa (rdI s).length ca, .int .i64 (rdS s), .int .i64 (rdC s)] 24)
  have HV := hideP (HV.out.trans Va (fun _ _ h => h))
  have HWT := hideP (HWT.out.upd Va)
  have HCa := hideP (Cells.new wa1 24 #[.slice Aa (rdI s).length ca, .int .i64 (rdS s), .int .i64 (rdC s)])
  have HPa := hideP (hPa.upd ((Upd.refl Nob wa1).alloc (.cells #[.slice Aa (rdI s).length ca, .int .i64 (rdS s), .int .i64 (rdC s)] 24)) (fun _ _ => not_nob))
  have HTa := hideP hPa.below
  have hsa := hUa.size
  have hza : wa1.heap.size < (wa1.alloc (.cells #[.slice Aa (rdI s).length ca, .int .i64 (rdS s), .int .i64 (rdC s)] 24)).heap.size := by simp
  have HCp := hideP (HCp.out.upd Va not_nob)
  have HPp := hideP (HPp.out.upd Va (fun _ _ => not_nob))
  clear hPa hUa Va
  generalize wa1.alloc (.cells #[.slice Aa (rdI s).length ca, .int .i64 (rdS s), .int .i64 (rdC s)] 24) = w3 at *
  generalize wa1.heap.size = ba at *
  go_upto_region 5 with (go_at_call 20; refine (read_prg w3 o HWT.out).mono ?_; rintro e wg1 ⟨Ag, cg, gg, rfl, hPg, hUg⟩)
  have Vg := hUg.alloc (.cells #[.slice Ag (rdI o).length cg, .int .i64 (rdS o), .int .i64 (rdC o)] 24)
  have HV := hideP (HV.out.trans Vg (fun _ _ h => h))
  have HWT := hideP (HWT.out.upd Vg)
  have HCg := hideP (Cells.new wg1 24 #[.slice Ag (rdI o).length cg, .int .i64 (rdS o), .int .i64 (rdC o)])
  have HPg := hideP (hPg.upd ((Upd.refl Nob wg1).alloc (.cells #[.slice Ag (rdI o).length cg, .int .i64 (rdS o), .int .i64 (rdC o)] 24)) (fun _ _ => not_nob))
  have HTg := hideP hPg.below
  have hsg := hUg.size
  have hzg : wg1.heap.size < (wg1.alloc (.cells #[.slice Ag (rdI o).length cg, .int .i64 (rdS o), .int .i64 (rdC o)] 24)).heap.size := by simp
  have HCp := hideP (HCp.out.upd Vg not_nob)
  have HPp := hideP (HPp.out.upd Vg (fun _ _ => not_nob))
  have HCa := hideP (HCa.out.upd Vg not_nob)
  have HPa := hideP (HPa.out.upd Vg (fun _ _ => not_nob))
  clear hPg hUg Vg
  generalize wg1.alloc (.cells #[.slice Ag (rdI o).length cg, .int .i64 (rdS o), .int .i64 (rdC o)] 24) = w4 at *
  generalize wg1.heap.size = bg at *
  go_upto_region 6 with (go_at_call 20; refine (read_prg w4 s HWT.out).mono ?_; rintro e wb1 ⟨Ab, cb, gb, rfl, hPb, hUb⟩)
  have Vb := hUb.alloc (.cells #[.slice Ab (rdI s).length cb, .int .i64 (rdS s), .int .i64 (rdC s)] 24)
  have HV := hideP (HV.out.trans Vb (fun _ _ h => h))
  have HWT := hideP (HWT.out.upd Vb)
  have HCb := hideP (Cells.new wb1 24 #[.slice Ab (rdI s).length cb, .int .i64 (rdS s), .int .i64 (rdC s)])
  have HPb := hideP (hPb.upd ((Upd.refl Nob wb1).alloc (.cells #[.slice Ab (rdI s).length cb, .int .i64 (rdS s), .int .i64 (rdC s)] 24)) (fun _ _ => not_nob))
  have HTb := hideP hPb.below
  have hsb := hUb.size
  have hzb : wb1.heap.size < (wb1.alloc (.cells #[.slice Ab (rdI s).length cb, .int .i64 (rdS s), .int .i64 (rdC s)] 24)).heap.size := by simp
  have HCp := hideP (HCp.out.upd Vb not_nob)
  have HPp := hideP (HPp.out.upd Vb (fun _ _ => not_nob))
  have HCa := hideP (HCa.out.upd Vb not_nob)
  have HPa := hideP (HPa.out.upd Vb (fun _ _ => not_nob))
  clear hPb hUb Vb
  generalize wb1.alloc (.cells #[.slice Ab (rdI s).length cb, .int .i64 (rdS s), .int .i64 (rdC s)] 24) = w5 at *
  generalize wb1.heap.size = bb at *
  go_upto_region 7 with (go_at_call 19; refine (refRead_prg w5 o).mono ?_; rintro e wh1 ⟨Ah, ch, gh, rfl, hPh, hUh⟩)
  have Vh := hUh.alloc (.cells #[.slice Ah (rdI o).length ch, .int .i64 (rdS o), .int .i64 (rdC o)] 24)
  have HV := hideP (HV.out.trans Vh (fun _ _ h => h))
  have HWT := hideP (HWT.out.upd Vh)
  have HCh := hideP (Cells.new wh1 24 #[.slice Ah (rdI o).length ch, .int .i64 (rdS o), .int .i64 (rdC o)])
  have HPh := hideP (hPh.upd ((Upd.refl Nob wh1).alloc (.cells #[.slice Ah (rdI o).length ch, .int .i64 (rdS o), .int .i64 (rdC o)] 24)) (fun _ _ => not_nob))
  have HTh := hideP hPh.below
  have hsh := hUh.size
  have hzh : wh1.heap.size < (wh1.alloc (.cells #[.slice Ah (rdI o).length ch, .int .i64 (rdS o), .int .i64 (rdC o)] 24)).heap.size := by simp
  have HCp := hideP (HCp.out.upd Vh not_nob)
  have HPp := hideP (HPp.out.upd Vh (fun _ _ => not_nob))
  have HCa := hideP (HCa.out.upd Vh not_nob)
  have HPa := hideP (HPa.out.upd Vh (fun _ _ => not_nob))
  have HCb := hideP (HCb.out.upd Vh not_nob)
  have HPb := hideP (HPb.out.upd Vh (fun _ _ => not_nob))
  clear hPh hUh Vh
  generalize wh1.alloc (.cells #[.slice Ah (rdI o).length ch, .int .i64 (rdS o), .int .i64 (rdC o)] 24) = w6 at *
  generalize wh1.heap.size = bh at *
  have a0 := HCa.out.cellv (i := 0) rfl
  have a1 := HCa.out.cellv (i := 0 + 1) rfl
  have a2 := HCa.out.cellv (i := 0 + 2) rfl
  have p0 := HCp.out.cellv (i := 0) rfl
  have p1 := HCp.out.cellv (i := 0 + 1) rfl
  have p2 := HCp.out.cellv (i := 0 + 2) rfl
  go_upto_region 8 with (go_at_call 11; refine (sameProg_any w6 _ _ Aa Ap (rdI s).length ca cp (rdI s) (rdS s) (rdC s) (HPa.out.insts MN.out) (HPp.out.insts MN.out) (by omega)).mono ?_; rintro e w7 ⟨rfl, hUw7⟩)
  have HV := hideP (HV.out.trans hUw7 (fun _ _ h => h))
  have hsw7 := hUw7.size
  have HCp := hideP (HCp.out.upd hUw7 not_nob)
  have HPp := hideP (HPp.out.upd hUw7 (fun _ _ => not_nob))
  have HCa := hideP (HCa.out.upd hUw7 not_nob)
  have HPa := hideP (HPa.out.upd hUw7 (fun _ _ => not_nob))
  have HCb := hideP (HCb.out.upd hUw7 not_nob)
  have HPb := hideP (HPb.out.upd hUw7 (fun _ _ => not_nob))
  clear hUw7 a0 a1 a2 p0 p1 p2
  have b0 := HCb.out.cellv (i := 0) rfl
  have b1 := HCb.out.cellv (i := 0 + 1) rfl
  have b2 := HCb.out.cellv (i := 0 + 2) rfl
  have p0 := HCp.out.cellv (i := 0) rfl
  have p1 := HCp.out.cellv (i := 0 + 1) rfl
  have p2 := HCp.out.cellv (i := 0 + 2) rfl
  go_upto_region 9 with (go_at_call 11; refine (sameProg_any w7 _ _ Ab Ap (rdI s).length cb cp (rdI s) (rdS s) (rdC s) (HPb.out.insts MN.out) (HPp.out.insts MN.out) (by omega)).mono ?_; rintro e w8 ⟨rfl, hUw8⟩)
  have HV := hideP (HV.out.trans hUw8 (fun _ _ h => h))
  have hsw8 := hUw8.size
  have HCp := hideP (HCp.out.upd hUw8 not_nob)
  have HPp := hideP (HPp.out.upd hUw8 (fun _ _ => not_nob))
  have HCa := hideP (HCa.out.upd hUw8 not_nob)
  have HPa := hideP (HPa.out.upd hUw8 (fun _ _ => not_nob))
  have HCb := hideP (HCb.out.upd hUw8 not_nob)
  have HPb := hideP (HPb.out.upd hUw8 (fun _ _ => not_nob))
  clear hUw8 b0 b1 b2 p0 p1 p2
  generalize codeT s = cs
  generalize codeT o = co
  have a0 := HCa.out.cellv (i := 0) rfl
  have a1 := HCa.out.cellv (i := 0 + 1) rfl
  have a2 := HCa.out.cellv (i := 0 + 2) rfl
  have b0 := HCb.out.cellv (i := 0) rfl
  have b1 := HCb.out.cellv (i := 0 + 1) rfl
  have b2 := HCb.out.cellv (i := 0 + 2) rfl
  have HPS := hideP (show Prgs (w8.alloc (.cells #[.slice Aa (rdI s).length ca, .int .i64 (rdS s), .int .i64 (rdC s), .slice Ab (rdI s).length cb, .int .i64 (rdS s), .int .i64 (rdC s)] 24)) w2.heap.size [⟨Aa, ca, rdI s, ga, rdS s, rdC s⟩, ⟨Ab, cb, rdI s, gb, rdS s, rdC s⟩] from by
    have hAl := (Upd.refl Nob w8).alloc (.cells #[.slice Aa (rdI s).length ca, .int .i64 (rdS s), .int .i64 (rdC s), .slice Ab (rdI s).length cb, .int .i64 (rdS s), .int .i64 (rdC s)] 24)
    have uA := HPa.out.upd hAl (fun _ _ => not_nob)
    have uB := HPb.out.upd hAl (fun _ _ => not_nob)
    refine ⟨fun p hp => ?_, ?_, fun p hp => ?_, fun p hp => ?_, by simp⟩
    · simp at hp
      rcases hp with rfl | rfl
      · exact uA
      · exact uB.base_ (by omega)
    · refine List.Pairwise.cons (fun q hq => ?_) (List.Pairwise.cons (fun q hq => by simp at hq) List.Pairwise.nil)
      simp at hq
      subst hq
      exact apart_of uA HTa.out (uB.base_ (by omega))
    · simp at hp
      rcases hp with rfl | rfl
      · exact m2
      · exact m2
    · simp at hp
      rcases hp with rfl | rfl
      · exact MS.out
      · exact MS.out)
  have HLB := hideP (Cells.new w8 24 #[.slice Aa (rdI s).length ca, .int .i64 (rdS s), .int .i64 (rdC s), .slice Ab (rdI s).length cb, .int .i64 (rdS s), .int .i64 (rdC s)])
  have HV9 := hideP (HV.out.alloc (.cells #[.slice Aa (rdI s).length ca, .int .i64 (rdS s), .int .i64 (rdC s), .slice Ab (rdI s).length cb, .int .i64 (rdS s), .int .i64 (rdC s)] 24))
  have hs9 := HV9.out.size
  go_wp2_with (go_at_call 17; refine (owned_any _ w2.heap.size w8.heap.size 2 _ HPS.out HLB.out (by simp; omega)).mono ?_; rintro e we ⟨rfl, hUe⟩)
  have HVe := hideP (HV9.out.trans hUe (fun b hb (h : w2.heap.size ≤ b) => by omega))
  go_ret
  exact ⟨rfl, HVe.out⟩
end Go.Proofs.YtdbdokjlcdogiaaDoor

/-
  What the rows list: the table of powers and the operations' words read as they are laid.
-/
namespace Go.Proofs.YtdbdokjlcdogiaaDoor
open Go.RowKit
set_option linter.unusedVariables false

/-- an array of strings that reads as listed holds them, cell for cell -/
theorem cells_of_words {H : Type} {enc : TypeId × Value → H} {P : Program} {w : World} {base : Nat} {sp : Nat → Bool} {held : Bool} {fuel : Nat} {t e : TypeId} {n : Nat} {cs : List Value} {zs : List (List UInt8)} {p : List MemPlace}
    (ht : P.underlying t = some (.array n e)) (he : P.underlying e = some .string) (hce : P.cellsOf e = 1) (hct : P.cellsOf t = n)
    (h : DataW.trod enc P w base sp held fuel t cs = some (DataW.agg (zs.map fun z => (DataW.lit (Lit.string z) : DataW H)), p)) : ∀ (i : Nat) (z : List UInt8), zs[i]? = some z → cs[i]? = some (Value.string ⟨z.toArray⟩) := by
  cases fuel with
  | zero => simp [DataW.trod] at h
  | succ fuel =>
    simp only [DataW.trod, ht, hce, hct, Nat.mul_one] at h
    split at h
    · rename_i hl
      obtain ⟨xs, hm, hx⟩ := Option.map_eq_some_iff.1 h
      have hxs : xs.map (·.1) = zs.map fun z => (DataW.lit (.string z) : DataW H) := by
        have := congrArg Prod.fst hx
        simpa using this
      have hxl : xs.length = n := by simpa using Lib.mapM_length hm
      have hzl : zs.length = n := by
        have := congrArg List.length hxs
        simp at this
        omega
      intro i z hz
      have hi : i < n := by have := (List.getElem?_eq_some_iff.1 hz).1; omega
      obtain ⟨b, hb, hf⟩ := Lib.mapM_at hm i i (by simp [hi])
      obtain ⟨s, hc, rfl, _⟩ := DataW.trod_string he hf
      have h1 : cs[i]? = some (Value.string s) := by
        have := congrArg (·[0]?) hc
        simpa [List.getElem?_take, List.getElem?_drop] using this
      have h2 : (xs.map (·.1))[i]? = some (DataW.lit (.string s.data.toList) : DataW H) := by simp [hb]
      rw [hxs] at h2
      simp only [List.getElem?_map, hz, Option.map_some, Option.some.injEq, DataW.lit.injEq, Lit.string.injEq] at h2
      rw [h1, h2]
    · cases h
theorem words_list : ∀ i : Nat, i < 8 → ([[], [114, 117, 110, 101], [97, 108, 116], [99, 97, 112], [97, 115, 115, 101, 114, 116], [109, 97, 116, 99, 104], [102, 97, 105, 108], [110, 111, 112]] : List (List UInt8))[i]? = some (wordT i) := by
  intro i hi
  match i, hi with
  | 0, _ => rfl
  | 1, _ => rfl
  | 2, _ => rfl
  | 3, _ => rfl
  | 4, _ => rfl
  | 5, _ => rfl
  | 6, _ => rfl
  | 7, _ => rfl
theorem gWords : Tryd.prog.globalNamed "heron/code.words" = some 0 := by kernel_rfl
theorem gPow : Tryd.prog.globalNamed "internal/strconv.uint64pow10" = some 1 := by kernel_rfl
theorem tWords : (Tryd.prog.globals[0]?).map (·.type) = some 80 := by kernel_rfl
theorem tPow : (Tryd.prog.globals[1]?).map (·.type) = some 101 := by kernel_rfl
theorem tabs_of {W : World} (h : laidMetH Tryd.prog [("math/bits.deBruijn32tab", Rows.laid_math_bits_deBruijn32tab), ("math/bits.deBruijn64tab", Rows.laid_math_bits_deBruijn64tab), ("internal/strconv.uint64pow10", Rows.laid_internal_strconv_uint64pow10), ("heron/code.words", Rows.laid_heron_code_words)] W) : PowTab W ∧ WordTab W := by
  rw [MakeChecks.laidMetH_plain _ _ _ (by kernel_rfl)] at h
  have h2 := h.tail.tail
  refine ⟨Lib.tabIs_of_head gPow tPow Tryd.underlying101 Tryd.underlying94 (by kernel_rfl) (by kernel_rfl) h2, ?_⟩
  obtain ⟨ps, ⟨g', t', cs, fuel, p, q, hg', ht', hvar, hd, _, _⟩, _⟩ := h2.tail
  obtain rfl := Option.some.inj (gWords.symm.trans hg')
  obtain rfl := Option.some.inj (tWords.symm.trans ht')
  intro i hi
  have hw := cells_of_words (cs := cs.toList) (zs := [[], [114, 117, 110, 101], [97, 108, 116], [99, 97, 112], [97, 115, 115, 101, 114, 116], [109, 97, 116, 99, 104], [102, 97, 105, 108], [110, 111, 112]]) Tryd.underlying80 Tryd.underlying9 (by kernel_rfl) (by kernel_rfl) hd i _ (words_list i hi)
  have hc := World.var?_cell gWords hvar i
  rw [hc]
  rw [Array.getElem?_toList] at hw
  exact hw
end Go.Proofs.YtdbdokjlcdogiaaDoor
