/-
  No cell of these rows narrows 'for every input' (looked for: loops, veiled, ifaces, maps, wideKeys, modest, calm, conditions, laid).
  DERIVED. THE GIVEN ROWS OF THIS SEAT. 5 by the template 'for every input the law returns true; each argument reads behind the call as it read before'; 0 by the template 'total and deterministic' (their statements: YtmcagnahpgjilaaTotals.lean).
  GIVEN WITH THE SEED: the statements are not yours to turn. If you find one false, say at which input.
  Laid BY PROGRAM, IN A SANDBOX (cutbox-rows.mjs): the forced cells as the released guide's own fill.sh prints them over the translation c424916a30eb8d48… (all of the seat's roots in one cut). By AI agents, Wed Nov 11 2026. No macro, syntax, notation, axiom, sorry.
-/
import Derived.Test.YtmcagnahpgjilaaChecked
import GoSem.Claim
import GoSem.ClaimJoined
import GoSem.ClaimMapViews
import Derived.JoinedTies
import Derived.KernelRfl
namespace Go.Proofs.Ytmcagnahpgjilaa
/- THE CELL 'sum', in the pinned program and in every row, IS THE sha256 OF THE DUMP (.gsa) THAT YtmcagnahpgjilaaProg.lean LOADS. Nothing in Lean hashes anything: it is a label: what it is worth is what the hold of that sum in a sandbox is worth. -/
noncomputable def Try.pinned : Pinned := { name := "ytmcagnahpgjilaa", sum := "c424916a30eb8d48f270228be91d0424b0d9c45de6d30fe79abe1dcec135134e", checked := Try.checked }
namespace Rows
def none {H : Type} : Left H := { results := [], args := [] }

/-- 'heronlaw02.LookAts': WHATEVER THE INPUT: true; the input reads as it did. -/
def lookAtsSpec : ChangeSpec := { name := "lookAts", fn := fun _ => fun
  | [d1, d2, d3] => { results := [.lit (.bool true)], args := [d1, d2, d3] }
  | _ => none }
def lookAtsRow : OpenClaim := { program := "ytmcagnahpgjilaa", sum := "c424916a30eb8d48f270228be91d0424b0d9c45de6d30fe79abe1dcec135134e", func := "heron/heronlaw02.LookAts", spec := "lookAts", unfollowed := true, recurses := true, apart := false }
def LookAtsSaid : Prop := lookAtsRow.holds Try.pinned (OpenSpec.ofChange lookAtsSpec)

/-- ITS FALSE NEIGHBOUR: 'it returns false'. Refute it at one input. -/
def lookAtsWrong : ChangeSpec := { name := "lookAts", fn := fun _ => fun
  | [d1, d2, d3] => { results := [.lit (.bool false)], args := [d1, d2, d3] }
  | _ => none }
def LookAtsWrongFalsely : Prop := lookAtsRow.holds Try.pinned (OpenSpec.ofChange lookAtsWrong)

/-- 'heronlaw02.LookHolds': WHATEVER THE INPUT: true; the input reads as it did. -/
def lookHoldsSpec : ChangeSpec := { name := "lookHolds", fn := fun _ => fun
  | [d1, d2] => { results := [.lit (.bool true)], args := [d1, d2] }
  | _ => none }
def lookHoldsRow : OpenClaim := { program := "ytmcagnahpgjilaa", sum := "c424916a30eb8d48f270228be91d0424b0d9c45de6d30fe79abe1dcec135134e", func := "heron/heronlaw02.LookHolds", spec := "lookHolds", unfollowed := true, recurses := true, apart := false }
def LookHoldsSaid : Prop := lookHoldsRow.holds Try.pinned (OpenSpec.ofChange lookHoldsSpec)

/-- ITS FALSE NEIGHBOUR: 'it returns false'. Refute it at one input. -/
def lookHoldsWrong : ChangeSpec := { name := "lookHolds", fn := fun _ => fun
  | [d1, d2] => { results := [.lit (.bool false)], args := [d1, d2] }
  | _ => none }
def LookHoldsWrongFalsely : Prop := lookHoldsRow.holds Try.pinned (OpenSpec.ofChange lookHoldsWrong)

/-- 'heronlaw02.LookBeside': WHATEVER THE INPUT: true; the input reads as it did. -/
def lookBesideSpec : ChangeSpec := { name := "lookBeside", fn := fun _ => fun
  | [d1, d2, d3] => { results := [.lit (.bool true)], args := [d1, d2, d3] }
  | _ => none }
def lookBesideRow : OpenClaim := { program := "ytmcagnahpgjilaa", sum := "c424916a30eb8d48f270228be91d0424b0d9c45de6d30fe79abe1dcec135134e", func := "heron/heronlaw02.LookBeside", spec := "lookBeside", unfollowed := true, recurses := true, apart := false }
def LookBesideSaid : Prop := lookBesideRow.holds Try.pinned (OpenSpec.ofChange lookBesideSpec)

/-- ITS FALSE NEIGHBOUR: 'it returns false'. Refute it at one input. -/
def lookBesideWrong : ChangeSpec := { name := "lookBeside", fn := fun _ => fun
  | [d1, d2, d3] => { results := [.lit (.bool false)], args := [d1, d2, d3] }
  | _ => none }
def LookBesideWrongFalsely : Prop := lookBesideRow.holds Try.pinned (OpenSpec.ofChange lookBesideWrong)

/-- 'heronlaw02.LookBack': WHATEVER THE INPUT: true; the input reads as it did. -/
def lookBackSpec : ChangeSpec := { name := "lookBack", fn := fun _ => fun
  | [d1, d2, d3] => { results := [.lit (.bool true)], args := [d1, d2, d3] }
  | _ => none }
def lookBackRow : OpenClaim := { program := "ytmcagnahpgjilaa", sum := "c424916a30eb8d48f270228be91d0424b0d9c45de6d30fe79abe1dcec135134e", func := "heron/heronlaw02.LookBack", spec := "lookBack", unfollowed := true, recurses := true, apart := false }
def LookBackSaid : Prop := lookBackRow.holds Try.pinned (OpenSpec.ofChange lookBackSpec)

/-- ITS FALSE NEIGHBOUR: 'it returns false'. Refute it at one input. -/
def lookBackWrong : ChangeSpec := { name := "lookBack", fn := fun _ => fun
  | [d1, d2, d3] => { results := [.lit (.bool false)], args := [d1, d2, d3] }
  | _ => none }
def LookBackWrongFalsely : Prop := lookBackRow.holds Try.pinned (OpenSpec.ofChange lookBackWrong)

/-- 'heronlaw02.LookPut': WHATEVER THE INPUT: true; the input reads as it did. -/
def lookPutSpec : ChangeSpec := { name := "lookPut", fn := fun _ => fun
  | [d1, d2, d3] => { results := [.lit (.bool true)], args := [d1, d2, d3] }
  | _ => none }
def lookPutRow : OpenClaim := { program := "ytmcagnahpgjilaa", sum := "c424916a30eb8d48f270228be91d0424b0d9c45de6d30fe79abe1dcec135134e", func := "heron/heronlaw02.LookPut", spec := "lookPut", unfollowed := true, recurses := true, apart := false }
def LookPutSaid : Prop := lookPutRow.holds Try.pinned (OpenSpec.ofChange lookPutSpec)

/-- ITS FALSE NEIGHBOUR: 'it returns false'. Refute it at one input. -/
def lookPutWrong : ChangeSpec := { name := "lookPut", fn := fun _ => fun
  | [d1, d2, d3] => { results := [.lit (.bool false)], args := [d1, d2, d3] }
  | _ => none }
def LookPutWrongFalsely : Prop := lookPutRow.holds Try.pinned (OpenSpec.ofChange lookPutWrong)

/- THE SECOND FORM. 'bulk': how many values and letters a reading holds, each counted each time it is reached (what is shared counts as often as it is met; a slice's spare places count too). A statement '..UptoSaid' is the law's where the arguments, and the package variables that the reading takes, are together of bulk at most 1048576: NARROWER than '..Said'. Prove '..Said' where nothing that the law and all that it calls make is longer than what came in: it says more and counts as full. Else prove '..UptoSaid'. A law counts once. -/
mutual
def uptoBulk {H : Type} : DataW H → Nat
  | .lit (.string bytes) => bytes.length + 1
  | .lit _ => 1
  | .nil => 1
  | .ptr d => uptoBulk d + 1
  | .slice elems spare => uptoBulkAll elems + uptoBulkAll spare + 1
  | .agg parts => uptoBulkAll parts + 1
  | .iface _ d => uptoBulk d + 1
  | .map entries => uptoBulkEntries entries + 1
  | .held _ => 1
def uptoBulkAll {H : Type} : List (DataW H) → Nat
  | [] => 0
  | d :: r => uptoBulk d + uptoBulkAll r
def uptoBulkEntries {H : Type} : List (Lit × DataW H) → Nat
  | [] => 0
  | x :: r => uptoBulkEntry x + uptoBulkEntries r
def uptoBulkEntry {H : Type} : Lit × DataW H → Nat
  | (.string bytes, d) => bytes.length + uptoBulk d + 1
  | (_, d) => uptoBulk d + 1
 end
def uptoSmall : (H : Type) → List (DataW H) → Bool := fun _ ds => decide (uptoBulkAll ds ≤ 1048576)
def OpenSpec.upto (s : _root_.Go.ChangeSpec) : _root_.Go.OpenSpec := { _root_.Go.OpenSpec.ofChange s with cond := some uptoSmall }

/-- 'heronlaw02.LookAts', WHERE WHAT IT READS IS OF BULK AT MOST 1048576: true; the input reads as it did. -/
def lookAtsUptoRow : OpenClaim := { program := "ytmcagnahpgjilaa", sum := "c424916a30eb8d48f270228be91d0424b0d9c45de6d30fe79abe1dcec135134e", func := "heron/heronlaw02.LookAts", spec := "lookAts", unfollowed := true, recurses := true, apart := false, narrowed := true }
def LookAtsUptoSaid : Prop := lookAtsUptoRow.holds Try.pinned (OpenSpec.upto lookAtsSpec)

/-- 'heronlaw02.LookHolds', WHERE WHAT IT READS IS OF BULK AT MOST 1048576: true; the input reads as it did. -/
def lookHoldsUptoRow : OpenClaim := { program := "ytmcagnahpgjilaa", sum := "c424916a30eb8d48f270228be91d0424b0d9c45de6d30fe79abe1dcec135134e", func := "heron/heronlaw02.LookHolds", spec := "lookHolds", unfollowed := true, recurses := true, apart := false, narrowed := true }
def LookHoldsUptoSaid : Prop := lookHoldsUptoRow.holds Try.pinned (OpenSpec.upto lookHoldsSpec)

/-- 'heronlaw02.LookBeside', WHERE WHAT IT READS IS OF BULK AT MOST 1048576: true; the input reads as it did. -/
def lookBesideUptoRow : OpenClaim := { program := "ytmcagnahpgjilaa", sum := "c424916a30eb8d48f270228be91d0424b0d9c45de6d30fe79abe1dcec135134e", func := "heron/heronlaw02.LookBeside", spec := "lookBeside", unfollowed := true, recurses := true, apart := false, narrowed := true }
def LookBesideUptoSaid : Prop := lookBesideUptoRow.holds Try.pinned (OpenSpec.upto lookBesideSpec)

/-- 'heronlaw02.LookBack', WHERE WHAT IT READS IS OF BULK AT MOST 1048576: true; the input reads as it did. -/
def lookBackUptoRow : OpenClaim := { program := "ytmcagnahpgjilaa", sum := "c424916a30eb8d48f270228be91d0424b0d9c45de6d30fe79abe1dcec135134e", func := "heron/heronlaw02.LookBack", spec := "lookBack", unfollowed := true, recurses := true, apart := false, narrowed := true }
def LookBackUptoSaid : Prop := lookBackUptoRow.holds Try.pinned (OpenSpec.upto lookBackSpec)

/-- 'heronlaw02.LookPut', WHERE WHAT IT READS IS OF BULK AT MOST 1048576: true; the input reads as it did. -/
def lookPutUptoRow : OpenClaim := { program := "ytmcagnahpgjilaa", sum := "c424916a30eb8d48f270228be91d0424b0d9c45de6d30fe79abe1dcec135134e", func := "heron/heronlaw02.LookPut", spec := "lookPut", unfollowed := true, recurses := true, apart := false, narrowed := true }
def LookPutUptoSaid : Prop := lookPutUptoRow.holds Try.pinned (OpenSpec.upto lookPutSpec)

end Rows
end Go.Proofs.Ytmcagnahpgjilaa
