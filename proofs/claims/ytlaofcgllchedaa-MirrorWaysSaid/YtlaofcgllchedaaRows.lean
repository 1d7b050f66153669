/-
  NARROWER THAN 'FOR EVERY INPUT', by the rows' own cells (each row's printed sentence says how): MirrorTwice: loops · MirrorWays: loops.
  DERIVED. THE GIVEN ROWS OF THIS SEAT. 3 by the template 'for every input the law returns true; each argument reads behind the call as it read before'; 0 by the template 'total and deterministic' (their statements: YtlaofcgllchedaaTotals.lean).
  GIVEN WITH THE SEED: the statements are not yours to turn. If you find one false, say at which input.
  Laid BY PROGRAM, IN A SANDBOX (cutbox-rows.mjs): the forced cells as the released guide's own fill.sh prints them over the translation 568f129aa1525f52… (all of the seat's roots in one cut). By AI agents, Wed Nov 11 2026. No macro, syntax, notation, axiom, sorry.
-/
import Derived.Test.YtlaofcgllchedaaChecked
import GoSem.Claim
import GoSem.ClaimJoined
import GoSem.ClaimMapViews
import Derived.JoinedTies
import Derived.KernelRfl
namespace Go.Proofs.Ytlaofcgllchedaa
/- THE CELL 'sum', in the pinned program and in every row, IS THE sha256 OF THE DUMP (.gsa) THAT YtlaofcgllchedaaProg.lean LOADS. Nothing in Lean hashes anything: it is a label: what it is worth is what the hold of that sum in a sandbox is worth. -/
noncomputable def Try.pinned : Pinned := { name := "ytlaofcgllchedaa", sum := "568f129aa1525f523951862b14703de3ee714ea0b38dd3fbcd8b294efd7c96be", checked := Try.checked }
namespace Rows
def none {H : Type} : Left H := { results := [], args := [] }

/-- 'heronlaw08.MirrorBacks': WHATEVER THE INPUT: true; the input reads as it did. -/
def mirrorBacksSpec : ChangeSpec := { name := "mirrorBacks", fn := fun _ => fun
  | [d] => { results := [.lit (.bool true)], args := [d] }
  | _ => none }
def mirrorBacksRow : OpenClaim := { program := "ytlaofcgllchedaa", sum := "568f129aa1525f523951862b14703de3ee714ea0b38dd3fbcd8b294efd7c96be", func := "heron/heronlaw08.MirrorBacks", spec := "mirrorBacks", recurses := true, apart := false }
def MirrorBacksSaid : Prop := mirrorBacksRow.holds Try.pinned (OpenSpec.ofChange mirrorBacksSpec)

/-- ITS FALSE NEIGHBOUR: 'it returns false'. Refute it at one input. -/
def mirrorBacksWrong : ChangeSpec := { name := "mirrorBacks", fn := fun _ => fun
  | [d] => { results := [.lit (.bool false)], args := [d] }
  | _ => none }
def MirrorBacksWrongFalsely : Prop := mirrorBacksRow.holds Try.pinned (OpenSpec.ofChange mirrorBacksWrong)

/-- 'heronlaw08.MirrorTwice': WHATEVER THE INPUT: true; the input reads as it did. -/
def mirrorTwiceSpec : ChangeSpec := { name := "mirrorTwice", fn := fun _ => fun
  | [d] => { results := [.lit (.bool true)], args := [d] }
  | _ => none }
def mirrorTwiceRow : OpenClaim := { program := "ytlaofcgllchedaa", sum := "568f129aa1525f523951862b14703de3ee714ea0b38dd3fbcd8b294efd7c96be", func := "heron/heronlaw08.MirrorTwice", spec := "mirrorTwice", recurses := true, loops := true, apart := false }
def MirrorTwiceSaid : Prop := mirrorTwiceRow.holds Try.pinned (OpenSpec.ofChange mirrorTwiceSpec)

/-- ITS FALSE NEIGHBOUR: 'it returns false'. Refute it at one input. -/
def mirrorTwiceWrong : ChangeSpec := { name := "mirrorTwice", fn := fun _ => fun
  | [d] => { results := [.lit (.bool false)], args := [d] }
  | _ => none }
def MirrorTwiceWrongFalsely : Prop := mirrorTwiceRow.holds Try.pinned (OpenSpec.ofChange mirrorTwiceWrong)

/-- 'heronlaw08.MirrorWays': WHATEVER THE INPUT: true; the input reads as it did. -/
def mirrorWaysSpec : ChangeSpec := { name := "mirrorWays", fn := fun _ => fun
  | [d1, d2] => { results := [.lit (.bool true)], args := [d1, d2] }
  | _ => none }
def mirrorWaysRow : OpenClaim := { program := "ytlaofcgllchedaa", sum := "568f129aa1525f523951862b14703de3ee714ea0b38dd3fbcd8b294efd7c96be", func := "heron/heronlaw08.MirrorWays", spec := "mirrorWays", recurses := true, loops := true, apart := false }
def MirrorWaysSaid : Prop := mirrorWaysRow.holds Try.pinned (OpenSpec.ofChange mirrorWaysSpec)

/-- ITS FALSE NEIGHBOUR: 'it returns false'. Refute it at one input. -/
def mirrorWaysWrong : ChangeSpec := { name := "mirrorWays", fn := fun _ => fun
  | [d1, d2] => { results := [.lit (.bool false)], args := [d1, d2] }
  | _ => none }
def MirrorWaysWrongFalsely : Prop := mirrorWaysRow.holds Try.pinned (OpenSpec.ofChange mirrorWaysWrong)

/- THE SECOND FORM. 'bulk': how many values and letters a reading holds, each counted each time it is reached (what is shared counts as often as it is met; a slice's spare places count too). A statement '..UptoSaid' is the law's where the arguments, and the package variables that the reading takes, are together of bulk at most 1048576: NARROWER than '..Said'. Prove '..Said' where nothing that the law and all that it calls make is longer than what came in: it says more and counts as full. Else prove '..UptoSaid'. A law counts once. -/
mutual
def uptoBulk {H : Type} : DataW H → Nat
  | .lit (.string bytes) => bytes.length + 1
  | .lit _ => 1
  | .nil => 1
  | .ptr d => uptoBulk d + 1
  | .slice elems spare => uptoBulkAll elems + uptoBulkAll spare + 1
  | .agg parts => uptoBulkAll parts + 1
  | .iface _ d => uptoBulk d + 1
  | .map entries => uptoBulkEntries entries + 1
  | .held _ => 1
def uptoBulkAll {H : Type} : List (DataW H) → Nat
  | [] => 0
  | d :: r => uptoBulk d + uptoBulkAll r
def uptoBulkEntries {H : Type} : List (Lit × DataW H) → Nat
  | [] => 0
  | x :: r => uptoBulkEntry x + uptoBulkEntries r
def uptoBulkEntry {H : Type} : Lit × DataW H → Nat
  | (.string bytes, d) => bytes.length + uptoBulk d + 1
  | (_, d) => uptoBulk d + 1
 end
def uptoSmall : (H : Type) → List (DataW H) → Bool := fun _ ds => decide (uptoBulkAll ds ≤ 1048576)
def OpenSpec.upto (s : _root_.Go.ChangeSpec) : _root_.Go.OpenSpec := { _root_.Go.OpenSpec.ofChange s with cond := some uptoSmall }

/-- 'heronlaw08.MirrorBacks', WHERE WHAT IT READS IS OF BULK AT MOST 1048576: true; the input reads as it did. -/
def mirrorBacksUptoRow : OpenClaim := { program := "ytlaofcgllchedaa", sum := "568f129aa1525f523951862b14703de3ee714ea0b38dd3fbcd8b294efd7c96be", func := "heron/heronlaw08.MirrorBacks", spec := "mirrorBacks", recurses := true, apart := false, narrowed := true }
def MirrorBacksUptoSaid : Prop := mirrorBacksUptoRow.holds Try.pinned (OpenSpec.upto mirrorBacksSpec)

/-- 'heronlaw08.MirrorTwice', WHERE WHAT IT READS IS OF BULK AT MOST 1048576: true; the input reads as it did. -/
def mirrorTwiceUptoRow : OpenClaim := { program := "ytlaofcgllchedaa", sum := "568f129aa1525f523951862b14703de3ee714ea0b38dd3fbcd8b294efd7c96be", func := "heron/heronlaw08.MirrorTwice", spec := "mirrorTwice", recurses := true, loops := true, apart := false, narrowed := true }
def MirrorTwiceUptoSaid : Prop := mirrorTwiceUptoRow.holds Try.pinned (OpenSpec.upto mirrorTwiceSpec)

/-- 'heronlaw08.MirrorWays', WHERE WHAT IT READS IS OF BULK AT MOST 1048576: true; the input reads as it did. -/
def mirrorWaysUptoRow : OpenClaim := { program := "ytlaofcgllchedaa", sum := "568f129aa1525f523951862b14703de3ee714ea0b38dd3fbcd8b294efd7c96be", func := "heron/heronlaw08.MirrorWays", spec := "mirrorWays", recurses := true, loops := true, apart := false, narrowed := true }
def MirrorWaysUptoSaid : Prop := mirrorWaysUptoRow.holds Try.pinned (OpenSpec.upto mirrorWaysSpec)

end Rows
end Go.Proofs.Ytlaofcgllchedaa
