/-
  NARROWER THAN 'FOR EVERY INPUT', by the rows' own cells (each row's printed sentence says how): PikeTrees: loops.
  DERIVED. THE GIVEN ROWS OF THIS SEAT. 5 by the template 'for every input the law returns true; each argument reads behind the call as it read before'; 0 by the template 'total and deterministic' (their statements: YtnkefclbchpafaaTotals.lean).
  GIVEN WITH THE SEED: the statements are not yours to turn. If you find one false, say at which input.
  Laid BY PROGRAM, IN A SANDBOX (cutbox-rows.mjs): the forced cells as the released guide's own fill.sh prints them over the translation 7ba951e62e30d137… (all of the seat's roots in one cut). By AI agents, Wed Nov 11 2026. No macro, syntax, notation, axiom, sorry.
-/
import Derived.Test.YtnkefclbchpafaaChecked
import GoSem.Claim
import GoSem.ClaimJoined
import GoSem.ClaimMapViews
import Derived.JoinedTies
import Derived.KernelRfl
namespace Go.Proofs.Ytnkefclbchpafaa
/- THE CELL 'sum', in the pinned program and in every row, IS THE sha256 OF THE DUMP (.gsa) THAT YtnkefclbchpafaaProg.lean LOADS. Nothing in Lean hashes anything: it is a label: what it is worth is what the hold of that sum in a sandbox is worth. -/
noncomputable def Try.pinned : Pinned := { name := "ytnkefclbchpafaa", sum := "7ba951e62e30d137b40137716d02ca70fd6d00a68c342826bb2ca831fca32fb3", checked := Try.checked }
namespace Rows
def none {H : Type} : Left H := { results := [], args := [] }

/-- 'heronlaw11.PikeNames': WHATEVER THE INPUT: true; the input reads as it did. -/
def pikeNamesSpec : ChangeSpec := { name := "pikeNames", fn := fun _ => fun
  | [] => { results := [.lit (.bool true)], args := [] }
  | _ => none }
def pikeNamesRow : OpenClaim := { program := "ytnkefclbchpafaa", sum := "7ba951e62e30d137b40137716d02ca70fd6d00a68c342826bb2ca831fca32fb3", func := "heron/heronlaw11.PikeNames", spec := "pikeNames", unfollowed := true, recurses := true, apart := false }
def PikeNamesSaid : Prop := pikeNamesRow.holds Try.pinned (OpenSpec.ofChange pikeNamesSpec)

/-- ITS FALSE NEIGHBOUR: 'it returns false'. Refute it at one input. -/
def pikeNamesWrong : ChangeSpec := { name := "pikeNames", fn := fun _ => fun
  | [] => { results := [.lit (.bool false)], args := [] }
  | _ => none }
def PikeNamesWrongFalsely : Prop := pikeNamesRow.holds Try.pinned (OpenSpec.ofChange pikeNamesWrong)

/-- 'heronlaw11.PikeRuns': WHATEVER THE INPUT: true; the input reads as it did. -/
def pikeRunsSpec : ChangeSpec := { name := "pikeRuns", fn := fun _ => fun
  | [d1, d2, d3] => { results := [.lit (.bool true)], args := [d1, d2, d3] }
  | _ => none }
def pikeRunsRow : OpenClaim := { program := "ytnkefclbchpafaa", sum := "7ba951e62e30d137b40137716d02ca70fd6d00a68c342826bb2ca831fca32fb3", func := "heron/heronlaw11.PikeRuns", spec := "pikeRuns", unfollowed := true, recurses := true, apart := false }
def PikeRunsSaid : Prop := pikeRunsRow.holds Try.pinned (OpenSpec.ofChange pikeRunsSpec)

/-- ITS FALSE NEIGHBOUR: 'it returns false'. Refute it at one input. -/
def pikeRunsWrong : ChangeSpec := { name := "pikeRuns", fn := fun _ => fun
  | [d1, d2, d3] => { results := [.lit (.bool false)], args := [d1, d2, d3] }
  | _ => none }
def PikeRunsWrongFalsely : Prop := pikeRunsRow.holds Try.pinned (OpenSpec.ofChange pikeRunsWrong)

/-- 'heronlaw11.PikeTrees': WHATEVER THE INPUT: true; the input reads as it did. -/
def pikeTreesSpec : ChangeSpec := { name := "pikeTrees", fn := fun _ => fun
  | [d1, d2] => { results := [.lit (.bool true)], args := [d1, d2] }
  | _ => none }
def pikeTreesRow : OpenClaim := { program := "ytnkefclbchpafaa", sum := "7ba951e62e30d137b40137716d02ca70fd6d00a68c342826bb2ca831fca32fb3", func := "heron/heronlaw11.PikeTrees", spec := "pikeTrees", unfollowed := true, recurses := true, loops := true, apart := false }
def PikeTreesSaid : Prop := pikeTreesRow.holds Try.pinned (OpenSpec.ofChange pikeTreesSpec)

/-- ITS FALSE NEIGHBOUR: 'it returns false'. Refute it at one input. -/
def pikeTreesWrong : ChangeSpec := { name := "pikeTrees", fn := fun _ => fun
  | [d1, d2] => { results := [.lit (.bool false)], args := [d1, d2] }
  | _ => none }
def PikeTreesWrongFalsely : Prop := pikeTreesRow.holds Try.pinned (OpenSpec.ofChange pikeTreesWrong)

/-- 'heronlaw11.PikeSteps': WHATEVER THE INPUT: true; the input reads as it did. -/
def pikeStepsSpec : ChangeSpec := { name := "pikeSteps", fn := fun _ => fun
  | [d1, d2] => { results := [.lit (.bool true)], args := [d1, d2] }
  | _ => none }
def pikeStepsRow : OpenClaim := { program := "ytnkefclbchpafaa", sum := "7ba951e62e30d137b40137716d02ca70fd6d00a68c342826bb2ca831fca32fb3", func := "heron/heronlaw11.PikeSteps", spec := "pikeSteps", unfollowed := true, recurses := true, apart := false }
def PikeStepsSaid : Prop := pikeStepsRow.holds Try.pinned (OpenSpec.ofChange pikeStepsSpec)

/-- ITS FALSE NEIGHBOUR: 'it returns false'. Refute it at one input. -/
def pikeStepsWrong : ChangeSpec := { name := "pikeSteps", fn := fun _ => fun
  | [d1, d2] => { results := [.lit (.bool false)], args := [d1, d2] }
  | _ => none }
def PikeStepsWrongFalsely : Prop := pikeStepsRow.holds Try.pinned (OpenSpec.ofChange pikeStepsWrong)

/-- 'heronlaw11.PikeReaches': WHATEVER THE INPUT: true; the input reads as it did. -/
def pikeReachesSpec : ChangeSpec := { name := "pikeReaches", fn := fun _ => fun
  | [d1, d2] => { results := [.lit (.bool true)], args := [d1, d2] }
  | _ => none }
def pikeReachesRow : OpenClaim := { program := "ytnkefclbchpafaa", sum := "7ba951e62e30d137b40137716d02ca70fd6d00a68c342826bb2ca831fca32fb3", func := "heron/heronlaw11.PikeReaches", spec := "pikeReaches", unfollowed := true, recurses := true, apart := false }
def PikeReachesSaid : Prop := pikeReachesRow.holds Try.pinned (OpenSpec.ofChange pikeReachesSpec)

/-- ITS FALSE NEIGHBOUR: 'it returns false'. Refute it at one input. -/
def pikeReachesWrong : ChangeSpec := { name := "pikeReaches", fn := fun _ => fun
  | [d1, d2] => { results := [.lit (.bool false)], args := [d1, d2] }
  | _ => none }
def PikeReachesWrongFalsely : Prop := pikeReachesRow.holds Try.pinned (OpenSpec.ofChange pikeReachesWrong)

/- THE SECOND FORM. 'bulk': how many values and letters a reading holds, each counted each time it is reached (what is shared counts as often as it is met; a slice's spare places count too). A statement '..UptoSaid' is the law's where the arguments, and the package variables that the reading takes, are together of bulk at most 1048576: NARROWER than '..Said'. Prove '..Said' where nothing that the law and all that it calls make is longer than what came in: it says more and counts as full. Else prove '..UptoSaid'. A law counts once. -/
mutual
def uptoBulk {H : Type} : DataW H → Nat
  | .lit (.string bytes) => bytes.length + 1
  | .lit _ => 1
  | .nil => 1
  | .ptr d => uptoBulk d + 1
  | .slice elems spare => uptoBulkAll elems + uptoBulkAll spare + 1
  | .agg parts => uptoBulkAll parts + 1
  | .iface _ d => uptoBulk d + 1
  | .map entries => uptoBulkEntries entries + 1
  | .held _ => 1
def uptoBulkAll {H : Type} : List (DataW H) → Nat
  | [] => 0
  | d :: r => uptoBulk d + uptoBulkAll r
def uptoBulkEntries {H : Type} : List (Lit × DataW H) → Nat
  | [] => 0
  | x :: r => uptoBulkEntry x + uptoBulkEntries r
def uptoBulkEntry {H : Type} : Lit × DataW H → Nat
  | (.string bytes, d) => bytes.length + uptoBulk d + 1
  | (_, d) => uptoBulk d + 1
 end
def uptoSmall : (H : Type) → List (DataW H) → Bool := fun _ ds => decide (uptoBulkAll ds ≤ 1048576)
def OpenSpec.upto (s : _root_.Go.ChangeSpec) : _root_.Go.OpenSpec := { _root_.Go.OpenSpec.ofChange s with cond := some uptoSmall }

/-- 'heronlaw11.PikeNames', WHERE WHAT IT READS IS OF BULK AT MOST 1048576: true; the input reads as it did. -/
def pikeNamesUptoRow : OpenClaim := { program := "ytnkefclbchpafaa", sum := "7ba951e62e30d137b40137716d02ca70fd6d00a68c342826bb2ca831fca32fb3", func := "heron/heronlaw11.PikeNames", spec := "pikeNames", unfollowed := true, recurses := true, apart := false, narrowed := true }
def PikeNamesUptoSaid : Prop := pikeNamesUptoRow.holds Try.pinned (OpenSpec.upto pikeNamesSpec)

/-- 'heronlaw11.PikeRuns', WHERE WHAT IT READS IS OF BULK AT MOST 1048576: true; the input reads as it did. -/
def pikeRunsUptoRow : OpenClaim := { program := "ytnkefclbchpafaa", sum := "7ba951e62e30d137b40137716d02ca70fd6d00a68c342826bb2ca831fca32fb3", func := "heron/heronlaw11.PikeRuns", spec := "pikeRuns", unfollowed := true, recurses := true, apart := false, narrowed := true }
def PikeRunsUptoSaid : Prop := pikeRunsUptoRow.holds Try.pinned (OpenSpec.upto pikeRunsSpec)

/-- 'heronlaw11.PikeTrees', WHERE WHAT IT READS IS OF BULK AT MOST 1048576: true; the input reads as it did. -/
def pikeTreesUptoRow : OpenClaim := { program := "ytnkefclbchpafaa", sum := "7ba951e62e30d137b40137716d02ca70fd6d00a68c342826bb2ca831fca32fb3", func := "heron/heronlaw11.PikeTrees", spec := "pikeTrees", unfollowed := true, recurses := true, loops := true, apart := false, narrowed := true }
def PikeTreesUptoSaid : Prop := pikeTreesUptoRow.holds Try.pinned (OpenSpec.upto pikeTreesSpec)

/-- 'heronlaw11.PikeSteps', WHERE WHAT IT READS IS OF BULK AT MOST 1048576: true; the input reads as it did. -/
def pikeStepsUptoRow : OpenClaim := { program := "ytnkefclbchpafaa", sum := "7ba951e62e30d137b40137716d02ca70fd6d00a68c342826bb2ca831fca32fb3", func := "heron/heronlaw11.PikeSteps", spec := "pikeSteps", unfollowed := true, recurses := true, apart := false, narrowed := true }
def PikeStepsUptoSaid : Prop := pikeStepsUptoRow.holds Try.pinned (OpenSpec.upto pikeStepsSpec)

/-- 'heronlaw11.PikeReaches', WHERE WHAT IT READS IS OF BULK AT MOST 1048576: true; the input reads as it did. -/
def pikeReachesUptoRow : OpenClaim := { program := "ytnkefclbchpafaa", sum := "7ba951e62e30d137b40137716d02ca70fd6d00a68c342826bb2ca831fca32fb3", func := "heron/heronlaw11.PikeReaches", spec := "pikeReaches", unfollowed := true, recurses := true, apart := false, narrowed := true }
def PikeReachesUptoSaid : Prop := pikeReachesUptoRow.holds Try.pinned (OpenSpec.upto pikeReachesSpec)

end Rows
end Go.Proofs.Ytnkefclbchpafaa
