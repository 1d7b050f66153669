/-
  No cell of these rows narrows 'for every input' (looked for: loops, veiled, ifaces, maps, wideKeys, modest, calm, conditions, laid).
  DERIVED. THE GIVEN ROWS OF THIS SEAT. 3 by the template 'for every input the law returns true; each argument reads behind the call as it read before'; 0 by the template 'total and deterministic' (their statements: YtpfhljcihfabbaaTotals.lean).
  GIVEN WITH THE SEED: the statements are not yours to turn. If you find one false, say at which input.
  Laid BY PROGRAM, IN A SANDBOX (cutbox-rows.mjs): the forced cells as the released guide's own fill.sh prints them over the translation ae2d5a14f53afaf2… (all of the seat's roots in one cut). By AI agents, Wed Nov 11 2026. No macro, syntax, notation, axiom, sorry.
-/
import Derived.Test.YtpfhljcihfabbaaChecked
import GoSem.Claim
import GoSem.ClaimJoined
import GoSem.ClaimMapViews
import Derived.JoinedTies
import Derived.KernelRfl
namespace Go.Proofs.Ytpfhljcihfabbaa
/- THE CELL 'sum', in the pinned program and in every row, IS THE sha256 OF THE DUMP (.gsa) THAT YtpfhljcihfabbaaProg.lean LOADS. Nothing in Lean hashes anything: it is a label: what it is worth is what the hold of that sum in a sandbox is worth. -/
noncomputable def Try.pinned : Pinned := { name := "ytpfhljcihfabbaa", sum := "ae2d5a14f53afaf271fc1ed199748ec2b2260c985a568fbf9c9d17d1c9ffaad5", checked := Try.checked }
namespace Rows
def none {H : Type} : Left H := { results := [], args := [] }

/-- 'heronlaw03.SparseTurned': WHATEVER THE INPUT: true; the input reads as it did. -/
def sparseTurnedSpec : ChangeSpec := { name := "sparseTurned", fn := fun _ => fun
  | [d1, d2] => { results := [.lit (.bool true)], args := [d1, d2] }
  | _ => none }
def sparseTurnedRow : OpenClaim := { program := "ytpfhljcihfabbaa", sum := "ae2d5a14f53afaf271fc1ed199748ec2b2260c985a568fbf9c9d17d1c9ffaad5", func := "heron/heronlaw03.SparseTurned", spec := "sparseTurned", apart := false }
def SparseTurnedSaid : Prop := sparseTurnedRow.holds Try.pinned (OpenSpec.ofChange sparseTurnedSpec)

/-- ITS FALSE NEIGHBOUR: 'it returns false'. Refute it at one input. -/
def sparseTurnedWrong : ChangeSpec := { name := "sparseTurned", fn := fun _ => fun
  | [d1, d2] => { results := [.lit (.bool false)], args := [d1, d2] }
  | _ => none }
def SparseTurnedWrongFalsely : Prop := sparseTurnedRow.holds Try.pinned (OpenSpec.ofChange sparseTurnedWrong)

/-- 'heronlaw03.SparseStacks': WHATEVER THE INPUT: true; the input reads as it did. -/
def sparseStacksSpec : ChangeSpec := { name := "sparseStacks", fn := fun _ => fun
  | [d] => { results := [.lit (.bool true)], args := [d] }
  | _ => none }
def sparseStacksRow : OpenClaim := { program := "ytpfhljcihfabbaa", sum := "ae2d5a14f53afaf271fc1ed199748ec2b2260c985a568fbf9c9d17d1c9ffaad5", func := "heron/heronlaw03.SparseStacks", spec := "sparseStacks", apart := false }
def SparseStacksSaid : Prop := sparseStacksRow.holds Try.pinned (OpenSpec.ofChange sparseStacksSpec)

/-- ITS FALSE NEIGHBOUR: 'it returns false'. Refute it at one input. -/
def sparseStacksWrong : ChangeSpec := { name := "sparseStacks", fn := fun _ => fun
  | [d] => { results := [.lit (.bool false)], args := [d] }
  | _ => none }
def SparseStacksWrongFalsely : Prop := sparseStacksRow.holds Try.pinned (OpenSpec.ofChange sparseStacksWrong)

/-- 'heronlaw03.SparseOnce': WHATEVER THE INPUT: true; the input reads as it did. -/
def sparseOnceSpec : ChangeSpec := { name := "sparseOnce", fn := fun _ => fun
  | [d1, d2, d3] => { results := [.lit (.bool true)], args := [d1, d2, d3] }
  | _ => none }
def sparseOnceRow : OpenClaim := { program := "ytpfhljcihfabbaa", sum := "ae2d5a14f53afaf271fc1ed199748ec2b2260c985a568fbf9c9d17d1c9ffaad5", func := "heron/heronlaw03.SparseOnce", spec := "sparseOnce", apart := false }
def SparseOnceSaid : Prop := sparseOnceRow.holds Try.pinned (OpenSpec.ofChange sparseOnceSpec)

/-- ITS FALSE NEIGHBOUR: 'it returns false'. Refute it at one input. -/
def sparseOnceWrong : ChangeSpec := { name := "sparseOnce", fn := fun _ => fun
  | [d1, d2, d3] => { results := [.lit (.bool false)], args := [d1, d2, d3] }
  | _ => none }
def SparseOnceWrongFalsely : Prop := sparseOnceRow.holds Try.pinned (OpenSpec.ofChange sparseOnceWrong)

/- THE SECOND FORM. 'bulk': how many values and letters a reading holds, each counted each time it is reached (what is shared counts as often as it is met; a slice's spare places count too). A statement '..UptoSaid' is the law's where the arguments, and the package variables that the reading takes, are together of bulk at most 1048576: NARROWER than '..Said'. Prove '..Said' where nothing that the law and all that it calls make is longer than what came in: it says more and counts as full. Else prove '..UptoSaid'. A law counts once. -/
mutual
def uptoBulk {H : Type} : DataW H → Nat
  | .lit (.string bytes) => bytes.length + 1
  | .lit _ => 1
  | .nil => 1
  | .ptr d => uptoBulk d + 1
  | .slice elems spare => uptoBulkAll elems + uptoBulkAll spare + 1
  | .agg parts => uptoBulkAll parts + 1
  | .iface _ d => uptoBulk d + 1
  | .map entries => uptoBulkEntries entries + 1
  | .held _ => 1
def uptoBulkAll {H : Type} : List (DataW H) → Nat
  | [] => 0
  | d :: r => uptoBulk d + uptoBulkAll r
def uptoBulkEntries {H : Type} : List (Lit × DataW H) → Nat
  | [] => 0
  | x :: r => uptoBulkEntry x + uptoBulkEntries r
def uptoBulkEntry {H : Type} : Lit × DataW H → Nat
  | (.string bytes, d) => bytes.length + uptoBulk d + 1
  | (_, d) => uptoBulk d + 1
 end
def uptoSmall : (H : Type) → List (DataW H) → Bool := fun _ ds => decide (uptoBulkAll ds ≤ 1048576)
def OpenSpec.upto (s : _root_.Go.ChangeSpec) : _root_.Go.OpenSpec := { _root_.Go.OpenSpec.ofChange s with cond := some uptoSmall }

/-- 'heronlaw03.SparseTurned', WHERE WHAT IT READS IS OF BULK AT MOST 1048576: true; the input reads as it did. -/
def sparseTurnedUptoRow : OpenClaim := { program := "ytpfhljcihfabbaa", sum := "ae2d5a14f53afaf271fc1ed199748ec2b2260c985a568fbf9c9d17d1c9ffaad5", func := "heron/heronlaw03.SparseTurned", spec := "sparseTurned", apart := false, narrowed := true }
def SparseTurnedUptoSaid : Prop := sparseTurnedUptoRow.holds Try.pinned (OpenSpec.upto sparseTurnedSpec)

/-- 'heronlaw03.SparseStacks', WHERE WHAT IT READS IS OF BULK AT MOST 1048576: true; the input reads as it did. -/
def sparseStacksUptoRow : OpenClaim := { program := "ytpfhljcihfabbaa", sum := "ae2d5a14f53afaf271fc1ed199748ec2b2260c985a568fbf9c9d17d1c9ffaad5", func := "heron/heronlaw03.SparseStacks", spec := "sparseStacks", apart := false, narrowed := true }
def SparseStacksUptoSaid : Prop := sparseStacksUptoRow.holds Try.pinned (OpenSpec.upto sparseStacksSpec)

/-- 'heronlaw03.SparseOnce', WHERE WHAT IT READS IS OF BULK AT MOST 1048576: true; the input reads as it did. -/
def sparseOnceUptoRow : OpenClaim := { program := "ytpfhljcihfabbaa", sum := "ae2d5a14f53afaf271fc1ed199748ec2b2260c985a568fbf9c9d17d1c9ffaad5", func := "heron/heronlaw03.SparseOnce", spec := "sparseOnce", apart := false, narrowed := true }
def SparseOnceUptoSaid : Prop := sparseOnceUptoRow.holds Try.pinned (OpenSpec.upto sparseOnceSpec)

end Rows
end Go.Proofs.Ytpfhljcihfabbaa
