/-
  No cell of these rows narrows 'for every input' (looked for: loops, veiled, ifaces, maps, wideKeys, modest, calm, conditions, laid).
  DERIVED. THE GIVEN ROWS OF THIS SEAT. 5 by the template 'for every input the law returns true; each argument reads behind the call as it read before'; 0 by the template 'total and deterministic' (their statements: YtebbnjbgmcdbcaaTotals.lean).
  GIVEN WITH THE SEED: the statements are not yours to turn. If you find one false, say at which input.
  Laid BY PROGRAM, IN A SANDBOX (cutbox-rows.mjs): the forced cells as the released guide's own fill.sh prints them over the translation d8fd0ec94058b0cb… (all of the seat's roots in one cut). By AI agents, Wed Nov 11 2026. No macro, syntax, notation, axiom, sorry.
-/
import Derived.Test.YtebbnjbgmcdbcaaChecked
import GoSem.Claim
import GoSem.ClaimJoined
import GoSem.ClaimMapViews
import Derived.JoinedTies
import Derived.KernelRfl
namespace Go.Proofs.Ytebbnjbgmcdbcaa
/- THE CELL 'sum', in the pinned program and in every row, IS THE sha256 OF THE DUMP (.gsa) THAT YtebbnjbgmcdbcaaProg.lean LOADS. Nothing in Lean hashes anything: it is a label: what it is worth is what the hold of that sum in a sandbox is worth. -/
noncomputable def Try.pinned : Pinned := { name := "ytebbnjbgmcdbcaa", sum := "d8fd0ec94058b0cba6e7f2332eabad8dddb9889435776a660f9f11ca126f7b1e", checked := Try.checked }
namespace Rows
def none {H : Type} : Left H := { results := [], args := [] }

/-- 'heronlaw15.LiteralNames': WHATEVER THE INPUT: true; the input reads as it did. -/
def literalNamesSpec : ChangeSpec := { name := "literalNames", fn := fun _ => fun
  | [] => { results := [.lit (.bool true)], args := [] }
  | _ => none }
def literalNamesRow : OpenClaim := { program := "ytebbnjbgmcdbcaa", sum := "d8fd0ec94058b0cba6e7f2332eabad8dddb9889435776a660f9f11ca126f7b1e", func := "heron/heronlaw15.LiteralNames", spec := "literalNames", unfollowed := true, recurses := true, apart := false }
def LiteralNamesSaid : Prop := literalNamesRow.holds Try.pinned (OpenSpec.ofChange literalNamesSpec)

/-- ITS FALSE NEIGHBOUR: 'it returns false'. Refute it at one input. -/
def literalNamesWrong : ChangeSpec := { name := "literalNames", fn := fun _ => fun
  | [] => { results := [.lit (.bool false)], args := [] }
  | _ => none }
def LiteralNamesWrongFalsely : Prop := literalNamesRow.holds Try.pinned (OpenSpec.ofChange literalNamesWrong)

/-- 'heronlaw15.LiteralPrefixes': WHATEVER THE INPUT: true; the input reads as it did. -/
def literalPrefixesSpec : ChangeSpec := { name := "literalPrefixes", fn := fun _ => fun
  | [d1, d2] => { results := [.lit (.bool true)], args := [d1, d2] }
  | _ => none }
def literalPrefixesRow : OpenClaim := { program := "ytebbnjbgmcdbcaa", sum := "d8fd0ec94058b0cba6e7f2332eabad8dddb9889435776a660f9f11ca126f7b1e", func := "heron/heronlaw15.LiteralPrefixes", spec := "literalPrefixes", unfollowed := true, recurses := true, apart := false }
def LiteralPrefixesSaid : Prop := literalPrefixesRow.holds Try.pinned (OpenSpec.ofChange literalPrefixesSpec)

/-- ITS FALSE NEIGHBOUR: 'it returns false'. Refute it at one input. -/
def literalPrefixesWrong : ChangeSpec := { name := "literalPrefixes", fn := fun _ => fun
  | [d1, d2] => { results := [.lit (.bool false)], args := [d1, d2] }
  | _ => none }
def LiteralPrefixesWrongFalsely : Prop := literalPrefixesRow.holds Try.pinned (OpenSpec.ofChange literalPrefixesWrong)

/-- 'heronlaw15.LiteralPlays': WHATEVER THE INPUT: true; the input reads as it did. -/
def literalPlaysSpec : ChangeSpec := { name := "literalPlays", fn := fun _ => fun
  | [d1, d2, d3] => { results := [.lit (.bool true)], args := [d1, d2, d3] }
  | _ => none }
def literalPlaysRow : OpenClaim := { program := "ytebbnjbgmcdbcaa", sum := "d8fd0ec94058b0cba6e7f2332eabad8dddb9889435776a660f9f11ca126f7b1e", func := "heron/heronlaw15.LiteralPlays", spec := "literalPlays", unfollowed := true, recurses := true, apart := false }
def LiteralPlaysSaid : Prop := literalPlaysRow.holds Try.pinned (OpenSpec.ofChange literalPlaysSpec)

/-- ITS FALSE NEIGHBOUR: 'it returns false'. Refute it at one input. -/
def literalPlaysWrong : ChangeSpec := { name := "literalPlays", fn := fun _ => fun
  | [d1, d2, d3] => { results := [.lit (.bool false)], args := [d1, d2, d3] }
  | _ => none }
def LiteralPlaysWrongFalsely : Prop := literalPlaysRow.holds Try.pinned (OpenSpec.ofChange literalPlaysWrong)

/-- 'heronlaw15.LiteralSkips': WHATEVER THE INPUT: true; the input reads as it did. -/
def literalSkipsSpec : ChangeSpec := { name := "literalSkips", fn := fun _ => fun
  | [d1, d2, d3] => { results := [.lit (.bool true)], args := [d1, d2, d3] }
  | _ => none }
def literalSkipsRow : OpenClaim := { program := "ytebbnjbgmcdbcaa", sum := "d8fd0ec94058b0cba6e7f2332eabad8dddb9889435776a660f9f11ca126f7b1e", func := "heron/heronlaw15.LiteralSkips", spec := "literalSkips", unfollowed := true, recurses := true, apart := false }
def LiteralSkipsSaid : Prop := literalSkipsRow.holds Try.pinned (OpenSpec.ofChange literalSkipsSpec)

/-- ITS FALSE NEIGHBOUR: 'it returns false'. Refute it at one input. -/
def literalSkipsWrong : ChangeSpec := { name := "literalSkips", fn := fun _ => fun
  | [d1, d2, d3] => { results := [.lit (.bool false)], args := [d1, d2, d3] }
  | _ => none }
def LiteralSkipsWrongFalsely : Prop := literalSkipsRow.holds Try.pinned (OpenSpec.ofChange literalSkipsWrong)

/-- 'heronlaw15.LiteralAll': WHATEVER THE INPUT: true; the input reads as it did. -/
def literalAllSpec : ChangeSpec := { name := "literalAll", fn := fun _ => fun
  | [d1, d2, d3] => { results := [.lit (.bool true)], args := [d1, d2, d3] }
  | _ => none }
def literalAllRow : OpenClaim := { program := "ytebbnjbgmcdbcaa", sum := "d8fd0ec94058b0cba6e7f2332eabad8dddb9889435776a660f9f11ca126f7b1e", func := "heron/heronlaw15.LiteralAll", spec := "literalAll", unfollowed := true, recurses := true, apart := false }
def LiteralAllSaid : Prop := literalAllRow.holds Try.pinned (OpenSpec.ofChange literalAllSpec)

/-- ITS FALSE NEIGHBOUR: 'it returns false'. Refute it at one input. -/
def literalAllWrong : ChangeSpec := { name := "literalAll", fn := fun _ => fun
  | [d1, d2, d3] => { results := [.lit (.bool false)], args := [d1, d2, d3] }
  | _ => none }
def LiteralAllWrongFalsely : Prop := literalAllRow.holds Try.pinned (OpenSpec.ofChange literalAllWrong)

/- THE SECOND FORM. 'bulk': how many values and letters a reading holds, each counted each time it is reached (what is shared counts as often as it is met; a slice's spare places count too). A statement '..UptoSaid' is the law's where the arguments, and the package variables that the reading takes, are together of bulk at most 1048576: NARROWER than '..Said'. Prove '..Said' where nothing that the law and all that it calls make is longer than what came in: it says more and counts as full. Else prove '..UptoSaid'. A law counts once. -/
mutual
def uptoBulk {H : Type} : DataW H → Nat
  | .lit (.string bytes) => bytes.length + 1
  | .lit _ => 1
  | .nil => 1
  | .ptr d => uptoBulk d + 1
  | .slice elems spare => uptoBulkAll elems + uptoBulkAll spare + 1
  | .agg parts => uptoBulkAll parts + 1
  | .iface _ d => uptoBulk d + 1
  | .map entries => uptoBulkEntries entries + 1
  | .held _ => 1
def uptoBulkAll {H : Type} : List (DataW H) → Nat
  | [] => 0
  | d :: r => uptoBulk d + uptoBulkAll r
def uptoBulkEntries {H : Type} : List (Lit × DataW H) → Nat
  | [] => 0
  | x :: r => uptoBulkEntry x + uptoBulkEntries r
def uptoBulkEntry {H : Type} : Lit × DataW H → Nat
  | (.string bytes, d) => bytes.length + uptoBulk d + 1
  | (_, d) => uptoBulk d + 1
 end
def uptoSmall : (H : Type) → List (DataW H) → Bool := fun _ ds => decide (uptoBulkAll ds ≤ 1048576)
def OpenSpec.upto (s : _root_.Go.ChangeSpec) : _root_.Go.OpenSpec := { _root_.Go.OpenSpec.ofChange s with cond := some uptoSmall }

/-- 'heronlaw15.LiteralNames', WHERE WHAT IT READS IS OF BULK AT MOST 1048576: true; the input reads as it did. -/
def literalNamesUptoRow : OpenClaim := { program := "ytebbnjbgmcdbcaa", sum := "d8fd0ec94058b0cba6e7f2332eabad8dddb9889435776a660f9f11ca126f7b1e", func := "heron/heronlaw15.LiteralNames", spec := "literalNames", unfollowed := true, recurses := true, apart := false, narrowed := true }
def LiteralNamesUptoSaid : Prop := literalNamesUptoRow.holds Try.pinned (OpenSpec.upto literalNamesSpec)

/-- 'heronlaw15.LiteralPrefixes', WHERE WHAT IT READS IS OF BULK AT MOST 1048576: true; the input reads as it did. -/
def literalPrefixesUptoRow : OpenClaim := { program := "ytebbnjbgmcdbcaa", sum := "d8fd0ec94058b0cba6e7f2332eabad8dddb9889435776a660f9f11ca126f7b1e", func := "heron/heronlaw15.LiteralPrefixes", spec := "literalPrefixes", unfollowed := true, recurses := true, apart := false, narrowed := true }
def LiteralPrefixesUptoSaid : Prop := literalPrefixesUptoRow.holds Try.pinned (OpenSpec.upto literalPrefixesSpec)

/-- 'heronlaw15.LiteralPlays', WHERE WHAT IT READS IS OF BULK AT MOST 1048576: true; the input reads as it did. -/
def literalPlaysUptoRow : OpenClaim := { program := "ytebbnjbgmcdbcaa", sum := "d8fd0ec94058b0cba6e7f2332eabad8dddb9889435776a660f9f11ca126f7b1e", func := "heron/heronlaw15.LiteralPlays", spec := "literalPlays", unfollowed := true, recurses := true, apart := false, narrowed := true }
def LiteralPlaysUptoSaid : Prop := literalPlaysUptoRow.holds Try.pinned (OpenSpec.upto literalPlaysSpec)

/-- 'heronlaw15.LiteralSkips', WHERE WHAT IT READS IS OF BULK AT MOST 1048576: true; the input reads as it did. -/
def literalSkipsUptoRow : OpenClaim := { program := "ytebbnjbgmcdbcaa", sum := "d8fd0ec94058b0cba6e7f2332eabad8dddb9889435776a660f9f11ca126f7b1e", func := "heron/heronlaw15.LiteralSkips", spec := "literalSkips", unfollowed := true, recurses := true, apart := false, narrowed := true }
def LiteralSkipsUptoSaid : Prop := literalSkipsUptoRow.holds Try.pinned (OpenSpec.upto literalSkipsSpec)

/-- 'heronlaw15.LiteralAll', WHERE WHAT IT READS IS OF BULK AT MOST 1048576: true; the input reads as it did. -/
def literalAllUptoRow : OpenClaim := { program := "ytebbnjbgmcdbcaa", sum := "d8fd0ec94058b0cba6e7f2332eabad8dddb9889435776a660f9f11ca126f7b1e", func := "heron/heronlaw15.LiteralAll", spec := "literalAll", unfollowed := true, recurses := true, apart := false, narrowed := true }
def LiteralAllUptoSaid : Prop := literalAllUptoRow.holds Try.pinned (OpenSpec.upto literalAllSpec)

end Rows
end Go.Proofs.Ytebbnjbgmcdbcaa
