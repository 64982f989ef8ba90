/-
  No cell of these rows narrows 'for every input' (looked for: loops, veiled, ifaces, maps, wideKeys, modest, calm, conditions, laid).
  DERIVED. THE GIVEN ROWS OF THIS SEAT. 8 by the template 'for every input the law returns true; each argument reads behind the call as it read before'; 0 by the template 'total and deterministic' (their statements: YtjjjpakgnipghaaTotals.lean).
  GIVEN WITH THE SEED: the statements are not yours to turn. If you find one false, say at which input.
  Laid BY PROGRAM, IN A SANDBOX (cutbox-rows.mjs): the forced cells as the released guide's own fill.sh prints them over the translation 2e28f4480f46c714… (all of the seat's roots in one cut). By AI agents, Wed Nov 11 2026. No macro, syntax, notation, axiom, sorry.
-/
import Derived.Test.YtjjjpakgnipghaaChecked
import GoSem.Claim
import GoSem.ClaimJoined
import GoSem.ClaimMapViews
import Derived.JoinedTies
import Derived.KernelRfl
namespace Go.Proofs.Ytjjjpakgnipghaa
/- THE CELL 'sum', in the pinned program and in every row, IS THE sha256 OF THE DUMP (.gsa) THAT YtjjjpakgnipghaaProg.lean LOADS. Nothing in Lean hashes anything: it is a label: what it is worth is what the hold of that sum in a sandbox is worth. -/
noncomputable def Try.pinned : Pinned := { name := "ytjjjpakgnipghaa", sum := "2e28f4480f46c7144b7f60df6ebe2cf9c306c90e26b0801cee3e3973dc18bddd", checked := Try.checked }
namespace Rows
def none {H : Type} : Left H := { results := [], args := [] }

/-- 'laws.FnFamilyOfExpr': WHATEVER THE INPUT: true; the input reads as it did. -/
def fnFamilyOfExprSpec : ChangeSpec := { name := "fnFamilyOfExpr", fn := fun _ => fun
  | [d1, d2] => { results := [.lit (.bool true)], args := [d1, d2] }
  | _ => none }
def fnFamilyOfExprRow : OpenClaim := { program := "ytjjjpakgnipghaa", sum := "2e28f4480f46c7144b7f60df6ebe2cf9c306c90e26b0801cee3e3973dc18bddd", func := "loop.example/flexquorum/laws.FnFamilyOfExpr", spec := "fnFamilyOfExpr", unfollowed := true, recurses := true, apart := false }
def FnFamilyOfExprSaid : Prop := fnFamilyOfExprRow.holds Try.pinned (OpenSpec.ofChange fnFamilyOfExprSpec)

/-- ITS FALSE NEIGHBOUR: 'it returns false'. Refute it at one input. -/
def fnFamilyOfExprWrong : ChangeSpec := { name := "fnFamilyOfExpr", fn := fun _ => fun
  | [d1, d2] => { results := [.lit (.bool false)], args := [d1, d2] }
  | _ => none }
def FnFamilyOfExprWrongFalsely : Prop := fnFamilyOfExprRow.holds Try.pinned (OpenSpec.ofChange fnFamilyOfExprWrong)

/-- 'laws.FnExactFamilyOfExpr': WHATEVER THE INPUT: true; the input reads as it did. -/
def fnExactFamilyOfExprSpec : ChangeSpec := { name := "fnExactFamilyOfExpr", fn := fun _ => fun
  | [d] => { results := [.lit (.bool true)], args := [d] }
  | _ => none }
def fnExactFamilyOfExprRow : OpenClaim := { program := "ytjjjpakgnipghaa", sum := "2e28f4480f46c7144b7f60df6ebe2cf9c306c90e26b0801cee3e3973dc18bddd", func := "loop.example/flexquorum/laws.FnExactFamilyOfExpr", spec := "fnExactFamilyOfExpr", unfollowed := true, recurses := true, apart := false }
def FnExactFamilyOfExprSaid : Prop := fnExactFamilyOfExprRow.holds Try.pinned (OpenSpec.ofChange fnExactFamilyOfExprSpec)

/-- ITS FALSE NEIGHBOUR: 'it returns false'. Refute it at one input. -/
def fnExactFamilyOfExprWrong : ChangeSpec := { name := "fnExactFamilyOfExpr", fn := fun _ => fun
  | [d] => { results := [.lit (.bool false)], args := [d] }
  | _ => none }
def FnExactFamilyOfExprWrongFalsely : Prop := fnExactFamilyOfExprRow.holds Try.pinned (OpenSpec.ofChange fnExactFamilyOfExprWrong)

/-- 'laws.FnAvailability': WHATEVER THE INPUT: true; the input reads as it did. -/
def fnAvailabilitySpec : ChangeSpec := { name := "fnAvailability", fn := fun _ => fun
  | [d] => { results := [.lit (.bool true)], args := [d] }
  | _ => none }
def fnAvailabilityRow : OpenClaim := { program := "ytjjjpakgnipghaa", sum := "2e28f4480f46c7144b7f60df6ebe2cf9c306c90e26b0801cee3e3973dc18bddd", func := "loop.example/flexquorum/laws.FnAvailability", spec := "fnAvailability", unfollowed := true, recurses := true, apart := false }
def FnAvailabilitySaid : Prop := fnAvailabilityRow.holds Try.pinned (OpenSpec.ofChange fnAvailabilitySpec)

/-- ITS FALSE NEIGHBOUR: 'it returns false'. Refute it at one input. -/
def fnAvailabilityWrong : ChangeSpec := { name := "fnAvailability", fn := fun _ => fun
  | [d] => { results := [.lit (.bool false)], args := [d] }
  | _ => none }
def FnAvailabilityWrongFalsely : Prop := fnAvailabilityRow.holds Try.pinned (OpenSpec.ofChange fnAvailabilityWrong)

/-- 'laws.FnExactConfigOptimal': WHATEVER THE INPUT: true; the input reads as it did. -/
def fnExactConfigOptimalSpec : ChangeSpec := { name := "fnExactConfigOptimal", fn := fun _ => fun
  | [d] => { results := [.lit (.bool true)], args := [d] }
  | _ => none }
def fnExactConfigOptimalRow : OpenClaim := { program := "ytjjjpakgnipghaa", sum := "2e28f4480f46c7144b7f60df6ebe2cf9c306c90e26b0801cee3e3973dc18bddd", func := "loop.example/flexquorum/laws.FnExactConfigOptimal", spec := "fnExactConfigOptimal", unfollowed := true, recurses := true, apart := false }
def FnExactConfigOptimalSaid : Prop := fnExactConfigOptimalRow.holds Try.pinned (OpenSpec.ofChange fnExactConfigOptimalSpec)

/-- ITS FALSE NEIGHBOUR: 'it returns false'. Refute it at one input. -/
def fnExactConfigOptimalWrong : ChangeSpec := { name := "fnExactConfigOptimal", fn := fun _ => fun
  | [d] => { results := [.lit (.bool false)], args := [d] }
  | _ => none }
def FnExactConfigOptimalWrongFalsely : Prop := fnExactConfigOptimalRow.holds Try.pinned (OpenSpec.ofChange fnExactConfigOptimalWrong)

/-- 'laws.FnOptimalTwice': WHATEVER THE INPUT: true; the input reads as it did. -/
def fnOptimalTwiceSpec : ChangeSpec := { name := "fnOptimalTwice", fn := fun _ => fun
  | [d] => { results := [.lit (.bool true)], args := [d] }
  | _ => none }
def fnOptimalTwiceRow : OpenClaim := { program := "ytjjjpakgnipghaa", sum := "2e28f4480f46c7144b7f60df6ebe2cf9c306c90e26b0801cee3e3973dc18bddd", func := "loop.example/flexquorum/laws.FnOptimalTwice", spec := "fnOptimalTwice", unfollowed := true, recurses := true, apart := false }
def FnOptimalTwiceSaid : Prop := fnOptimalTwiceRow.holds Try.pinned (OpenSpec.ofChange fnOptimalTwiceSpec)

/-- ITS FALSE NEIGHBOUR: 'it returns false'. Refute it at one input. -/
def fnOptimalTwiceWrong : ChangeSpec := { name := "fnOptimalTwice", fn := fun _ => fun
  | [d] => { results := [.lit (.bool false)], args := [d] }
  | _ => none }
def FnOptimalTwiceWrongFalsely : Prop := fnOptimalTwiceRow.holds Try.pinned (OpenSpec.ofChange fnOptimalTwiceWrong)

/-- 'laws.FnDualInvolution': WHATEVER THE INPUT: true; the input reads as it did. -/
def fnDualInvolutionSpec : ChangeSpec := { name := "fnDualInvolution", fn := fun _ => fun
  | [d] => { results := [.lit (.bool true)], args := [d] }
  | _ => none }
def fnDualInvolutionRow : OpenClaim := { program := "ytjjjpakgnipghaa", sum := "2e28f4480f46c7144b7f60df6ebe2cf9c306c90e26b0801cee3e3973dc18bddd", func := "loop.example/flexquorum/laws.FnDualInvolution", spec := "fnDualInvolution", unfollowed := true, recurses := true, apart := false }
def FnDualInvolutionSaid : Prop := fnDualInvolutionRow.holds Try.pinned (OpenSpec.ofChange fnDualInvolutionSpec)

/-- ITS FALSE NEIGHBOUR: 'it returns false'. Refute it at one input. -/
def fnDualInvolutionWrong : ChangeSpec := { name := "fnDualInvolution", fn := fun _ => fun
  | [d] => { results := [.lit (.bool false)], args := [d] }
  | _ => none }
def FnDualInvolutionWrongFalsely : Prop := fnDualInvolutionRow.holds Try.pinned (OpenSpec.ofChange fnDualInvolutionWrong)

/-- 'laws.FnDualSemantics': WHATEVER THE INPUT: true; the input reads as it did. -/
def fnDualSemanticsSpec : ChangeSpec := { name := "fnDualSemantics", fn := fun _ => fun
  | [d1, d2] => { results := [.lit (.bool true)], args := [d1, d2] }
  | _ => none }
def fnDualSemanticsRow : OpenClaim := { program := "ytjjjpakgnipghaa", sum := "2e28f4480f46c7144b7f60df6ebe2cf9c306c90e26b0801cee3e3973dc18bddd", func := "loop.example/flexquorum/laws.FnDualSemantics", spec := "fnDualSemantics", unfollowed := true, recurses := true, apart := false }
def FnDualSemanticsSaid : Prop := fnDualSemanticsRow.holds Try.pinned (OpenSpec.ofChange fnDualSemanticsSpec)

/-- ITS FALSE NEIGHBOUR: 'it returns false'. Refute it at one input. -/
def fnDualSemanticsWrong : ChangeSpec := { name := "fnDualSemantics", fn := fun _ => fun
  | [d1, d2] => { results := [.lit (.bool false)], args := [d1, d2] }
  | _ => none }
def FnDualSemanticsWrongFalsely : Prop := fnDualSemanticsRow.holds Try.pinned (OpenSpec.ofChange fnDualSemanticsWrong)

/-- 'laws.FnDualMeets': WHATEVER THE INPUT: true; the input reads as it did. -/
def fnDualMeetsSpec : ChangeSpec := { name := "fnDualMeets", fn := fun _ => fun
  | [d1, d2] => { results := [.lit (.bool true)], args := [d1, d2] }
  | _ => none }
def fnDualMeetsRow : OpenClaim := { program := "ytjjjpakgnipghaa", sum := "2e28f4480f46c7144b7f60df6ebe2cf9c306c90e26b0801cee3e3973dc18bddd", func := "loop.example/flexquorum/laws.FnDualMeets", spec := "fnDualMeets", unfollowed := true, recurses := true, apart := false }
def FnDualMeetsSaid : Prop := fnDualMeetsRow.holds Try.pinned (OpenSpec.ofChange fnDualMeetsSpec)

/-- ITS FALSE NEIGHBOUR: 'it returns false'. Refute it at one input. -/
def fnDualMeetsWrong : ChangeSpec := { name := "fnDualMeets", fn := fun _ => fun
  | [d1, d2] => { results := [.lit (.bool false)], args := [d1, d2] }
  | _ => none }
def FnDualMeetsWrongFalsely : Prop := fnDualMeetsRow.holds Try.pinned (OpenSpec.ofChange fnDualMeetsWrong)

/- THE SECOND FORM. 'bulk': how many values and letters a reading holds, each counted each time it is reached (what is shared counts as often as it is met; a slice's spare places count too). A statement '..UptoSaid' is the law's where the arguments, and the package variables that the reading takes, are together of bulk at most 1048576: NARROWER than '..Said'. Prove '..Said' where nothing that the law and all that it calls make is longer than what came in: it says more and counts as full. Else prove '..UptoSaid'. A law counts once. -/
mutual
def uptoBulk {H : Type} : DataW H → Nat
  | .lit (.string bytes) => bytes.length + 1
  | .lit _ => 1
  | .nil => 1
  | .ptr d => uptoBulk d + 1
  | .slice elems spare => uptoBulkAll elems + uptoBulkAll spare + 1
  | .agg parts => uptoBulkAll parts + 1
  | .iface _ d => uptoBulk d + 1
  | .map entries => uptoBulkEntries entries + 1
  | .held _ => 1
def uptoBulkAll {H : Type} : List (DataW H) → Nat
  | [] => 0
  | d :: r => uptoBulk d + uptoBulkAll r
def uptoBulkEntries {H : Type} : List (Lit × DataW H) → Nat
  | [] => 0
  | x :: r => uptoBulkEntry x + uptoBulkEntries r
def uptoBulkEntry {H : Type} : Lit × DataW H → Nat
  | (.string bytes, d) => bytes.length + uptoBulk d + 1
  | (_, d) => uptoBulk d + 1
 end
def uptoSmall : (H : Type) → List (DataW H) → Bool := fun _ ds => decide (uptoBulkAll ds ≤ 1048576)
def OpenSpec.upto (s : _root_.Go.ChangeSpec) : _root_.Go.OpenSpec := { _root_.Go.OpenSpec.ofChange s with cond := some uptoSmall }

/-- 'laws.FnFamilyOfExpr', WHERE WHAT IT READS IS OF BULK AT MOST 1048576: true; the input reads as it did. -/
def fnFamilyOfExprUptoRow : OpenClaim := { program := "ytjjjpakgnipghaa", sum := "2e28f4480f46c7144b7f60df6ebe2cf9c306c90e26b0801cee3e3973dc18bddd", func := "loop.example/flexquorum/laws.FnFamilyOfExpr", spec := "fnFamilyOfExpr", unfollowed := true, recurses := true, apart := false, narrowed := true }
def FnFamilyOfExprUptoSaid : Prop := fnFamilyOfExprUptoRow.holds Try.pinned (OpenSpec.upto fnFamilyOfExprSpec)

/-- 'laws.FnExactFamilyOfExpr', WHERE WHAT IT READS IS OF BULK AT MOST 1048576: true; the input reads as it did. -/
def fnExactFamilyOfExprUptoRow : OpenClaim := { program := "ytjjjpakgnipghaa", sum := "2e28f4480f46c7144b7f60df6ebe2cf9c306c90e26b0801cee3e3973dc18bddd", func := "loop.example/flexquorum/laws.FnExactFamilyOfExpr", spec := "fnExactFamilyOfExpr", unfollowed := true, recurses := true, apart := false, narrowed := true }
def FnExactFamilyOfExprUptoSaid : Prop := fnExactFamilyOfExprUptoRow.holds Try.pinned (OpenSpec.upto fnExactFamilyOfExprSpec)

/-- 'laws.FnAvailability', WHERE WHAT IT READS IS OF BULK AT MOST 1048576: true; the input reads as it did. -/
def fnAvailabilityUptoRow : OpenClaim := { program := "ytjjjpakgnipghaa", sum := "2e28f4480f46c7144b7f60df6ebe2cf9c306c90e26b0801cee3e3973dc18bddd", func := "loop.example/flexquorum/laws.FnAvailability", spec := "fnAvailability", unfollowed := true, recurses := true, apart := false, narrowed := true }
def FnAvailabilityUptoSaid : Prop := fnAvailabilityUptoRow.holds Try.pinned (OpenSpec.upto fnAvailabilitySpec)

/-- 'laws.FnExactConfigOptimal', WHERE WHAT IT READS IS OF BULK AT MOST 1048576: true; the input reads as it did. -/
def fnExactConfigOptimalUptoRow : OpenClaim := { program := "ytjjjpakgnipghaa", sum := "2e28f4480f46c7144b7f60df6ebe2cf9c306c90e26b0801cee3e3973dc18bddd", func := "loop.example/flexquorum/laws.FnExactConfigOptimal", spec := "fnExactConfigOptimal", unfollowed := true, recurses := true, apart := false, narrowed := true }
def FnExactConfigOptimalUptoSaid : Prop := fnExactConfigOptimalUptoRow.holds Try.pinned (OpenSpec.upto fnExactConfigOptimalSpec)

/-- 'laws.FnOptimalTwice', WHERE WHAT IT READS IS OF BULK AT MOST 1048576: true; the input reads as it did. -/
def fnOptimalTwiceUptoRow : OpenClaim := { program := "ytjjjpakgnipghaa", sum := "2e28f4480f46c7144b7f60df6ebe2cf9c306c90e26b0801cee3e3973dc18bddd", func := "loop.example/flexquorum/laws.FnOptimalTwice", spec := "fnOptimalTwice", unfollowed := true, recurses := true, apart := false, narrowed := true }
def FnOptimalTwiceUptoSaid : Prop := fnOptimalTwiceUptoRow.holds Try.pinned (OpenSpec.upto fnOptimalTwiceSpec)

/-- 'laws.FnDualInvolution', WHERE WHAT IT READS IS OF BULK AT MOST 1048576: true; the input reads as it did. -/
def fnDualInvolutionUptoRow : OpenClaim := { program := "ytjjjpakgnipghaa", sum := "2e28f4480f46c7144b7f60df6ebe2cf9c306c90e26b0801cee3e3973dc18bddd", func := "loop.example/flexquorum/laws.FnDualInvolution", spec := "fnDualInvolution", unfollowed := true, recurses := true, apart := false, narrowed := true }
def FnDualInvolutionUptoSaid : Prop := fnDualInvolutionUptoRow.holds Try.pinned (OpenSpec.upto fnDualInvolutionSpec)

/-- 'laws.FnDualSemantics', WHERE WHAT IT READS IS OF BULK AT MOST 1048576: true; the input reads as it did. -/
def fnDualSemanticsUptoRow : OpenClaim := { program := "ytjjjpakgnipghaa", sum := "2e28f4480f46c7144b7f60df6ebe2cf9c306c90e26b0801cee3e3973dc18bddd", func := "loop.example/flexquorum/laws.FnDualSemantics", spec := "fnDualSemantics", unfollowed := true, recurses := true, apart := false, narrowed := true }
def FnDualSemanticsUptoSaid : Prop := fnDualSemanticsUptoRow.holds Try.pinned (OpenSpec.upto fnDualSemanticsSpec)

/-- 'laws.FnDualMeets', WHERE WHAT IT READS IS OF BULK AT MOST 1048576: true; the input reads as it did. -/
def fnDualMeetsUptoRow : OpenClaim := { program := "ytjjjpakgnipghaa", sum := "2e28f4480f46c7144b7f60df6ebe2cf9c306c90e26b0801cee3e3973dc18bddd", func := "loop.example/flexquorum/laws.FnDualMeets", spec := "fnDualMeets", unfollowed := true, recurses := true, apart := false, narrowed := true }
def FnDualMeetsUptoSaid : Prop := fnDualMeetsUptoRow.holds Try.pinned (OpenSpec.upto fnDualMeetsSpec)

end Rows
end Go.Proofs.Ytjjjpakgnipghaa
