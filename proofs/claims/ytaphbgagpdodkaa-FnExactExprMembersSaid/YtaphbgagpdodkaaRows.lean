/-
  No cell of these rows narrows 'for every input' (looked for: loops, veiled, ifaces, maps, wideKeys, modest, calm, conditions, laid).
  DERIVED. THE GIVEN ROWS OF THIS SEAT. 8 by the template 'for every input the law returns true; each argument reads behind the call as it read before'; 0 by the template 'total and deterministic' (their statements: YtaphbgagpdodkaaTotals.lean).
  GIVEN WITH THE SEED: the statements are not yours to turn. If you find one false, say at which input.
  Laid BY PROGRAM, IN A SANDBOX (cutbox-rows.mjs): the forced cells as the released guide's own fill.sh prints them over the translation 5cf365fe31ae1149… (all of the seat's roots in one cut). By AI agents, Wed Nov 11 2026. No macro, syntax, notation, axiom, sorry.
-/
import Derived.Test.YtaphbgagpdodkaaChecked
import GoSem.Claim
import GoSem.ClaimJoined
import GoSem.ClaimMapViews
import Derived.JoinedTies
import Derived.KernelRfl
namespace Go.Proofs.Ytaphbgagpdodkaa
/- THE CELL 'sum', in the pinned program and in every row, IS THE sha256 OF THE DUMP (.gsa) THAT YtaphbgagpdodkaaProg.lean LOADS. Nothing in Lean hashes anything: it is a label: what it is worth is what the hold of that sum in a sandbox is worth. -/
noncomputable def Try.pinned : Pinned := { name := "ytaphbgagpdodkaa", sum := "5cf365fe31ae1149f72ec9a0eca01d5a9eb35310018a8a436874773ec1ad452c", checked := Try.checked }
namespace Rows
def none {H : Type} : Left H := { results := [], args := [] }

/-- 'laws.FnExactExprMembers': WHATEVER THE INPUT: true; the input reads as it did. -/
def fnExactExprMembersSpec : ChangeSpec := { name := "fnExactExprMembers", fn := fun _ => fun
  | [d] => { results := [.lit (.bool true)], args := [d] }
  | _ => none }
def fnExactExprMembersRow : OpenClaim := { program := "ytaphbgagpdodkaa", sum := "5cf365fe31ae1149f72ec9a0eca01d5a9eb35310018a8a436874773ec1ad452c", func := "loop.example/flexquorum/laws.FnExactExprMembers", spec := "fnExactExprMembers", recurses := true, apart := false }
def FnExactExprMembersSaid : Prop := fnExactExprMembersRow.holds Try.pinned (OpenSpec.ofChange fnExactExprMembersSpec)

/-- ITS FALSE NEIGHBOUR: 'it returns false'. Refute it at one input. -/
def fnExactExprMembersWrong : ChangeSpec := { name := "fnExactExprMembers", fn := fun _ => fun
  | [d] => { results := [.lit (.bool false)], args := [d] }
  | _ => none }
def FnExactExprMembersWrongFalsely : Prop := fnExactExprMembersRow.holds Try.pinned (OpenSpec.ofChange fnExactExprMembersWrong)

/-- 'laws.FnExactExprSatisfied': WHATEVER THE INPUT: true; the input reads as it did. -/
def fnExactExprSatisfiedSpec : ChangeSpec := { name := "fnExactExprSatisfied", fn := fun _ => fun
  | [d1, d2] => { results := [.lit (.bool true)], args := [d1, d2] }
  | _ => none }
def fnExactExprSatisfiedRow : OpenClaim := { program := "ytaphbgagpdodkaa", sum := "5cf365fe31ae1149f72ec9a0eca01d5a9eb35310018a8a436874773ec1ad452c", func := "loop.example/flexquorum/laws.FnExactExprSatisfied", spec := "fnExactExprSatisfied", recurses := true, apart := false }
def FnExactExprSatisfiedSaid : Prop := fnExactExprSatisfiedRow.holds Try.pinned (OpenSpec.ofChange fnExactExprSatisfiedSpec)

/-- ITS FALSE NEIGHBOUR: 'it returns false'. Refute it at one input. -/
def fnExactExprSatisfiedWrong : ChangeSpec := { name := "fnExactExprSatisfied", fn := fun _ => fun
  | [d1, d2] => { results := [.lit (.bool false)], args := [d1, d2] }
  | _ => none }
def FnExactExprSatisfiedWrongFalsely : Prop := fnExactExprSatisfiedRow.holds Try.pinned (OpenSpec.ofChange fnExactExprSatisfiedWrong)

/-- 'laws.FnWrap': WHATEVER THE INPUT: true; the input reads as it did. -/
def fnWrapSpec : ChangeSpec := { name := "fnWrap", fn := fun _ => fun
  | [d] => { results := [.lit (.bool true)], args := [d] }
  | _ => none }
def fnWrapRow : OpenClaim := { program := "ytaphbgagpdodkaa", sum := "5cf365fe31ae1149f72ec9a0eca01d5a9eb35310018a8a436874773ec1ad452c", func := "loop.example/flexquorum/laws.FnWrap", spec := "fnWrap", recurses := true, apart := false }
def FnWrapSaid : Prop := fnWrapRow.holds Try.pinned (OpenSpec.ofChange fnWrapSpec)

/-- ITS FALSE NEIGHBOUR: 'it returns false'. Refute it at one input. -/
def fnWrapWrong : ChangeSpec := { name := "fnWrap", fn := fun _ => fun
  | [d] => { results := [.lit (.bool false)], args := [d] }
  | _ => none }
def FnWrapWrongFalsely : Prop := fnWrapRow.holds Try.pinned (OpenSpec.ofChange fnWrapWrong)

/-- 'laws.FnMembersParts': WHATEVER THE INPUT: true; the input reads as it did. -/
def fnMembersPartsSpec : ChangeSpec := { name := "fnMembersParts", fn := fun _ => fun
  | [d1, d2] => { results := [.lit (.bool true)], args := [d1, d2] }
  | _ => none }
def fnMembersPartsRow : OpenClaim := { program := "ytaphbgagpdodkaa", sum := "5cf365fe31ae1149f72ec9a0eca01d5a9eb35310018a8a436874773ec1ad452c", func := "loop.example/flexquorum/laws.FnMembersParts", spec := "fnMembersParts", unfollowed := true, recurses := true, apart := false }
def FnMembersPartsSaid : Prop := fnMembersPartsRow.holds Try.pinned (OpenSpec.ofChange fnMembersPartsSpec)

/-- ITS FALSE NEIGHBOUR: 'it returns false'. Refute it at one input. -/
def fnMembersPartsWrong : ChangeSpec := { name := "fnMembersParts", fn := fun _ => fun
  | [d1, d2] => { results := [.lit (.bool false)], args := [d1, d2] }
  | _ => none }
def FnMembersPartsWrongFalsely : Prop := fnMembersPartsRow.holds Try.pinned (OpenSpec.ofChange fnMembersPartsWrong)

/-- 'laws.FnExprOr': WHATEVER THE INPUT: true; the input reads as it did. -/
def fnExprOrSpec : ChangeSpec := { name := "fnExprOr", fn := fun _ => fun
  | [d1, d2] => { results := [.lit (.bool true)], args := [d1, d2] }
  | _ => none }
def fnExprOrRow : OpenClaim := { program := "ytaphbgagpdodkaa", sum := "5cf365fe31ae1149f72ec9a0eca01d5a9eb35310018a8a436874773ec1ad452c", func := "loop.example/flexquorum/laws.FnExprOr", spec := "fnExprOr", recurses := true, apart := false }
def FnExprOrSaid : Prop := fnExprOrRow.holds Try.pinned (OpenSpec.ofChange fnExprOrSpec)

/-- ITS FALSE NEIGHBOUR: 'it returns false'. Refute it at one input. -/
def fnExprOrWrong : ChangeSpec := { name := "fnExprOr", fn := fun _ => fun
  | [d1, d2] => { results := [.lit (.bool false)], args := [d1, d2] }
  | _ => none }
def FnExprOrWrongFalsely : Prop := fnExprOrRow.holds Try.pinned (OpenSpec.ofChange fnExprOrWrong)

/-- 'laws.FnExprEmpty': WHATEVER THE INPUT: true; the input reads as it did. -/
def fnExprEmptySpec : ChangeSpec := { name := "fnExprEmpty", fn := fun _ => fun
  | [d] => { results := [.lit (.bool true)], args := [d] }
  | _ => none }
def fnExprEmptyRow : OpenClaim := { program := "ytaphbgagpdodkaa", sum := "5cf365fe31ae1149f72ec9a0eca01d5a9eb35310018a8a436874773ec1ad452c", func := "loop.example/flexquorum/laws.FnExprEmpty", spec := "fnExprEmpty", recurses := true, apart := false }
def FnExprEmptySaid : Prop := fnExprEmptyRow.holds Try.pinned (OpenSpec.ofChange fnExprEmptySpec)

/-- ITS FALSE NEIGHBOUR: 'it returns false'. Refute it at one input. -/
def fnExprEmptyWrong : ChangeSpec := { name := "fnExprEmpty", fn := fun _ => fun
  | [d] => { results := [.lit (.bool false)], args := [d] }
  | _ => none }
def FnExprEmptyWrongFalsely : Prop := fnExprEmptyRow.holds Try.pinned (OpenSpec.ofChange fnExprEmptyWrong)

/-- 'laws.FnExprLocal': WHATEVER THE INPUT: true; the input reads as it did. -/
def fnExprLocalSpec : ChangeSpec := { name := "fnExprLocal", fn := fun _ => fun
  | [d] => { results := [.lit (.bool true)], args := [d] }
  | _ => none }
def fnExprLocalRow : OpenClaim := { program := "ytaphbgagpdodkaa", sum := "5cf365fe31ae1149f72ec9a0eca01d5a9eb35310018a8a436874773ec1ad452c", func := "loop.example/flexquorum/laws.FnExprLocal", spec := "fnExprLocal", unfollowed := true, recurses := true, apart := false }
def FnExprLocalSaid : Prop := fnExprLocalRow.holds Try.pinned (OpenSpec.ofChange fnExprLocalSpec)

/-- ITS FALSE NEIGHBOUR: 'it returns false'. Refute it at one input. -/
def fnExprLocalWrong : ChangeSpec := { name := "fnExprLocal", fn := fun _ => fun
  | [d] => { results := [.lit (.bool false)], args := [d] }
  | _ => none }
def FnExprLocalWrongFalsely : Prop := fnExprLocalRow.holds Try.pinned (OpenSpec.ofChange fnExprLocalWrong)

/-- 'laws.FnExprMonotone': WHATEVER THE INPUT: true; the input reads as it did. -/
def fnExprMonotoneSpec : ChangeSpec := { name := "fnExprMonotone", fn := fun _ => fun
  | [d1, d2] => { results := [.lit (.bool true)], args := [d1, d2] }
  | _ => none }
def fnExprMonotoneRow : OpenClaim := { program := "ytaphbgagpdodkaa", sum := "5cf365fe31ae1149f72ec9a0eca01d5a9eb35310018a8a436874773ec1ad452c", func := "loop.example/flexquorum/laws.FnExprMonotone", spec := "fnExprMonotone", unfollowed := true, recurses := true, apart := false }
def FnExprMonotoneSaid : Prop := fnExprMonotoneRow.holds Try.pinned (OpenSpec.ofChange fnExprMonotoneSpec)

/-- ITS FALSE NEIGHBOUR: 'it returns false'. Refute it at one input. -/
def fnExprMonotoneWrong : ChangeSpec := { name := "fnExprMonotone", fn := fun _ => fun
  | [d1, d2] => { results := [.lit (.bool false)], args := [d1, d2] }
  | _ => none }
def FnExprMonotoneWrongFalsely : Prop := fnExprMonotoneRow.holds Try.pinned (OpenSpec.ofChange fnExprMonotoneWrong)

/- THE SECOND FORM. 'bulk': how many values and letters a reading holds, each counted each time it is reached (what is shared counts as often as it is met; a slice's spare places count too). A statement '..UptoSaid' is the law's where the arguments, and the package variables that the reading takes, are together of bulk at most 1048576: NARROWER than '..Said'. Prove '..Said' where nothing that the law and all that it calls make is longer than what came in: it says more and counts as full. Else prove '..UptoSaid'. A law counts once. -/
mutual
def uptoBulk {H : Type} : DataW H → Nat
  | .lit (.string bytes) => bytes.length + 1
  | .lit _ => 1
  | .nil => 1
  | .ptr d => uptoBulk d + 1
  | .slice elems spare => uptoBulkAll elems + uptoBulkAll spare + 1
  | .agg parts => uptoBulkAll parts + 1
  | .iface _ d => uptoBulk d + 1
  | .map entries => uptoBulkEntries entries + 1
  | .held _ => 1
def uptoBulkAll {H : Type} : List (DataW H) → Nat
  | [] => 0
  | d :: r => uptoBulk d + uptoBulkAll r
def uptoBulkEntries {H : Type} : List (Lit × DataW H) → Nat
  | [] => 0
  | x :: r => uptoBulkEntry x + uptoBulkEntries r
def uptoBulkEntry {H : Type} : Lit × DataW H → Nat
  | (.string bytes, d) => bytes.length + uptoBulk d + 1
  | (_, d) => uptoBulk d + 1
 end
def uptoSmall : (H : Type) → List (DataW H) → Bool := fun _ ds => decide (uptoBulkAll ds ≤ 1048576)
def OpenSpec.upto (s : _root_.Go.ChangeSpec) : _root_.Go.OpenSpec := { _root_.Go.OpenSpec.ofChange s with cond := some uptoSmall }

/-- 'laws.FnExactExprMembers', WHERE WHAT IT READS IS OF BULK AT MOST 1048576: true; the input reads as it did. -/
def fnExactExprMembersUptoRow : OpenClaim := { program := "ytaphbgagpdodkaa", sum := "5cf365fe31ae1149f72ec9a0eca01d5a9eb35310018a8a436874773ec1ad452c", func := "loop.example/flexquorum/laws.FnExactExprMembers", spec := "fnExactExprMembers", recurses := true, apart := false, narrowed := true }
def FnExactExprMembersUptoSaid : Prop := fnExactExprMembersUptoRow.holds Try.pinned (OpenSpec.upto fnExactExprMembersSpec)

/-- 'laws.FnExactExprSatisfied', WHERE WHAT IT READS IS OF BULK AT MOST 1048576: true; the input reads as it did. -/
def fnExactExprSatisfiedUptoRow : OpenClaim := { program := "ytaphbgagpdodkaa", sum := "5cf365fe31ae1149f72ec9a0eca01d5a9eb35310018a8a436874773ec1ad452c", func := "loop.example/flexquorum/laws.FnExactExprSatisfied", spec := "fnExactExprSatisfied", recurses := true, apart := false, narrowed := true }
def FnExactExprSatisfiedUptoSaid : Prop := fnExactExprSatisfiedUptoRow.holds Try.pinned (OpenSpec.upto fnExactExprSatisfiedSpec)

/-- 'laws.FnWrap', WHERE WHAT IT READS IS OF BULK AT MOST 1048576: true; the input reads as it did. -/
def fnWrapUptoRow : OpenClaim := { program := "ytaphbgagpdodkaa", sum := "5cf365fe31ae1149f72ec9a0eca01d5a9eb35310018a8a436874773ec1ad452c", func := "loop.example/flexquorum/laws.FnWrap", spec := "fnWrap", recurses := true, apart := false, narrowed := true }
def FnWrapUptoSaid : Prop := fnWrapUptoRow.holds Try.pinned (OpenSpec.upto fnWrapSpec)

/-- 'laws.FnMembersParts', WHERE WHAT IT READS IS OF BULK AT MOST 1048576: true; the input reads as it did. -/
def fnMembersPartsUptoRow : OpenClaim := { program := "ytaphbgagpdodkaa", sum := "5cf365fe31ae1149f72ec9a0eca01d5a9eb35310018a8a436874773ec1ad452c", func := "loop.example/flexquorum/laws.FnMembersParts", spec := "fnMembersParts", unfollowed := true, recurses := true, apart := false, narrowed := true }
def FnMembersPartsUptoSaid : Prop := fnMembersPartsUptoRow.holds Try.pinned (OpenSpec.upto fnMembersPartsSpec)

/-- 'laws.FnExprOr', WHERE WHAT IT READS IS OF BULK AT MOST 1048576: true; the input reads as it did. -/
def fnExprOrUptoRow : OpenClaim := { program := "ytaphbgagpdodkaa", sum := "5cf365fe31ae1149f72ec9a0eca01d5a9eb35310018a8a436874773ec1ad452c", func := "loop.example/flexquorum/laws.FnExprOr", spec := "fnExprOr", recurses := true, apart := false, narrowed := true }
def FnExprOrUptoSaid : Prop := fnExprOrUptoRow.holds Try.pinned (OpenSpec.upto fnExprOrSpec)

/-- 'laws.FnExprEmpty', WHERE WHAT IT READS IS OF BULK AT MOST 1048576: true; the input reads as it did. -/
def fnExprEmptyUptoRow : OpenClaim := { program := "ytaphbgagpdodkaa", sum := "5cf365fe31ae1149f72ec9a0eca01d5a9eb35310018a8a436874773ec1ad452c", func := "loop.example/flexquorum/laws.FnExprEmpty", spec := "fnExprEmpty", recurses := true, apart := false, narrowed := true }
def FnExprEmptyUptoSaid : Prop := fnExprEmptyUptoRow.holds Try.pinned (OpenSpec.upto fnExprEmptySpec)

/-- 'laws.FnExprLocal', WHERE WHAT IT READS IS OF BULK AT MOST 1048576: true; the input reads as it did. -/
def fnExprLocalUptoRow : OpenClaim := { program := "ytaphbgagpdodkaa", sum := "5cf365fe31ae1149f72ec9a0eca01d5a9eb35310018a8a436874773ec1ad452c", func := "loop.example/flexquorum/laws.FnExprLocal", spec := "fnExprLocal", unfollowed := true, recurses := true, apart := false, narrowed := true }
def FnExprLocalUptoSaid : Prop := fnExprLocalUptoRow.holds Try.pinned (OpenSpec.upto fnExprLocalSpec)

/-- 'laws.FnExprMonotone', WHERE WHAT IT READS IS OF BULK AT MOST 1048576: true; the input reads as it did. -/
def fnExprMonotoneUptoRow : OpenClaim := { program := "ytaphbgagpdodkaa", sum := "5cf365fe31ae1149f72ec9a0eca01d5a9eb35310018a8a436874773ec1ad452c", func := "loop.example/flexquorum/laws.FnExprMonotone", spec := "fnExprMonotone", unfollowed := true, recurses := true, apart := false, narrowed := true }
def FnExprMonotoneUptoSaid : Prop := fnExprMonotoneUptoRow.holds Try.pinned (OpenSpec.upto fnExprMonotoneSpec)

end Rows
end Go.Proofs.Ytaphbgagpdodkaa
