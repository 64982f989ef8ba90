/-
  No cell of these rows narrows 'for every input' (looked for: loops, veiled, ifaces, maps, wideKeys, modest, calm, conditions, laid).
  DERIVED. THE GIVEN ROWS OF THIS SEAT. 6 by the template 'for every input the law returns true; each argument reads behind the call as it read before'; 0 by the template 'total and deterministic' (their statements: YtpommccgiinhiaaTotals.lean).
  GIVEN WITH THE SEED: the statements are not yours to turn. If you find one false, say at which input.
  Laid BY PROGRAM, IN A SANDBOX (cutbox-rows.mjs): the forced cells as the released guide's own fill.sh prints them over the translation ce65ba02fe166b8a… (all of the seat's roots in one cut). By AI agents, Wed Nov 11 2026. No macro, syntax, notation, axiom, sorry.
-/
import Derived.Test.YtpommccgiinhiaaChecked
import GoSem.Claim
import GoSem.ClaimJoined
import GoSem.ClaimMapViews
import Derived.JoinedTies
import Derived.KernelRfl
namespace Go.Proofs.Ytpommccgiinhiaa
/- THE CELL 'sum', in the pinned program and in every row, IS THE sha256 OF THE DUMP (.gsa) THAT YtpommccgiinhiaaProg.lean LOADS. Nothing in Lean hashes anything: it is a label: what it is worth is what the hold of that sum in a sandbox is worth. -/
noncomputable def Try.pinned : Pinned := { name := "ytpommccgiinhiaa", sum := "ce65ba02fe166b8a1e0e0bb5cce3658166cf708b527ebfe6714aebca78c133eb", checked := Try.checked }
namespace Rows
def none {H : Type} : Left H := { results := [], args := [] }

/-- 'laws.FnIntersectMembers': WHATEVER THE INPUT: true; the input reads as it did. -/
def fnIntersectMembersSpec : ChangeSpec := { name := "fnIntersectMembers", fn := fun _ => fun
  | [d] => { results := [.lit (.bool true)], args := [d] }
  | _ => none }
def fnIntersectMembersRow : OpenClaim := { program := "ytpommccgiinhiaa", sum := "ce65ba02fe166b8a1e0e0bb5cce3658166cf708b527ebfe6714aebca78c133eb", func := "loop.example/flexquorum/laws.FnIntersectMembers", spec := "fnIntersectMembers", unfollowed := true, recurses := true, apart := false }
def FnIntersectMembersSaid : Prop := fnIntersectMembersRow.holds Try.pinned (OpenSpec.ofChange fnIntersectMembersSpec)

/-- ITS FALSE NEIGHBOUR: 'it returns false'. Refute it at one input. -/
def fnIntersectMembersWrong : ChangeSpec := { name := "fnIntersectMembers", fn := fun _ => fun
  | [d] => { results := [.lit (.bool false)], args := [d] }
  | _ => none }
def FnIntersectMembersWrongFalsely : Prop := fnIntersectMembersRow.holds Try.pinned (OpenSpec.ofChange fnIntersectMembersWrong)

/-- 'laws.FnMajority': WHATEVER THE INPUT: true; the input reads as it did. -/
def fnMajoritySpec : ChangeSpec := { name := "fnMajority", fn := fun _ => fun
  | [d] => { results := [.lit (.bool true)], args := [d] }
  | _ => none }
def fnMajorityRow : OpenClaim := { program := "ytpommccgiinhiaa", sum := "ce65ba02fe166b8a1e0e0bb5cce3658166cf708b527ebfe6714aebca78c133eb", func := "loop.example/flexquorum/laws.FnMajority", spec := "fnMajority", apart := false }
def FnMajoritySaid : Prop := fnMajorityRow.holds Try.pinned (OpenSpec.ofChange fnMajoritySpec)

/-- ITS FALSE NEIGHBOUR: 'it returns false'. Refute it at one input. -/
def fnMajorityWrong : ChangeSpec := { name := "fnMajority", fn := fun _ => fun
  | [d] => { results := [.lit (.bool false)], args := [d] }
  | _ => none }
def FnMajorityWrongFalsely : Prop := fnMajorityRow.holds Try.pinned (OpenSpec.ofChange fnMajorityWrong)

/-- 'laws.FnDistributive': WHATEVER THE INPUT: true; the input reads as it did. -/
def fnDistributiveSpec : ChangeSpec := { name := "fnDistributive", fn := fun _ => fun
  | [d1, d2] => { results := [.lit (.bool true)], args := [d1, d2] }
  | _ => none }
def fnDistributiveRow : OpenClaim := { program := "ytpommccgiinhiaa", sum := "ce65ba02fe166b8a1e0e0bb5cce3658166cf708b527ebfe6714aebca78c133eb", func := "loop.example/flexquorum/laws.FnDistributive", spec := "fnDistributive", unfollowed := true, recurses := true, apart := false }
def FnDistributiveSaid : Prop := fnDistributiveRow.holds Try.pinned (OpenSpec.ofChange fnDistributiveSpec)

/-- ITS FALSE NEIGHBOUR: 'it returns false'. Refute it at one input. -/
def fnDistributiveWrong : ChangeSpec := { name := "fnDistributive", fn := fun _ => fun
  | [d1, d2] => { results := [.lit (.bool false)], args := [d1, d2] }
  | _ => none }
def FnDistributiveWrongFalsely : Prop := fnDistributiveRow.holds Try.pinned (OpenSpec.ofChange fnDistributiveWrong)

/-- 'laws.FnSetOrder': WHATEVER THE INPUT: true; the input reads as it did. -/
def fnSetOrderSpec : ChangeSpec := { name := "fnSetOrder", fn := fun _ => fun
  | [d] => { results := [.lit (.bool true)], args := [d] }
  | _ => none }
def fnSetOrderRow : OpenClaim := { program := "ytpommccgiinhiaa", sum := "ce65ba02fe166b8a1e0e0bb5cce3658166cf708b527ebfe6714aebca78c133eb", func := "loop.example/flexquorum/laws.FnSetOrder", spec := "fnSetOrder", unfollowed := true, recurses := true, apart := false }
def FnSetOrderSaid : Prop := fnSetOrderRow.holds Try.pinned (OpenSpec.ofChange fnSetOrderSpec)

/-- ITS FALSE NEIGHBOUR: 'it returns false'. Refute it at one input. -/
def fnSetOrderWrong : ChangeSpec := { name := "fnSetOrder", fn := fun _ => fun
  | [d] => { results := [.lit (.bool false)], args := [d] }
  | _ => none }
def FnSetOrderWrongFalsely : Prop := fnSetOrderRow.holds Try.pinned (OpenSpec.ofChange fnSetOrderWrong)

/-- 'laws.FnSubset': WHATEVER THE INPUT: true; the input reads as it did. -/
def fnSubsetSpec : ChangeSpec := { name := "fnSubset", fn := fun _ => fun
  | [d] => { results := [.lit (.bool true)], args := [d] }
  | _ => none }
def fnSubsetRow : OpenClaim := { program := "ytpommccgiinhiaa", sum := "ce65ba02fe166b8a1e0e0bb5cce3658166cf708b527ebfe6714aebca78c133eb", func := "loop.example/flexquorum/laws.FnSubset", spec := "fnSubset", unfollowed := true, recurses := true, apart := false }
def FnSubsetSaid : Prop := fnSubsetRow.holds Try.pinned (OpenSpec.ofChange fnSubsetSpec)

/-- ITS FALSE NEIGHBOUR: 'it returns false'. Refute it at one input. -/
def fnSubsetWrong : ChangeSpec := { name := "fnSubset", fn := fun _ => fun
  | [d] => { results := [.lit (.bool false)], args := [d] }
  | _ => none }
def FnSubsetWrongFalsely : Prop := fnSubsetRow.holds Try.pinned (OpenSpec.ofChange fnSubsetWrong)

/-- 'laws.FnWeightsSum': WHATEVER THE INPUT: true; the input reads as it did. -/
def fnWeightsSumSpec : ChangeSpec := { name := "fnWeightsSum", fn := fun _ => fun
  | [d1, d2] => { results := [.lit (.bool true)], args := [d1, d2] }
  | _ => none }
def fnWeightsSumRow : OpenClaim := { program := "ytpommccgiinhiaa", sum := "ce65ba02fe166b8a1e0e0bb5cce3658166cf708b527ebfe6714aebca78c133eb", func := "loop.example/flexquorum/laws.FnWeightsSum", spec := "fnWeightsSum", unfollowed := true, recurses := true, apart := false }
def FnWeightsSumSaid : Prop := fnWeightsSumRow.holds Try.pinned (OpenSpec.ofChange fnWeightsSumSpec)

/-- ITS FALSE NEIGHBOUR: 'it returns false'. Refute it at one input. -/
def fnWeightsSumWrong : ChangeSpec := { name := "fnWeightsSum", fn := fun _ => fun
  | [d1, d2] => { results := [.lit (.bool false)], args := [d1, d2] }
  | _ => none }
def FnWeightsSumWrongFalsely : Prop := fnWeightsSumRow.holds Try.pinned (OpenSpec.ofChange fnWeightsSumWrong)

/- THE SECOND FORM. 'bulk': how many values and letters a reading holds, each counted each time it is reached (what is shared counts as often as it is met; a slice's spare places count too). A statement '..UptoSaid' is the law's where the arguments, and the package variables that the reading takes, are together of bulk at most 1048576: NARROWER than '..Said'. Prove '..Said' where nothing that the law and all that it calls make is longer than what came in: it says more and counts as full. Else prove '..UptoSaid'. A law counts once. -/
mutual
def uptoBulk {H : Type} : DataW H → Nat
  | .lit (.string bytes) => bytes.length + 1
  | .lit _ => 1
  | .nil => 1
  | .ptr d => uptoBulk d + 1
  | .slice elems spare => uptoBulkAll elems + uptoBulkAll spare + 1
  | .agg parts => uptoBulkAll parts + 1
  | .iface _ d => uptoBulk d + 1
  | .map entries => uptoBulkEntries entries + 1
  | .held _ => 1
def uptoBulkAll {H : Type} : List (DataW H) → Nat
  | [] => 0
  | d :: r => uptoBulk d + uptoBulkAll r
def uptoBulkEntries {H : Type} : List (Lit × DataW H) → Nat
  | [] => 0
  | x :: r => uptoBulkEntry x + uptoBulkEntries r
def uptoBulkEntry {H : Type} : Lit × DataW H → Nat
  | (.string bytes, d) => bytes.length + uptoBulk d + 1
  | (_, d) => uptoBulk d + 1
 end
def uptoSmall : (H : Type) → List (DataW H) → Bool := fun _ ds => decide (uptoBulkAll ds ≤ 1048576)
def OpenSpec.upto (s : _root_.Go.ChangeSpec) : _root_.Go.OpenSpec := { _root_.Go.OpenSpec.ofChange s with cond := some uptoSmall }

/-- 'laws.FnIntersectMembers', WHERE WHAT IT READS IS OF BULK AT MOST 1048576: true; the input reads as it did. -/
def fnIntersectMembersUptoRow : OpenClaim := { program := "ytpommccgiinhiaa", sum := "ce65ba02fe166b8a1e0e0bb5cce3658166cf708b527ebfe6714aebca78c133eb", func := "loop.example/flexquorum/laws.FnIntersectMembers", spec := "fnIntersectMembers", unfollowed := true, recurses := true, apart := false, narrowed := true }
def FnIntersectMembersUptoSaid : Prop := fnIntersectMembersUptoRow.holds Try.pinned (OpenSpec.upto fnIntersectMembersSpec)

/-- 'laws.FnMajority', WHERE WHAT IT READS IS OF BULK AT MOST 1048576: true; the input reads as it did. -/
def fnMajorityUptoRow : OpenClaim := { program := "ytpommccgiinhiaa", sum := "ce65ba02fe166b8a1e0e0bb5cce3658166cf708b527ebfe6714aebca78c133eb", func := "loop.example/flexquorum/laws.FnMajority", spec := "fnMajority", apart := false, narrowed := true }
def FnMajorityUptoSaid : Prop := fnMajorityUptoRow.holds Try.pinned (OpenSpec.upto fnMajoritySpec)

/-- 'laws.FnDistributive', WHERE WHAT IT READS IS OF BULK AT MOST 1048576: true; the input reads as it did. -/
def fnDistributiveUptoRow : OpenClaim := { program := "ytpommccgiinhiaa", sum := "ce65ba02fe166b8a1e0e0bb5cce3658166cf708b527ebfe6714aebca78c133eb", func := "loop.example/flexquorum/laws.FnDistributive", spec := "fnDistributive", unfollowed := true, recurses := true, apart := false, narrowed := true }
def FnDistributiveUptoSaid : Prop := fnDistributiveUptoRow.holds Try.pinned (OpenSpec.upto fnDistributiveSpec)

/-- 'laws.FnSetOrder', WHERE WHAT IT READS IS OF BULK AT MOST 1048576: true; the input reads as it did. -/
def fnSetOrderUptoRow : OpenClaim := { program := "ytpommccgiinhiaa", sum := "ce65ba02fe166b8a1e0e0bb5cce3658166cf708b527ebfe6714aebca78c133eb", func := "loop.example/flexquorum/laws.FnSetOrder", spec := "fnSetOrder", unfollowed := true, recurses := true, apart := false, narrowed := true }
def FnSetOrderUptoSaid : Prop := fnSetOrderUptoRow.holds Try.pinned (OpenSpec.upto fnSetOrderSpec)

/-- 'laws.FnSubset', WHERE WHAT IT READS IS OF BULK AT MOST 1048576: true; the input reads as it did. -/
def fnSubsetUptoRow : OpenClaim := { program := "ytpommccgiinhiaa", sum := "ce65ba02fe166b8a1e0e0bb5cce3658166cf708b527ebfe6714aebca78c133eb", func := "loop.example/flexquorum/laws.FnSubset", spec := "fnSubset", unfollowed := true, recurses := true, apart := false, narrowed := true }
def FnSubsetUptoSaid : Prop := fnSubsetUptoRow.holds Try.pinned (OpenSpec.upto fnSubsetSpec)

/-- 'laws.FnWeightsSum', WHERE WHAT IT READS IS OF BULK AT MOST 1048576: true; the input reads as it did. -/
def fnWeightsSumUptoRow : OpenClaim := { program := "ytpommccgiinhiaa", sum := "ce65ba02fe166b8a1e0e0bb5cce3658166cf708b527ebfe6714aebca78c133eb", func := "loop.example/flexquorum/laws.FnWeightsSum", spec := "fnWeightsSum", unfollowed := true, recurses := true, apart := false, narrowed := true }
def FnWeightsSumUptoSaid : Prop := fnWeightsSumUptoRow.holds Try.pinned (OpenSpec.upto fnWeightsSumSpec)

end Rows
end Go.Proofs.Ytpommccgiinhiaa
