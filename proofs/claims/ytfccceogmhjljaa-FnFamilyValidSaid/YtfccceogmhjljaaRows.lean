/-
  No cell of these rows narrows 'for every input' (looked for: loops, veiled, ifaces, maps, wideKeys, modest, calm, conditions, laid).
  DERIVED. THE GIVEN ROWS OF THIS SEAT. 12 by the template 'for every input the law returns true; each argument reads behind the call as it read before'; 0 by the template 'total and deterministic' (their statements: YtfccceogmhjljaaTotals.lean).
  GIVEN WITH THE SEED: the statements are not yours to turn. If you find one false, say at which input.
  Laid BY PROGRAM, IN A SANDBOX (cutbox-rows.mjs): the forced cells as the released guide's own fill.sh prints them over the translation ebdbb26572a70cac… (all of the seat's roots in one cut). By AI agents, Wed Nov 11 2026. No macro, syntax, notation, axiom, sorry.
-/
import Derived.Test.YtfccceogmhjljaaChecked
import GoSem.Claim
import GoSem.ClaimJoined
import GoSem.ClaimMapViews
import Derived.JoinedTies
import Derived.KernelRfl
namespace Go.Proofs.Ytfccceogmhjljaa
/- THE CELL 'sum', in the pinned program and in every row, IS THE sha256 OF THE DUMP (.gsa) THAT YtfccceogmhjljaaProg.lean LOADS. Nothing in Lean hashes anything: it is a label: what it is worth is what the hold of that sum in a sandbox is worth. -/
noncomputable def Try.pinned : Pinned := { name := "ytfccceogmhjljaa", sum := "ebdbb26572a70cacbb4c0645e7333fd172b0edc7b5dd5691845a29d7ebfe9f90", checked := Try.checked }
namespace Rows
def none {H : Type} : Left H := { results := [], args := [] }

/-- 'laws.FnFamilyValid': WHATEVER THE INPUT: true; the input reads as it did. -/
def fnFamilyValidSpec : ChangeSpec := { name := "fnFamilyValid", fn := fun _ => fun
  | [d1, d2] => { results := [.lit (.bool true)], args := [d1, d2] }
  | _ => none }
def fnFamilyValidRow : OpenClaim := { program := "ytfccceogmhjljaa", sum := "ebdbb26572a70cacbb4c0645e7333fd172b0edc7b5dd5691845a29d7ebfe9f90", func := "loop.example/flexquorum/laws.FnFamilyValid", spec := "fnFamilyValid", recurses := true, apart := false }
def FnFamilyValidSaid : Prop := fnFamilyValidRow.holds Try.pinned (OpenSpec.ofChange fnFamilyValidSpec)

/-- ITS FALSE NEIGHBOUR: 'it returns false'. Refute it at one input. -/
def fnFamilyValidWrong : ChangeSpec := { name := "fnFamilyValid", fn := fun _ => fun
  | [d1, d2] => { results := [.lit (.bool false)], args := [d1, d2] }
  | _ => none }
def FnFamilyValidWrongFalsely : Prop := fnFamilyValidRow.holds Try.pinned (OpenSpec.ofChange fnFamilyValidWrong)

/-- 'laws.FnExactFamilyMinimize': WHATEVER THE INPUT: true; the input reads as it did. -/
def fnExactFamilyMinimizeSpec : ChangeSpec := { name := "fnExactFamilyMinimize", fn := fun _ => fun
  | [d] => { results := [.lit (.bool true)], args := [d] }
  | _ => none }
def fnExactFamilyMinimizeRow : OpenClaim := { program := "ytfccceogmhjljaa", sum := "ebdbb26572a70cacbb4c0645e7333fd172b0edc7b5dd5691845a29d7ebfe9f90", func := "loop.example/flexquorum/laws.FnExactFamilyMinimize", spec := "fnExactFamilyMinimize", unfollowed := true, recurses := true, apart := false }
def FnExactFamilyMinimizeSaid : Prop := fnExactFamilyMinimizeRow.holds Try.pinned (OpenSpec.ofChange fnExactFamilyMinimizeSpec)

/-- ITS FALSE NEIGHBOUR: 'it returns false'. Refute it at one input. -/
def fnExactFamilyMinimizeWrong : ChangeSpec := { name := "fnExactFamilyMinimize", fn := fun _ => fun
  | [d] => { results := [.lit (.bool false)], args := [d] }
  | _ => none }
def FnExactFamilyMinimizeWrongFalsely : Prop := fnExactFamilyMinimizeRow.holds Try.pinned (OpenSpec.ofChange fnExactFamilyMinimizeWrong)

/-- 'laws.FnExactFamilyEither': WHATEVER THE INPUT: true; the input reads as it did. -/
def fnExactFamilyEitherSpec : ChangeSpec := { name := "fnExactFamilyEither", fn := fun _ => fun
  | [d1, d2] => { results := [.lit (.bool true)], args := [d1, d2] }
  | _ => none }
def fnExactFamilyEitherRow : OpenClaim := { program := "ytfccceogmhjljaa", sum := "ebdbb26572a70cacbb4c0645e7333fd172b0edc7b5dd5691845a29d7ebfe9f90", func := "loop.example/flexquorum/laws.FnExactFamilyEither", spec := "fnExactFamilyEither", unfollowed := true, recurses := true, apart := false }
def FnExactFamilyEitherSaid : Prop := fnExactFamilyEitherRow.holds Try.pinned (OpenSpec.ofChange fnExactFamilyEitherSpec)

/-- ITS FALSE NEIGHBOUR: 'it returns false'. Refute it at one input. -/
def fnExactFamilyEitherWrong : ChangeSpec := { name := "fnExactFamilyEither", fn := fun _ => fun
  | [d1, d2] => { results := [.lit (.bool false)], args := [d1, d2] }
  | _ => none }
def FnExactFamilyEitherWrongFalsely : Prop := fnExactFamilyEitherRow.holds Try.pinned (OpenSpec.ofChange fnExactFamilyEitherWrong)

/-- 'laws.FnExactFamilyBoth': WHATEVER THE INPUT: true; the input reads as it did. -/
def fnExactFamilyBothSpec : ChangeSpec := { name := "fnExactFamilyBoth", fn := fun _ => fun
  | [d1, d2] => { results := [.lit (.bool true)], args := [d1, d2] }
  | _ => none }
def fnExactFamilyBothRow : OpenClaim := { program := "ytfccceogmhjljaa", sum := "ebdbb26572a70cacbb4c0645e7333fd172b0edc7b5dd5691845a29d7ebfe9f90", func := "loop.example/flexquorum/laws.FnExactFamilyBoth", spec := "fnExactFamilyBoth", unfollowed := true, recurses := true, apart := false }
def FnExactFamilyBothSaid : Prop := fnExactFamilyBothRow.holds Try.pinned (OpenSpec.ofChange fnExactFamilyBothSpec)

/-- ITS FALSE NEIGHBOUR: 'it returns false'. Refute it at one input. -/
def fnExactFamilyBothWrong : ChangeSpec := { name := "fnExactFamilyBoth", fn := fun _ => fun
  | [d1, d2] => { results := [.lit (.bool false)], args := [d1, d2] }
  | _ => none }
def FnExactFamilyBothWrongFalsely : Prop := fnExactFamilyBothRow.holds Try.pinned (OpenSpec.ofChange fnExactFamilyBothWrong)

/-- 'laws.FnBoth': WHATEVER THE INPUT: true; the input reads as it did. -/
def fnBothSpec : ChangeSpec := { name := "fnBoth", fn := fun _ => fun
  | [d1, d2] => { results := [.lit (.bool true)], args := [d1, d2] }
  | _ => none }
def fnBothRow : OpenClaim := { program := "ytfccceogmhjljaa", sum := "ebdbb26572a70cacbb4c0645e7333fd172b0edc7b5dd5691845a29d7ebfe9f90", func := "loop.example/flexquorum/laws.FnBoth", spec := "fnBoth", unfollowed := true, recurses := true, apart := false }
def FnBothSaid : Prop := fnBothRow.holds Try.pinned (OpenSpec.ofChange fnBothSpec)

/-- ITS FALSE NEIGHBOUR: 'it returns false'. Refute it at one input. -/
def fnBothWrong : ChangeSpec := { name := "fnBoth", fn := fun _ => fun
  | [d1, d2] => { results := [.lit (.bool false)], args := [d1, d2] }
  | _ => none }
def FnBothWrongFalsely : Prop := fnBothRow.holds Try.pinned (OpenSpec.ofChange fnBothWrong)

/-- 'laws.FnBothSelf': WHATEVER THE INPUT: true; the input reads as it did. -/
def fnBothSelfSpec : ChangeSpec := { name := "fnBothSelf", fn := fun _ => fun
  | [d] => { results := [.lit (.bool true)], args := [d] }
  | _ => none }
def fnBothSelfRow : OpenClaim := { program := "ytfccceogmhjljaa", sum := "ebdbb26572a70cacbb4c0645e7333fd172b0edc7b5dd5691845a29d7ebfe9f90", func := "loop.example/flexquorum/laws.FnBothSelf", spec := "fnBothSelf", unfollowed := true, recurses := true, apart := false }
def FnBothSelfSaid : Prop := fnBothSelfRow.holds Try.pinned (OpenSpec.ofChange fnBothSelfSpec)

/-- ITS FALSE NEIGHBOUR: 'it returns false'. Refute it at one input. -/
def fnBothSelfWrong : ChangeSpec := { name := "fnBothSelf", fn := fun _ => fun
  | [d] => { results := [.lit (.bool false)], args := [d] }
  | _ => none }
def FnBothSelfWrongFalsely : Prop := fnBothSelfRow.holds Try.pinned (OpenSpec.ofChange fnBothSelfWrong)

/-- 'laws.FnAbsorb': WHATEVER THE INPUT: true; the input reads as it did. -/
def fnAbsorbSpec : ChangeSpec := { name := "fnAbsorb", fn := fun _ => fun
  | [d] => { results := [.lit (.bool true)], args := [d] }
  | _ => none }
def fnAbsorbRow : OpenClaim := { program := "ytfccceogmhjljaa", sum := "ebdbb26572a70cacbb4c0645e7333fd172b0edc7b5dd5691845a29d7ebfe9f90", func := "loop.example/flexquorum/laws.FnAbsorb", spec := "fnAbsorb", unfollowed := true, recurses := true, apart := false }
def FnAbsorbSaid : Prop := fnAbsorbRow.holds Try.pinned (OpenSpec.ofChange fnAbsorbSpec)

/-- ITS FALSE NEIGHBOUR: 'it returns false'. Refute it at one input. -/
def fnAbsorbWrong : ChangeSpec := { name := "fnAbsorb", fn := fun _ => fun
  | [d] => { results := [.lit (.bool false)], args := [d] }
  | _ => none }
def FnAbsorbWrongFalsely : Prop := fnAbsorbRow.holds Try.pinned (OpenSpec.ofChange fnAbsorbWrong)

/-- 'laws.FnDistributeFamilies': WHATEVER THE INPUT: true; the input reads as it did. -/
def fnDistributeFamiliesSpec : ChangeSpec := { name := "fnDistributeFamilies", fn := fun _ => fun
  | [d1, d2] => { results := [.lit (.bool true)], args := [d1, d2] }
  | _ => none }
def fnDistributeFamiliesRow : OpenClaim := { program := "ytfccceogmhjljaa", sum := "ebdbb26572a70cacbb4c0645e7333fd172b0edc7b5dd5691845a29d7ebfe9f90", func := "loop.example/flexquorum/laws.FnDistributeFamilies", spec := "fnDistributeFamilies", unfollowed := true, recurses := true, apart := false }
def FnDistributeFamiliesSaid : Prop := fnDistributeFamiliesRow.holds Try.pinned (OpenSpec.ofChange fnDistributeFamiliesSpec)

/-- ITS FALSE NEIGHBOUR: 'it returns false'. Refute it at one input. -/
def fnDistributeFamiliesWrong : ChangeSpec := { name := "fnDistributeFamilies", fn := fun _ => fun
  | [d1, d2] => { results := [.lit (.bool false)], args := [d1, d2] }
  | _ => none }
def FnDistributeFamiliesWrongFalsely : Prop := fnDistributeFamiliesRow.holds Try.pinned (OpenSpec.ofChange fnDistributeFamiliesWrong)

/-- 'laws.FnExactWeightsFamily': WHATEVER THE INPUT: true; the input reads as it did. -/
def fnExactWeightsFamilySpec : ChangeSpec := { name := "fnExactWeightsFamily", fn := fun _ => fun
  | [d1, d2] => { results := [.lit (.bool true)], args := [d1, d2] }
  | _ => none }
def fnExactWeightsFamilyRow : OpenClaim := { program := "ytfccceogmhjljaa", sum := "ebdbb26572a70cacbb4c0645e7333fd172b0edc7b5dd5691845a29d7ebfe9f90", func := "loop.example/flexquorum/laws.FnExactWeightsFamily", spec := "fnExactWeightsFamily", unfollowed := true, recurses := true, apart := false }
def FnExactWeightsFamilySaid : Prop := fnExactWeightsFamilyRow.holds Try.pinned (OpenSpec.ofChange fnExactWeightsFamilySpec)

/-- ITS FALSE NEIGHBOUR: 'it returns false'. Refute it at one input. -/
def fnExactWeightsFamilyWrong : ChangeSpec := { name := "fnExactWeightsFamily", fn := fun _ => fun
  | [d1, d2] => { results := [.lit (.bool false)], args := [d1, d2] }
  | _ => none }
def FnExactWeightsFamilyWrongFalsely : Prop := fnExactWeightsFamilyRow.holds Try.pinned (OpenSpec.ofChange fnExactWeightsFamilyWrong)

/-- 'laws.FnExactFamilyTransversals': WHATEVER THE INPUT: true; the input reads as it did. -/
def fnExactFamilyTransversalsSpec : ChangeSpec := { name := "fnExactFamilyTransversals", fn := fun _ => fun
  | [d] => { results := [.lit (.bool true)], args := [d] }
  | _ => none }
def fnExactFamilyTransversalsRow : OpenClaim := { program := "ytfccceogmhjljaa", sum := "ebdbb26572a70cacbb4c0645e7333fd172b0edc7b5dd5691845a29d7ebfe9f90", func := "loop.example/flexquorum/laws.FnExactFamilyTransversals", spec := "fnExactFamilyTransversals", unfollowed := true, recurses := true, apart := false }
def FnExactFamilyTransversalsSaid : Prop := fnExactFamilyTransversalsRow.holds Try.pinned (OpenSpec.ofChange fnExactFamilyTransversalsSpec)

/-- ITS FALSE NEIGHBOUR: 'it returns false'. Refute it at one input. -/
def fnExactFamilyTransversalsWrong : ChangeSpec := { name := "fnExactFamilyTransversals", fn := fun _ => fun
  | [d] => { results := [.lit (.bool false)], args := [d] }
  | _ => none }
def FnExactFamilyTransversalsWrongFalsely : Prop := fnExactFamilyTransversalsRow.holds Try.pinned (OpenSpec.ofChange fnExactFamilyTransversalsWrong)

/-- 'laws.FnResilience': WHATEVER THE INPUT: true; the input reads as it did. -/
def fnResilienceSpec : ChangeSpec := { name := "fnResilience", fn := fun _ => fun
  | [d] => { results := [.lit (.bool true)], args := [d] }
  | _ => none }
def fnResilienceRow : OpenClaim := { program := "ytfccceogmhjljaa", sum := "ebdbb26572a70cacbb4c0645e7333fd172b0edc7b5dd5691845a29d7ebfe9f90", func := "loop.example/flexquorum/laws.FnResilience", spec := "fnResilience", unfollowed := true, recurses := true, apart := false }
def FnResilienceSaid : Prop := fnResilienceRow.holds Try.pinned (OpenSpec.ofChange fnResilienceSpec)

/-- ITS FALSE NEIGHBOUR: 'it returns false'. Refute it at one input. -/
def fnResilienceWrong : ChangeSpec := { name := "fnResilience", fn := fun _ => fun
  | [d] => { results := [.lit (.bool false)], args := [d] }
  | _ => none }
def FnResilienceWrongFalsely : Prop := fnResilienceRow.holds Try.pinned (OpenSpec.ofChange fnResilienceWrong)

/-- 'laws.FnAvailabilityDual': WHATEVER THE INPUT: true; the input reads as it did. -/
def fnAvailabilityDualSpec : ChangeSpec := { name := "fnAvailabilityDual", fn := fun _ => fun
  | [d] => { results := [.lit (.bool true)], args := [d] }
  | _ => none }
def fnAvailabilityDualRow : OpenClaim := { program := "ytfccceogmhjljaa", sum := "ebdbb26572a70cacbb4c0645e7333fd172b0edc7b5dd5691845a29d7ebfe9f90", func := "loop.example/flexquorum/laws.FnAvailabilityDual", spec := "fnAvailabilityDual", unfollowed := true, recurses := true, apart := false }
def FnAvailabilityDualSaid : Prop := fnAvailabilityDualRow.holds Try.pinned (OpenSpec.ofChange fnAvailabilityDualSpec)

/-- ITS FALSE NEIGHBOUR: 'it returns false'. Refute it at one input. -/
def fnAvailabilityDualWrong : ChangeSpec := { name := "fnAvailabilityDual", fn := fun _ => fun
  | [d] => { results := [.lit (.bool false)], args := [d] }
  | _ => none }
def FnAvailabilityDualWrongFalsely : Prop := fnAvailabilityDualRow.holds Try.pinned (OpenSpec.ofChange fnAvailabilityDualWrong)

/- THE SECOND FORM. 'bulk': how many values and letters a reading holds, each counted each time it is reached (what is shared counts as often as it is met; a slice's spare places count too). A statement '..UptoSaid' is the law's where the arguments, and the package variables that the reading takes, are together of bulk at most 1048576: NARROWER than '..Said'. Prove '..Said' where nothing that the law and all that it calls make is longer than what came in: it says more and counts as full. Else prove '..UptoSaid'. A law counts once. -/
mutual
def uptoBulk {H : Type} : DataW H → Nat
  | .lit (.string bytes) => bytes.length + 1
  | .lit _ => 1
  | .nil => 1
  | .ptr d => uptoBulk d + 1
  | .slice elems spare => uptoBulkAll elems + uptoBulkAll spare + 1
  | .agg parts => uptoBulkAll parts + 1
  | .iface _ d => uptoBulk d + 1
  | .map entries => uptoBulkEntries entries + 1
  | .held _ => 1
def uptoBulkAll {H : Type} : List (DataW H) → Nat
  | [] => 0
  | d :: r => uptoBulk d + uptoBulkAll r
def uptoBulkEntries {H : Type} : List (Lit × DataW H) → Nat
  | [] => 0
  | x :: r => uptoBulkEntry x + uptoBulkEntries r
def uptoBulkEntry {H : Type} : Lit × DataW H → Nat
  | (.string bytes, d) => bytes.length + uptoBulk d + 1
  | (_, d) => uptoBulk d + 1
 end
def uptoSmall : (H : Type) → List (DataW H) → Bool := fun _ ds => decide (uptoBulkAll ds ≤ 1048576)
def OpenSpec.upto (s : _root_.Go.ChangeSpec) : _root_.Go.OpenSpec := { _root_.Go.OpenSpec.ofChange s with cond := some uptoSmall }

/-- 'laws.FnFamilyValid', WHERE WHAT IT READS IS OF BULK AT MOST 1048576: true; the input reads as it did. -/
def fnFamilyValidUptoRow : OpenClaim := { program := "ytfccceogmhjljaa", sum := "ebdbb26572a70cacbb4c0645e7333fd172b0edc7b5dd5691845a29d7ebfe9f90", func := "loop.example/flexquorum/laws.FnFamilyValid", spec := "fnFamilyValid", recurses := true, apart := false, narrowed := true }
def FnFamilyValidUptoSaid : Prop := fnFamilyValidUptoRow.holds Try.pinned (OpenSpec.upto fnFamilyValidSpec)

/-- 'laws.FnExactFamilyMinimize', WHERE WHAT IT READS IS OF BULK AT MOST 1048576: true; the input reads as it did. -/
def fnExactFamilyMinimizeUptoRow : OpenClaim := { program := "ytfccceogmhjljaa", sum := "ebdbb26572a70cacbb4c0645e7333fd172b0edc7b5dd5691845a29d7ebfe9f90", func := "loop.example/flexquorum/laws.FnExactFamilyMinimize", spec := "fnExactFamilyMinimize", unfollowed := true, recurses := true, apart := false, narrowed := true }
def FnExactFamilyMinimizeUptoSaid : Prop := fnExactFamilyMinimizeUptoRow.holds Try.pinned (OpenSpec.upto fnExactFamilyMinimizeSpec)

/-- 'laws.FnExactFamilyEither', WHERE WHAT IT READS IS OF BULK AT MOST 1048576: true; the input reads as it did. -/
def fnExactFamilyEitherUptoRow : OpenClaim := { program := "ytfccceogmhjljaa", sum := "ebdbb26572a70cacbb4c0645e7333fd172b0edc7b5dd5691845a29d7ebfe9f90", func := "loop.example/flexquorum/laws.FnExactFamilyEither", spec := "fnExactFamilyEither", unfollowed := true, recurses := true, apart := false, narrowed := true }
def FnExactFamilyEitherUptoSaid : Prop := fnExactFamilyEitherUptoRow.holds Try.pinned (OpenSpec.upto fnExactFamilyEitherSpec)

/-- 'laws.FnExactFamilyBoth', WHERE WHAT IT READS IS OF BULK AT MOST 1048576: true; the input reads as it did. -/
def fnExactFamilyBothUptoRow : OpenClaim := { program := "ytfccceogmhjljaa", sum := "ebdbb26572a70cacbb4c0645e7333fd172b0edc7b5dd5691845a29d7ebfe9f90", func := "loop.example/flexquorum/laws.FnExactFamilyBoth", spec := "fnExactFamilyBoth", unfollowed := true, recurses := true, apart := false, narrowed := true }
def FnExactFamilyBothUptoSaid : Prop := fnExactFamilyBothUptoRow.holds Try.pinned (OpenSpec.upto fnExactFamilyBothSpec)

/-- 'laws.FnBoth', WHERE WHAT IT READS IS OF BULK AT MOST 1048576: true; the input reads as it did. -/
def fnBothUptoRow : OpenClaim := { program := "ytfccceogmhjljaa", sum := "ebdbb26572a70cacbb4c0645e7333fd172b0edc7b5dd5691845a29d7ebfe9f90", func := "loop.example/flexquorum/laws.FnBoth", spec := "fnBoth", unfollowed := true, recurses := true, apart := false, narrowed := true }
def FnBothUptoSaid : Prop := fnBothUptoRow.holds Try.pinned (OpenSpec.upto fnBothSpec)

/-- 'laws.FnBothSelf', WHERE WHAT IT READS IS OF BULK AT MOST 1048576: true; the input reads as it did. -/
def fnBothSelfUptoRow : OpenClaim := { program := "ytfccceogmhjljaa", sum := "ebdbb26572a70cacbb4c0645e7333fd172b0edc7b5dd5691845a29d7ebfe9f90", func := "loop.example/flexquorum/laws.FnBothSelf", spec := "fnBothSelf", unfollowed := true, recurses := true, apart := false, narrowed := true }
def FnBothSelfUptoSaid : Prop := fnBothSelfUptoRow.holds Try.pinned (OpenSpec.upto fnBothSelfSpec)

/-- 'laws.FnAbsorb', WHERE WHAT IT READS IS OF BULK AT MOST 1048576: true; the input reads as it did. -/
def fnAbsorbUptoRow : OpenClaim := { program := "ytfccceogmhjljaa", sum := "ebdbb26572a70cacbb4c0645e7333fd172b0edc7b5dd5691845a29d7ebfe9f90", func := "loop.example/flexquorum/laws.FnAbsorb", spec := "fnAbsorb", unfollowed := true, recurses := true, apart := false, narrowed := true }
def FnAbsorbUptoSaid : Prop := fnAbsorbUptoRow.holds Try.pinned (OpenSpec.upto fnAbsorbSpec)

/-- 'laws.FnDistributeFamilies', WHERE WHAT IT READS IS OF BULK AT MOST 1048576: true; the input reads as it did. -/
def fnDistributeFamiliesUptoRow : OpenClaim := { program := "ytfccceogmhjljaa", sum := "ebdbb26572a70cacbb4c0645e7333fd172b0edc7b5dd5691845a29d7ebfe9f90", func := "loop.example/flexquorum/laws.FnDistributeFamilies", spec := "fnDistributeFamilies", unfollowed := true, recurses := true, apart := false, narrowed := true }
def FnDistributeFamiliesUptoSaid : Prop := fnDistributeFamiliesUptoRow.holds Try.pinned (OpenSpec.upto fnDistributeFamiliesSpec)

/-- 'laws.FnExactWeightsFamily', WHERE WHAT IT READS IS OF BULK AT MOST 1048576: true; the input reads as it did. -/
def fnExactWeightsFamilyUptoRow : OpenClaim := { program := "ytfccceogmhjljaa", sum := "ebdbb26572a70cacbb4c0645e7333fd172b0edc7b5dd5691845a29d7ebfe9f90", func := "loop.example/flexquorum/laws.FnExactWeightsFamily", spec := "fnExactWeightsFamily", unfollowed := true, recurses := true, apart := false, narrowed := true }
def FnExactWeightsFamilyUptoSaid : Prop := fnExactWeightsFamilyUptoRow.holds Try.pinned (OpenSpec.upto fnExactWeightsFamilySpec)

/-- 'laws.FnExactFamilyTransversals', WHERE WHAT IT READS IS OF BULK AT MOST 1048576: true; the input reads as it did. -/
def fnExactFamilyTransversalsUptoRow : OpenClaim := { program := "ytfccceogmhjljaa", sum := "ebdbb26572a70cacbb4c0645e7333fd172b0edc7b5dd5691845a29d7ebfe9f90", func := "loop.example/flexquorum/laws.FnExactFamilyTransversals", spec := "fnExactFamilyTransversals", unfollowed := true, recurses := true, apart := false, narrowed := true }
def FnExactFamilyTransversalsUptoSaid : Prop := fnExactFamilyTransversalsUptoRow.holds Try.pinned (OpenSpec.upto fnExactFamilyTransversalsSpec)

/-- 'laws.FnResilience', WHERE WHAT IT READS IS OF BULK AT MOST 1048576: true; the input reads as it did. -/
def fnResilienceUptoRow : OpenClaim := { program := "ytfccceogmhjljaa", sum := "ebdbb26572a70cacbb4c0645e7333fd172b0edc7b5dd5691845a29d7ebfe9f90", func := "loop.example/flexquorum/laws.FnResilience", spec := "fnResilience", unfollowed := true, recurses := true, apart := false, narrowed := true }
def FnResilienceUptoSaid : Prop := fnResilienceUptoRow.holds Try.pinned (OpenSpec.upto fnResilienceSpec)

/-- 'laws.FnAvailabilityDual', WHERE WHAT IT READS IS OF BULK AT MOST 1048576: true; the input reads as it did. -/
def fnAvailabilityDualUptoRow : OpenClaim := { program := "ytfccceogmhjljaa", sum := "ebdbb26572a70cacbb4c0645e7333fd172b0edc7b5dd5691845a29d7ebfe9f90", func := "loop.example/flexquorum/laws.FnAvailabilityDual", spec := "fnAvailabilityDual", unfollowed := true, recurses := true, apart := false, narrowed := true }
def FnAvailabilityDualUptoSaid : Prop := fnAvailabilityDualUptoRow.holds Try.pinned (OpenSpec.upto fnAvailabilityDualSpec)

end Rows
end Go.Proofs.Ytfccceogmhjljaa
