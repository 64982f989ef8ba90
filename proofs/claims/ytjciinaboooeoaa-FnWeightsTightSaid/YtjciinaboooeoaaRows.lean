/-
  No cell of these rows narrows 'for every input' (looked for: loops, veiled, ifaces, maps, wideKeys, modest, calm, conditions, laid).
  DERIVED. THE GIVEN ROWS OF THIS SEAT. 12 by the template 'for every input the law returns true; each argument reads behind the call as it read before'; 0 by the template 'total and deterministic' (their statements: YtjciinaboooeoaaTotals.lean).
  GIVEN WITH THE SEED: the statements are not yours to turn. If you find one false, say at which input.
  Laid BY PROGRAM, IN A SANDBOX (cutbox-rows.mjs): the forced cells as the released guide's own fill.sh prints them over the translation d0e15e31ba807c14… (all of the seat's roots in one cut). By AI agents, Wed Nov 11 2026. No macro, syntax, notation, axiom, sorry.
-/
import Derived.Test.YtjciinaboooeoaaChecked
import GoSem.Claim
import GoSem.ClaimJoined
import GoSem.ClaimMapViews
import Derived.JoinedTies
import Derived.KernelRfl
namespace Go.Proofs.Ytjciinaboooeoaa
/- THE CELL 'sum', in the pinned program and in every row, IS THE sha256 OF THE DUMP (.gsa) THAT YtjciinaboooeoaaProg.lean LOADS. Nothing in Lean hashes anything: it is a label: what it is worth is what the hold of that sum in a sandbox is worth. -/
noncomputable def Try.pinned : Pinned := { name := "ytjciinaboooeoaa", sum := "d0e15e31ba807c144e53d7f0d379ddecce0d66761eb663947f81d5829dbac27c", checked := Try.checked }
namespace Rows
def none {H : Type} : Left H := { results := [], args := [] }

/-- 'laws.FnTransversals': WHATEVER THE INPUT: true; the input reads as it did. -/
def fnTransversalsSpec : ChangeSpec := { name := "fnTransversals", fn := fun _ => fun
  | [d1, d2] => { results := [.lit (.bool true)], args := [d1, d2] }
  | _ => none }
def fnTransversalsRow : OpenClaim := { program := "ytjciinaboooeoaa", sum := "d0e15e31ba807c144e53d7f0d379ddecce0d66761eb663947f81d5829dbac27c", func := "loop.example/flexquorum/laws.FnTransversals", spec := "fnTransversals", unfollowed := true, recurses := true, apart := false }
def FnTransversalsSaid : Prop := fnTransversalsRow.holds Try.pinned (OpenSpec.ofChange fnTransversalsSpec)

/-- ITS FALSE NEIGHBOUR: 'it returns false'. Refute it at one input. -/
def fnTransversalsWrong : ChangeSpec := { name := "fnTransversals", fn := fun _ => fun
  | [d1, d2] => { results := [.lit (.bool false)], args := [d1, d2] }
  | _ => none }
def FnTransversalsWrongFalsely : Prop := fnTransversalsRow.holds Try.pinned (OpenSpec.ofChange fnTransversalsWrong)

/-- 'laws.FnTransversalsTwice': WHATEVER THE INPUT: true; the input reads as it did. -/
def fnTransversalsTwiceSpec : ChangeSpec := { name := "fnTransversalsTwice", fn := fun _ => fun
  | [d] => { results := [.lit (.bool true)], args := [d] }
  | _ => none }
def fnTransversalsTwiceRow : OpenClaim := { program := "ytjciinaboooeoaa", sum := "d0e15e31ba807c144e53d7f0d379ddecce0d66761eb663947f81d5829dbac27c", func := "loop.example/flexquorum/laws.FnTransversalsTwice", spec := "fnTransversalsTwice", unfollowed := true, recurses := true, apart := false }
def FnTransversalsTwiceSaid : Prop := fnTransversalsTwiceRow.holds Try.pinned (OpenSpec.ofChange fnTransversalsTwiceSpec)

/-- ITS FALSE NEIGHBOUR: 'it returns false'. Refute it at one input. -/
def fnTransversalsTwiceWrong : ChangeSpec := { name := "fnTransversalsTwice", fn := fun _ => fun
  | [d] => { results := [.lit (.bool false)], args := [d] }
  | _ => none }
def FnTransversalsTwiceWrongFalsely : Prop := fnTransversalsTwiceRow.holds Try.pinned (OpenSpec.ofChange fnTransversalsTwiceWrong)

/-- 'laws.FnCriticalTransversal': WHATEVER THE INPUT: true; the input reads as it did. -/
def fnCriticalTransversalSpec : ChangeSpec := { name := "fnCriticalTransversal", fn := fun _ => fun
  | [d] => { results := [.lit (.bool true)], args := [d] }
  | _ => none }
def fnCriticalTransversalRow : OpenClaim := { program := "ytjciinaboooeoaa", sum := "d0e15e31ba807c144e53d7f0d379ddecce0d66761eb663947f81d5829dbac27c", func := "loop.example/flexquorum/laws.FnCriticalTransversal", spec := "fnCriticalTransversal", unfollowed := true, recurses := true, apart := false }
def FnCriticalTransversalSaid : Prop := fnCriticalTransversalRow.holds Try.pinned (OpenSpec.ofChange fnCriticalTransversalSpec)

/-- ITS FALSE NEIGHBOUR: 'it returns false'. Refute it at one input. -/
def fnCriticalTransversalWrong : ChangeSpec := { name := "fnCriticalTransversal", fn := fun _ => fun
  | [d] => { results := [.lit (.bool false)], args := [d] }
  | _ => none }
def FnCriticalTransversalWrongFalsely : Prop := fnCriticalTransversalRow.holds Try.pinned (OpenSpec.ofChange fnCriticalTransversalWrong)

/-- 'laws.FnDeMorgan': WHATEVER THE INPUT: true; the input reads as it did. -/
def fnDeMorganSpec : ChangeSpec := { name := "fnDeMorgan", fn := fun _ => fun
  | [d] => { results := [.lit (.bool true)], args := [d] }
  | _ => none }
def fnDeMorganRow : OpenClaim := { program := "ytjciinaboooeoaa", sum := "d0e15e31ba807c144e53d7f0d379ddecce0d66761eb663947f81d5829dbac27c", func := "loop.example/flexquorum/laws.FnDeMorgan", spec := "fnDeMorgan", unfollowed := true, recurses := true, apart := false }
def FnDeMorganSaid : Prop := fnDeMorganRow.holds Try.pinned (OpenSpec.ofChange fnDeMorganSpec)

/-- ITS FALSE NEIGHBOUR: 'it returns false'. Refute it at one input. -/
def fnDeMorganWrong : ChangeSpec := { name := "fnDeMorgan", fn := fun _ => fun
  | [d] => { results := [.lit (.bool false)], args := [d] }
  | _ => none }
def FnDeMorganWrongFalsely : Prop := fnDeMorganRow.holds Try.pinned (OpenSpec.ofChange fnDeMorganWrong)

/-- 'laws.FnResilienceTransversal': WHATEVER THE INPUT: true; the input reads as it did. -/
def fnResilienceTransversalSpec : ChangeSpec := { name := "fnResilienceTransversal", fn := fun _ => fun
  | [d] => { results := [.lit (.bool true)], args := [d] }
  | _ => none }
def fnResilienceTransversalRow : OpenClaim := { program := "ytjciinaboooeoaa", sum := "d0e15e31ba807c144e53d7f0d379ddecce0d66761eb663947f81d5829dbac27c", func := "loop.example/flexquorum/laws.FnResilienceTransversal", spec := "fnResilienceTransversal", unfollowed := true, recurses := true, apart := false }
def FnResilienceTransversalSaid : Prop := fnResilienceTransversalRow.holds Try.pinned (OpenSpec.ofChange fnResilienceTransversalSpec)

/-- ITS FALSE NEIGHBOUR: 'it returns false'. Refute it at one input. -/
def fnResilienceTransversalWrong : ChangeSpec := { name := "fnResilienceTransversal", fn := fun _ => fun
  | [d] => { results := [.lit (.bool false)], args := [d] }
  | _ => none }
def FnResilienceTransversalWrongFalsely : Prop := fnResilienceTransversalRow.holds Try.pinned (OpenSpec.ofChange fnResilienceTransversalWrong)

/-- 'laws.FnSurvivesResilience': WHATEVER THE INPUT: true; the input reads as it did. -/
def fnSurvivesResilienceSpec : ChangeSpec := { name := "fnSurvivesResilience", fn := fun _ => fun
  | [d1, d2] => { results := [.lit (.bool true)], args := [d1, d2] }
  | _ => none }
def fnSurvivesResilienceRow : OpenClaim := { program := "ytjciinaboooeoaa", sum := "d0e15e31ba807c144e53d7f0d379ddecce0d66761eb663947f81d5829dbac27c", func := "loop.example/flexquorum/laws.FnSurvivesResilience", spec := "fnSurvivesResilience", unfollowed := true, recurses := true, apart := false }
def FnSurvivesResilienceSaid : Prop := fnSurvivesResilienceRow.holds Try.pinned (OpenSpec.ofChange fnSurvivesResilienceSpec)

/-- ITS FALSE NEIGHBOUR: 'it returns false'. Refute it at one input. -/
def fnSurvivesResilienceWrong : ChangeSpec := { name := "fnSurvivesResilience", fn := fun _ => fun
  | [d1, d2] => { results := [.lit (.bool false)], args := [d1, d2] }
  | _ => none }
def FnSurvivesResilienceWrongFalsely : Prop := fnSurvivesResilienceRow.holds Try.pinned (OpenSpec.ofChange fnSurvivesResilienceWrong)

/-- 'laws.FnWeightsFamily': WHATEVER THE INPUT: true; the input reads as it did. -/
def fnWeightsFamilySpec : ChangeSpec := { name := "fnWeightsFamily", fn := fun _ => fun
  | [d1, d2] => { results := [.lit (.bool true)], args := [d1, d2] }
  | _ => none }
def fnWeightsFamilyRow : OpenClaim := { program := "ytjciinaboooeoaa", sum := "d0e15e31ba807c144e53d7f0d379ddecce0d66761eb663947f81d5829dbac27c", func := "loop.example/flexquorum/laws.FnWeightsFamily", spec := "fnWeightsFamily", unfollowed := true, recurses := true, apart := false }
def FnWeightsFamilySaid : Prop := fnWeightsFamilyRow.holds Try.pinned (OpenSpec.ofChange fnWeightsFamilySpec)

/-- ITS FALSE NEIGHBOUR: 'it returns false'. Refute it at one input. -/
def fnWeightsFamilyWrong : ChangeSpec := { name := "fnWeightsFamily", fn := fun _ => fun
  | [d1, d2] => { results := [.lit (.bool false)], args := [d1, d2] }
  | _ => none }
def FnWeightsFamilyWrongFalsely : Prop := fnWeightsFamilyRow.holds Try.pinned (OpenSpec.ofChange fnWeightsFamilyWrong)

/-- 'laws.FnWeightsScale': WHATEVER THE INPUT: true; the input reads as it did. -/
def fnWeightsScaleSpec : ChangeSpec := { name := "fnWeightsScale", fn := fun _ => fun
  | [d] => { results := [.lit (.bool true)], args := [d] }
  | _ => none }
def fnWeightsScaleRow : OpenClaim := { program := "ytjciinaboooeoaa", sum := "d0e15e31ba807c144e53d7f0d379ddecce0d66761eb663947f81d5829dbac27c", func := "loop.example/flexquorum/laws.FnWeightsScale", spec := "fnWeightsScale", unfollowed := true, recurses := true, apart := false }
def FnWeightsScaleSaid : Prop := fnWeightsScaleRow.holds Try.pinned (OpenSpec.ofChange fnWeightsScaleSpec)

/-- ITS FALSE NEIGHBOUR: 'it returns false'. Refute it at one input. -/
def fnWeightsScaleWrong : ChangeSpec := { name := "fnWeightsScale", fn := fun _ => fun
  | [d] => { results := [.lit (.bool false)], args := [d] }
  | _ => none }
def FnWeightsScaleWrongFalsely : Prop := fnWeightsScaleRow.holds Try.pinned (OpenSpec.ofChange fnWeightsScaleWrong)

/-- 'laws.FnMajorityMeets': WHATEVER THE INPUT: true; the input reads as it did. -/
def fnMajorityMeetsSpec : ChangeSpec := { name := "fnMajorityMeets", fn := fun _ => fun
  | [d] => { results := [.lit (.bool true)], args := [d] }
  | _ => none }
def fnMajorityMeetsRow : OpenClaim := { program := "ytjciinaboooeoaa", sum := "d0e15e31ba807c144e53d7f0d379ddecce0d66761eb663947f81d5829dbac27c", func := "loop.example/flexquorum/laws.FnMajorityMeets", spec := "fnMajorityMeets", unfollowed := true, recurses := true, apart := false }
def FnMajorityMeetsSaid : Prop := fnMajorityMeetsRow.holds Try.pinned (OpenSpec.ofChange fnMajorityMeetsSpec)

/-- ITS FALSE NEIGHBOUR: 'it returns false'. Refute it at one input. -/
def fnMajorityMeetsWrong : ChangeSpec := { name := "fnMajorityMeets", fn := fun _ => fun
  | [d] => { results := [.lit (.bool false)], args := [d] }
  | _ => none }
def FnMajorityMeetsWrongFalsely : Prop := fnMajorityMeetsRow.holds Try.pinned (OpenSpec.ofChange fnMajorityMeetsWrong)

/-- 'laws.FnWeightsTight': WHATEVER THE INPUT: true; the input reads as it did. -/
def fnWeightsTightSpec : ChangeSpec := { name := "fnWeightsTight", fn := fun _ => fun
  | [d] => { results := [.lit (.bool true)], args := [d] }
  | _ => none }
def fnWeightsTightRow : OpenClaim := { program := "ytjciinaboooeoaa", sum := "d0e15e31ba807c144e53d7f0d379ddecce0d66761eb663947f81d5829dbac27c", func := "loop.example/flexquorum/laws.FnWeightsTight", spec := "fnWeightsTight", unfollowed := true, recurses := true, apart := false }
def FnWeightsTightSaid : Prop := fnWeightsTightRow.holds Try.pinned (OpenSpec.ofChange fnWeightsTightSpec)

/-- ITS FALSE NEIGHBOUR: 'it returns false'. Refute it at one input. -/
def fnWeightsTightWrong : ChangeSpec := { name := "fnWeightsTight", fn := fun _ => fun
  | [d] => { results := [.lit (.bool false)], args := [d] }
  | _ => none }
def FnWeightsTightWrongFalsely : Prop := fnWeightsTightRow.holds Try.pinned (OpenSpec.ofChange fnWeightsTightWrong)

/-- 'laws.FnWeightsDual': WHATEVER THE INPUT: true; the input reads as it did. -/
def fnWeightsDualSpec : ChangeSpec := { name := "fnWeightsDual", fn := fun _ => fun
  | [d] => { results := [.lit (.bool true)], args := [d] }
  | _ => none }
def fnWeightsDualRow : OpenClaim := { program := "ytjciinaboooeoaa", sum := "d0e15e31ba807c144e53d7f0d379ddecce0d66761eb663947f81d5829dbac27c", func := "loop.example/flexquorum/laws.FnWeightsDual", spec := "fnWeightsDual", unfollowed := true, recurses := true, apart := false }
def FnWeightsDualSaid : Prop := fnWeightsDualRow.holds Try.pinned (OpenSpec.ofChange fnWeightsDualSpec)

/-- ITS FALSE NEIGHBOUR: 'it returns false'. Refute it at one input. -/
def fnWeightsDualWrong : ChangeSpec := { name := "fnWeightsDual", fn := fun _ => fun
  | [d] => { results := [.lit (.bool false)], args := [d] }
  | _ => none }
def FnWeightsDualWrongFalsely : Prop := fnWeightsDualRow.holds Try.pinned (OpenSpec.ofChange fnWeightsDualWrong)

/-- 'laws.FnWeightsMore': WHATEVER THE INPUT: true; the input reads as it did. -/
def fnWeightsMoreSpec : ChangeSpec := { name := "fnWeightsMore", fn := fun _ => fun
  | [d] => { results := [.lit (.bool true)], args := [d] }
  | _ => none }
def fnWeightsMoreRow : OpenClaim := { program := "ytjciinaboooeoaa", sum := "d0e15e31ba807c144e53d7f0d379ddecce0d66761eb663947f81d5829dbac27c", func := "loop.example/flexquorum/laws.FnWeightsMore", spec := "fnWeightsMore", unfollowed := true, recurses := true, apart := false }
def FnWeightsMoreSaid : Prop := fnWeightsMoreRow.holds Try.pinned (OpenSpec.ofChange fnWeightsMoreSpec)

/-- ITS FALSE NEIGHBOUR: 'it returns false'. Refute it at one input. -/
def fnWeightsMoreWrong : ChangeSpec := { name := "fnWeightsMore", fn := fun _ => fun
  | [d] => { results := [.lit (.bool false)], args := [d] }
  | _ => none }
def FnWeightsMoreWrongFalsely : Prop := fnWeightsMoreRow.holds Try.pinned (OpenSpec.ofChange fnWeightsMoreWrong)

/- THE SECOND FORM. 'bulk': how many values and letters a reading holds, each counted each time it is reached (what is shared counts as often as it is met; a slice's spare places count too). A statement '..UptoSaid' is the law's where the arguments, and the package variables that the reading takes, are together of bulk at most 1048576: NARROWER than '..Said'. Prove '..Said' where nothing that the law and all that it calls make is longer than what came in: it says more and counts as full. Else prove '..UptoSaid'. A law counts once. -/
mutual
def uptoBulk {H : Type} : DataW H → Nat
  | .lit (.string bytes) => bytes.length + 1
  | .lit _ => 1
  | .nil => 1
  | .ptr d => uptoBulk d + 1
  | .slice elems spare => uptoBulkAll elems + uptoBulkAll spare + 1
  | .agg parts => uptoBulkAll parts + 1
  | .iface _ d => uptoBulk d + 1
  | .map entries => uptoBulkEntries entries + 1
  | .held _ => 1
def uptoBulkAll {H : Type} : List (DataW H) → Nat
  | [] => 0
  | d :: r => uptoBulk d + uptoBulkAll r
def uptoBulkEntries {H : Type} : List (Lit × DataW H) → Nat
  | [] => 0
  | x :: r => uptoBulkEntry x + uptoBulkEntries r
def uptoBulkEntry {H : Type} : Lit × DataW H → Nat
  | (.string bytes, d) => bytes.length + uptoBulk d + 1
  | (_, d) => uptoBulk d + 1
 end
def uptoSmall : (H : Type) → List (DataW H) → Bool := fun _ ds => decide (uptoBulkAll ds ≤ 1048576)
def OpenSpec.upto (s : _root_.Go.ChangeSpec) : _root_.Go.OpenSpec := { _root_.Go.OpenSpec.ofChange s with cond := some uptoSmall }

/-- 'laws.FnTransversals', WHERE WHAT IT READS IS OF BULK AT MOST 1048576: true; the input reads as it did. -/
def fnTransversalsUptoRow : OpenClaim := { program := "ytjciinaboooeoaa", sum := "d0e15e31ba807c144e53d7f0d379ddecce0d66761eb663947f81d5829dbac27c", func := "loop.example/flexquorum/laws.FnTransversals", spec := "fnTransversals", unfollowed := true, recurses := true, apart := false, narrowed := true }
def FnTransversalsUptoSaid : Prop := fnTransversalsUptoRow.holds Try.pinned (OpenSpec.upto fnTransversalsSpec)

/-- 'laws.FnTransversalsTwice', WHERE WHAT IT READS IS OF BULK AT MOST 1048576: true; the input reads as it did. -/
def fnTransversalsTwiceUptoRow : OpenClaim := { program := "ytjciinaboooeoaa", sum := "d0e15e31ba807c144e53d7f0d379ddecce0d66761eb663947f81d5829dbac27c", func := "loop.example/flexquorum/laws.FnTransversalsTwice", spec := "fnTransversalsTwice", unfollowed := true, recurses := true, apart := false, narrowed := true }
def FnTransversalsTwiceUptoSaid : Prop := fnTransversalsTwiceUptoRow.holds Try.pinned (OpenSpec.upto fnTransversalsTwiceSpec)

/-- 'laws.FnCriticalTransversal', WHERE WHAT IT READS IS OF BULK AT MOST 1048576: true; the input reads as it did. -/
def fnCriticalTransversalUptoRow : OpenClaim := { program := "ytjciinaboooeoaa", sum := "d0e15e31ba807c144e53d7f0d379ddecce0d66761eb663947f81d5829dbac27c", func := "loop.example/flexquorum/laws.FnCriticalTransversal", spec := "fnCriticalTransversal", unfollowed := true, recurses := true, apart := false, narrowed := true }
def FnCriticalTransversalUptoSaid : Prop := fnCriticalTransversalUptoRow.holds Try.pinned (OpenSpec.upto fnCriticalTransversalSpec)

/-- 'laws.FnDeMorgan', WHERE WHAT IT READS IS OF BULK AT MOST 1048576: true; the input reads as it did. -/
def fnDeMorganUptoRow : OpenClaim := { program := "ytjciinaboooeoaa", sum := "d0e15e31ba807c144e53d7f0d379ddecce0d66761eb663947f81d5829dbac27c", func := "loop.example/flexquorum/laws.FnDeMorgan", spec := "fnDeMorgan", unfollowed := true, recurses := true, apart := false, narrowed := true }
def FnDeMorganUptoSaid : Prop := fnDeMorganUptoRow.holds Try.pinned (OpenSpec.upto fnDeMorganSpec)

/-- 'laws.FnResilienceTransversal', WHERE WHAT IT READS IS OF BULK AT MOST 1048576: true; the input reads as it did. -/
def fnResilienceTransversalUptoRow : OpenClaim := { program := "ytjciinaboooeoaa", sum := "d0e15e31ba807c144e53d7f0d379ddecce0d66761eb663947f81d5829dbac27c", func := "loop.example/flexquorum/laws.FnResilienceTransversal", spec := "fnResilienceTransversal", unfollowed := true, recurses := true, apart := false, narrowed := true }
def FnResilienceTransversalUptoSaid : Prop := fnResilienceTransversalUptoRow.holds Try.pinned (OpenSpec.upto fnResilienceTransversalSpec)

/-- 'laws.FnSurvivesResilience', WHERE WHAT IT READS IS OF BULK AT MOST 1048576: true; the input reads as it did. -/
def fnSurvivesResilienceUptoRow : OpenClaim := { program := "ytjciinaboooeoaa", sum := "d0e15e31ba807c144e53d7f0d379ddecce0d66761eb663947f81d5829dbac27c", func := "loop.example/flexquorum/laws.FnSurvivesResilience", spec := "fnSurvivesResilience", unfollowed := true, recurses := true, apart := false, narrowed := true }
def FnSurvivesResilienceUptoSaid : Prop := fnSurvivesResilienceUptoRow.holds Try.pinned (OpenSpec.upto fnSurvivesResilienceSpec)

/-- 'laws.FnWeightsFamily', WHERE WHAT IT READS IS OF BULK AT MOST 1048576: true; the input reads as it did. -/
def fnWeightsFamilyUptoRow : OpenClaim := { program := "ytjciinaboooeoaa", sum := "d0e15e31ba807c144e53d7f0d379ddecce0d66761eb663947f81d5829dbac27c", func := "loop.example/flexquorum/laws.FnWeightsFamily", spec := "fnWeightsFamily", unfollowed := true, recurses := true, apart := false, narrowed := true }
def FnWeightsFamilyUptoSaid : Prop := fnWeightsFamilyUptoRow.holds Try.pinned (OpenSpec.upto fnWeightsFamilySpec)

/-- 'laws.FnWeightsScale', WHERE WHAT IT READS IS OF BULK AT MOST 1048576: true; the input reads as it did. -/
def fnWeightsScaleUptoRow : OpenClaim := { program := "ytjciinaboooeoaa", sum := "d0e15e31ba807c144e53d7f0d379ddecce0d66761eb663947f81d5829dbac27c", func := "loop.example/flexquorum/laws.FnWeightsScale", spec := "fnWeightsScale", unfollowed := true, recurses := true, apart := false, narrowed := true }
def FnWeightsScaleUptoSaid : Prop := fnWeightsScaleUptoRow.holds Try.pinned (OpenSpec.upto fnWeightsScaleSpec)

/-- 'laws.FnMajorityMeets', WHERE WHAT IT READS IS OF BULK AT MOST 1048576: true; the input reads as it did. -/
def fnMajorityMeetsUptoRow : OpenClaim := { program := "ytjciinaboooeoaa", sum := "d0e15e31ba807c144e53d7f0d379ddecce0d66761eb663947f81d5829dbac27c", func := "loop.example/flexquorum/laws.FnMajorityMeets", spec := "fnMajorityMeets", unfollowed := true, recurses := true, apart := false, narrowed := true }
def FnMajorityMeetsUptoSaid : Prop := fnMajorityMeetsUptoRow.holds Try.pinned (OpenSpec.upto fnMajorityMeetsSpec)

/-- 'laws.FnWeightsTight', WHERE WHAT IT READS IS OF BULK AT MOST 1048576: true; the input reads as it did. -/
def fnWeightsTightUptoRow : OpenClaim := { program := "ytjciinaboooeoaa", sum := "d0e15e31ba807c144e53d7f0d379ddecce0d66761eb663947f81d5829dbac27c", func := "loop.example/flexquorum/laws.FnWeightsTight", spec := "fnWeightsTight", unfollowed := true, recurses := true, apart := false, narrowed := true }
def FnWeightsTightUptoSaid : Prop := fnWeightsTightUptoRow.holds Try.pinned (OpenSpec.upto fnWeightsTightSpec)

/-- 'laws.FnWeightsDual', WHERE WHAT IT READS IS OF BULK AT MOST 1048576: true; the input reads as it did. -/
def fnWeightsDualUptoRow : OpenClaim := { program := "ytjciinaboooeoaa", sum := "d0e15e31ba807c144e53d7f0d379ddecce0d66761eb663947f81d5829dbac27c", func := "loop.example/flexquorum/laws.FnWeightsDual", spec := "fnWeightsDual", unfollowed := true, recurses := true, apart := false, narrowed := true }
def FnWeightsDualUptoSaid : Prop := fnWeightsDualUptoRow.holds Try.pinned (OpenSpec.upto fnWeightsDualSpec)

/-- 'laws.FnWeightsMore', WHERE WHAT IT READS IS OF BULK AT MOST 1048576: true; the input reads as it did. -/
def fnWeightsMoreUptoRow : OpenClaim := { program := "ytjciinaboooeoaa", sum := "d0e15e31ba807c144e53d7f0d379ddecce0d66761eb663947f81d5829dbac27c", func := "loop.example/flexquorum/laws.FnWeightsMore", spec := "fnWeightsMore", unfollowed := true, recurses := true, apart := false, narrowed := true }
def FnWeightsMoreUptoSaid : Prop := fnWeightsMoreUptoRow.holds Try.pinned (OpenSpec.upto fnWeightsMoreSpec)

end Rows
end Go.Proofs.Ytjciinaboooeoaa
