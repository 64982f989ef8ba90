/-
  No cell of these rows narrows 'for every input' (looked for: loops, veiled, ifaces, maps, wideKeys, modest, calm, conditions, laid).
  DERIVED. THE GIVEN ROWS OF THIS SEAT. 12 by the template 'for every input the law returns true; each argument reads behind the call as it read before'; 0 by the template 'total and deterministic' (their statements: YtnlmcbilhfmenaaTotals.lean).
  GIVEN WITH THE SEED: the statements are not yours to turn. If you find one false, say at which input.
  Laid BY PROGRAM, IN A SANDBOX (cutbox-rows.mjs): the forced cells as the released guide's own fill.sh prints them over the translation e933385f1a6ee59d… (all of the seat's roots in one cut). By AI agents, Wed Nov 11 2026. No macro, syntax, notation, axiom, sorry.
-/
import Derived.Test.YtnlmcbilhfmenaaChecked
import GoSem.Claim
import GoSem.ClaimJoined
import GoSem.ClaimMapViews
import Derived.JoinedTies
import Derived.KernelRfl
namespace Go.Proofs.Ytnlmcbilhfmenaa
/- THE CELL 'sum', in the pinned program and in every row, IS THE sha256 OF THE DUMP (.gsa) THAT YtnlmcbilhfmenaaProg.lean LOADS. Nothing in Lean hashes anything: it is a label: what it is worth is what the hold of that sum in a sandbox is worth. -/
noncomputable def Try.pinned : Pinned := { name := "ytnlmcbilhfmenaa", sum := "e933385f1a6ee59df4c8784bfab260c86585da33bab970d8e579691ef5d0a9b0", checked := Try.checked }
namespace Rows
def none {H : Type} : Left H := { results := [], args := [] }

/-- 'laws.FnExactCriticalMembers': WHATEVER THE INPUT: true; the input reads as it did. -/
def fnExactCriticalMembersSpec : ChangeSpec := { name := "fnExactCriticalMembers", fn := fun _ => fun
  | [d] => { results := [.lit (.bool true)], args := [d] }
  | _ => none }
def fnExactCriticalMembersRow : OpenClaim := { program := "ytnlmcbilhfmenaa", sum := "e933385f1a6ee59df4c8784bfab260c86585da33bab970d8e579691ef5d0a9b0", func := "loop.example/flexquorum/laws.FnExactCriticalMembers", spec := "fnExactCriticalMembers", apart := false }
def FnExactCriticalMembersSaid : Prop := fnExactCriticalMembersRow.holds Try.pinned (OpenSpec.ofChange fnExactCriticalMembersSpec)

/-- ITS FALSE NEIGHBOUR: 'it returns false'. Refute it at one input. -/
def fnExactCriticalMembersWrong : ChangeSpec := { name := "fnExactCriticalMembers", fn := fun _ => fun
  | [d] => { results := [.lit (.bool false)], args := [d] }
  | _ => none }
def FnExactCriticalMembersWrongFalsely : Prop := fnExactCriticalMembersRow.holds Try.pinned (OpenSpec.ofChange fnExactCriticalMembersWrong)

/-- 'laws.FnFamilyValid': WHATEVER THE INPUT: true; the input reads as it did. -/
def fnFamilyValidSpec : ChangeSpec := { name := "fnFamilyValid", fn := fun _ => fun
  | [d1, d2] => { results := [.lit (.bool true)], args := [d1, d2] }
  | _ => none }
def fnFamilyValidRow : OpenClaim := { program := "ytnlmcbilhfmenaa", sum := "e933385f1a6ee59df4c8784bfab260c86585da33bab970d8e579691ef5d0a9b0", func := "loop.example/flexquorum/laws.FnFamilyValid", spec := "fnFamilyValid", recurses := true, apart := false }
def FnFamilyValidSaid : Prop := fnFamilyValidRow.holds Try.pinned (OpenSpec.ofChange fnFamilyValidSpec)

/-- ITS FALSE NEIGHBOUR: 'it returns false'. Refute it at one input. -/
def fnFamilyValidWrong : ChangeSpec := { name := "fnFamilyValid", fn := fun _ => fun
  | [d1, d2] => { results := [.lit (.bool false)], args := [d1, d2] }
  | _ => none }
def FnFamilyValidWrongFalsely : Prop := fnFamilyValidRow.holds Try.pinned (OpenSpec.ofChange fnFamilyValidWrong)

/-- 'laws.FnQuorumsMinimal': WHATEVER THE INPUT: true; the input reads as it did. -/
def fnQuorumsMinimalSpec : ChangeSpec := { name := "fnQuorumsMinimal", fn := fun _ => fun
  | [d] => { results := [.lit (.bool true)], args := [d] }
  | _ => none }
def fnQuorumsMinimalRow : OpenClaim := { program := "ytnlmcbilhfmenaa", sum := "e933385f1a6ee59df4c8784bfab260c86585da33bab970d8e579691ef5d0a9b0", func := "loop.example/flexquorum/laws.FnQuorumsMinimal", spec := "fnQuorumsMinimal", unfollowed := true, recurses := true, apart := false }
def FnQuorumsMinimalSaid : Prop := fnQuorumsMinimalRow.holds Try.pinned (OpenSpec.ofChange fnQuorumsMinimalSpec)

/-- ITS FALSE NEIGHBOUR: 'it returns false'. Refute it at one input. -/
def fnQuorumsMinimalWrong : ChangeSpec := { name := "fnQuorumsMinimal", fn := fun _ => fun
  | [d] => { results := [.lit (.bool false)], args := [d] }
  | _ => none }
def FnQuorumsMinimalWrongFalsely : Prop := fnQuorumsMinimalRow.holds Try.pinned (OpenSpec.ofChange fnQuorumsMinimalWrong)

/-- 'laws.FnHasQuorum': WHATEVER THE INPUT: true; the input reads as it did. -/
def fnHasQuorumSpec : ChangeSpec := { name := "fnHasQuorum", fn := fun _ => fun
  | [d1, d2] => { results := [.lit (.bool true)], args := [d1, d2] }
  | _ => none }
def fnHasQuorumRow : OpenClaim := { program := "ytnlmcbilhfmenaa", sum := "e933385f1a6ee59df4c8784bfab260c86585da33bab970d8e579691ef5d0a9b0", func := "loop.example/flexquorum/laws.FnHasQuorum", spec := "fnHasQuorum", unfollowed := true, recurses := true, apart := false }
def FnHasQuorumSaid : Prop := fnHasQuorumRow.holds Try.pinned (OpenSpec.ofChange fnHasQuorumSpec)

/-- ITS FALSE NEIGHBOUR: 'it returns false'. Refute it at one input. -/
def fnHasQuorumWrong : ChangeSpec := { name := "fnHasQuorum", fn := fun _ => fun
  | [d1, d2] => { results := [.lit (.bool false)], args := [d1, d2] }
  | _ => none }
def FnHasQuorumWrongFalsely : Prop := fnHasQuorumRow.holds Try.pinned (OpenSpec.ofChange fnHasQuorumWrong)

/-- 'laws.FnCritical': WHATEVER THE INPUT: true; the input reads as it did. -/
def fnCriticalSpec : ChangeSpec := { name := "fnCritical", fn := fun _ => fun
  | [d] => { results := [.lit (.bool true)], args := [d] }
  | _ => none }
def fnCriticalRow : OpenClaim := { program := "ytnlmcbilhfmenaa", sum := "e933385f1a6ee59df4c8784bfab260c86585da33bab970d8e579691ef5d0a9b0", func := "loop.example/flexquorum/laws.FnCritical", spec := "fnCritical", recurses := true, apart := false }
def FnCriticalSaid : Prop := fnCriticalRow.holds Try.pinned (OpenSpec.ofChange fnCriticalSpec)

/-- ITS FALSE NEIGHBOUR: 'it returns false'. Refute it at one input. -/
def fnCriticalWrong : ChangeSpec := { name := "fnCritical", fn := fun _ => fun
  | [d] => { results := [.lit (.bool false)], args := [d] }
  | _ => none }
def FnCriticalWrongFalsely : Prop := fnCriticalRow.holds Try.pinned (OpenSpec.ofChange fnCriticalWrong)

/-- 'laws.FnSurvives': WHATEVER THE INPUT: true; the input reads as it did. -/
def fnSurvivesSpec : ChangeSpec := { name := "fnSurvives", fn := fun _ => fun
  | [d1, d2] => { results := [.lit (.bool true)], args := [d1, d2] }
  | _ => none }
def fnSurvivesRow : OpenClaim := { program := "ytnlmcbilhfmenaa", sum := "e933385f1a6ee59df4c8784bfab260c86585da33bab970d8e579691ef5d0a9b0", func := "loop.example/flexquorum/laws.FnSurvives", spec := "fnSurvives", unfollowed := true, recurses := true, apart := false }
def FnSurvivesSaid : Prop := fnSurvivesRow.holds Try.pinned (OpenSpec.ofChange fnSurvivesSpec)

/-- ITS FALSE NEIGHBOUR: 'it returns false'. Refute it at one input. -/
def fnSurvivesWrong : ChangeSpec := { name := "fnSurvives", fn := fun _ => fun
  | [d1, d2] => { results := [.lit (.bool false)], args := [d1, d2] }
  | _ => none }
def FnSurvivesWrongFalsely : Prop := fnSurvivesRow.holds Try.pinned (OpenSpec.ofChange fnSurvivesWrong)

/-- 'laws.FnMinimizeIdempotent': WHATEVER THE INPUT: true; the input reads as it did. -/
def fnMinimizeIdempotentSpec : ChangeSpec := { name := "fnMinimizeIdempotent", fn := fun _ => fun
  | [d] => { results := [.lit (.bool true)], args := [d] }
  | _ => none }
def fnMinimizeIdempotentRow : OpenClaim := { program := "ytnlmcbilhfmenaa", sum := "e933385f1a6ee59df4c8784bfab260c86585da33bab970d8e579691ef5d0a9b0", func := "loop.example/flexquorum/laws.FnMinimizeIdempotent", spec := "fnMinimizeIdempotent", unfollowed := true, recurses := true, apart := false }
def FnMinimizeIdempotentSaid : Prop := fnMinimizeIdempotentRow.holds Try.pinned (OpenSpec.ofChange fnMinimizeIdempotentSpec)

/-- ITS FALSE NEIGHBOUR: 'it returns false'. Refute it at one input. -/
def fnMinimizeIdempotentWrong : ChangeSpec := { name := "fnMinimizeIdempotent", fn := fun _ => fun
  | [d] => { results := [.lit (.bool false)], args := [d] }
  | _ => none }
def FnMinimizeIdempotentWrongFalsely : Prop := fnMinimizeIdempotentRow.holds Try.pinned (OpenSpec.ofChange fnMinimizeIdempotentWrong)

/-- 'laws.FnExactFamilyMinimize': WHATEVER THE INPUT: true; the input reads as it did. -/
def fnExactFamilyMinimizeSpec : ChangeSpec := { name := "fnExactFamilyMinimize", fn := fun _ => fun
  | [d] => { results := [.lit (.bool true)], args := [d] }
  | _ => none }
def fnExactFamilyMinimizeRow : OpenClaim := { program := "ytnlmcbilhfmenaa", sum := "e933385f1a6ee59df4c8784bfab260c86585da33bab970d8e579691ef5d0a9b0", func := "loop.example/flexquorum/laws.FnExactFamilyMinimize", spec := "fnExactFamilyMinimize", unfollowed := true, recurses := true, apart := false }
def FnExactFamilyMinimizeSaid : Prop := fnExactFamilyMinimizeRow.holds Try.pinned (OpenSpec.ofChange fnExactFamilyMinimizeSpec)

/-- ITS FALSE NEIGHBOUR: 'it returns false'. Refute it at one input. -/
def fnExactFamilyMinimizeWrong : ChangeSpec := { name := "fnExactFamilyMinimize", fn := fun _ => fun
  | [d] => { results := [.lit (.bool false)], args := [d] }
  | _ => none }
def FnExactFamilyMinimizeWrongFalsely : Prop := fnExactFamilyMinimizeRow.holds Try.pinned (OpenSpec.ofChange fnExactFamilyMinimizeWrong)

/-- 'laws.FnMinimizeUpward': WHATEVER THE INPUT: true; the input reads as it did. -/
def fnMinimizeUpwardSpec : ChangeSpec := { name := "fnMinimizeUpward", fn := fun _ => fun
  | [d1, d2] => { results := [.lit (.bool true)], args := [d1, d2] }
  | _ => none }
def fnMinimizeUpwardRow : OpenClaim := { program := "ytnlmcbilhfmenaa", sum := "e933385f1a6ee59df4c8784bfab260c86585da33bab970d8e579691ef5d0a9b0", func := "loop.example/flexquorum/laws.FnMinimizeUpward", spec := "fnMinimizeUpward", unfollowed := true, recurses := true, apart := false }
def FnMinimizeUpwardSaid : Prop := fnMinimizeUpwardRow.holds Try.pinned (OpenSpec.ofChange fnMinimizeUpwardSpec)

/-- ITS FALSE NEIGHBOUR: 'it returns false'. Refute it at one input. -/
def fnMinimizeUpwardWrong : ChangeSpec := { name := "fnMinimizeUpward", fn := fun _ => fun
  | [d1, d2] => { results := [.lit (.bool false)], args := [d1, d2] }
  | _ => none }
def FnMinimizeUpwardWrongFalsely : Prop := fnMinimizeUpwardRow.holds Try.pinned (OpenSpec.ofChange fnMinimizeUpwardWrong)

/-- 'laws.FnExactFamilyEither': WHATEVER THE INPUT: true; the input reads as it did. -/
def fnExactFamilyEitherSpec : ChangeSpec := { name := "fnExactFamilyEither", fn := fun _ => fun
  | [d1, d2] => { results := [.lit (.bool true)], args := [d1, d2] }
  | _ => none }
def fnExactFamilyEitherRow : OpenClaim := { program := "ytnlmcbilhfmenaa", sum := "e933385f1a6ee59df4c8784bfab260c86585da33bab970d8e579691ef5d0a9b0", func := "loop.example/flexquorum/laws.FnExactFamilyEither", spec := "fnExactFamilyEither", unfollowed := true, recurses := true, apart := false }
def FnExactFamilyEitherSaid : Prop := fnExactFamilyEitherRow.holds Try.pinned (OpenSpec.ofChange fnExactFamilyEitherSpec)

/-- ITS FALSE NEIGHBOUR: 'it returns false'. Refute it at one input. -/
def fnExactFamilyEitherWrong : ChangeSpec := { name := "fnExactFamilyEither", fn := fun _ => fun
  | [d1, d2] => { results := [.lit (.bool false)], args := [d1, d2] }
  | _ => none }
def FnExactFamilyEitherWrongFalsely : Prop := fnExactFamilyEitherRow.holds Try.pinned (OpenSpec.ofChange fnExactFamilyEitherWrong)

/-- 'laws.FnExactFamilyBoth': WHATEVER THE INPUT: true; the input reads as it did. -/
def fnExactFamilyBothSpec : ChangeSpec := { name := "fnExactFamilyBoth", fn := fun _ => fun
  | [d1, d2] => { results := [.lit (.bool true)], args := [d1, d2] }
  | _ => none }
def fnExactFamilyBothRow : OpenClaim := { program := "ytnlmcbilhfmenaa", sum := "e933385f1a6ee59df4c8784bfab260c86585da33bab970d8e579691ef5d0a9b0", func := "loop.example/flexquorum/laws.FnExactFamilyBoth", spec := "fnExactFamilyBoth", unfollowed := true, recurses := true, apart := false }
def FnExactFamilyBothSaid : Prop := fnExactFamilyBothRow.holds Try.pinned (OpenSpec.ofChange fnExactFamilyBothSpec)

/-- ITS FALSE NEIGHBOUR: 'it returns false'. Refute it at one input. -/
def fnExactFamilyBothWrong : ChangeSpec := { name := "fnExactFamilyBoth", fn := fun _ => fun
  | [d1, d2] => { results := [.lit (.bool false)], args := [d1, d2] }
  | _ => none }
def FnExactFamilyBothWrongFalsely : Prop := fnExactFamilyBothRow.holds Try.pinned (OpenSpec.ofChange fnExactFamilyBothWrong)

/-- 'laws.FnEither': WHATEVER THE INPUT: true; the input reads as it did. -/
def fnEitherSpec : ChangeSpec := { name := "fnEither", fn := fun _ => fun
  | [d1, d2] => { results := [.lit (.bool true)], args := [d1, d2] }
  | _ => none }
def fnEitherRow : OpenClaim := { program := "ytnlmcbilhfmenaa", sum := "e933385f1a6ee59df4c8784bfab260c86585da33bab970d8e579691ef5d0a9b0", func := "loop.example/flexquorum/laws.FnEither", spec := "fnEither", unfollowed := true, recurses := true, apart := false }
def FnEitherSaid : Prop := fnEitherRow.holds Try.pinned (OpenSpec.ofChange fnEitherSpec)

/-- ITS FALSE NEIGHBOUR: 'it returns false'. Refute it at one input. -/
def fnEitherWrong : ChangeSpec := { name := "fnEither", fn := fun _ => fun
  | [d1, d2] => { results := [.lit (.bool false)], args := [d1, d2] }
  | _ => none }
def FnEitherWrongFalsely : Prop := fnEitherRow.holds Try.pinned (OpenSpec.ofChange fnEitherWrong)

/- THE SECOND FORM. 'bulk': how many values and letters a reading holds, each counted each time it is reached (what is shared counts as often as it is met; a slice's spare places count too). A statement '..UptoSaid' is the law's where the arguments, and the package variables that the reading takes, are together of bulk at most 1048576: NARROWER than '..Said'. Prove '..Said' where nothing that the law and all that it calls make is longer than what came in: it says more and counts as full. Else prove '..UptoSaid'. A law counts once. -/
mutual
def uptoBulk {H : Type} : DataW H → Nat
  | .lit (.string bytes) => bytes.length + 1
  | .lit _ => 1
  | .nil => 1
  | .ptr d => uptoBulk d + 1
  | .slice elems spare => uptoBulkAll elems + uptoBulkAll spare + 1
  | .agg parts => uptoBulkAll parts + 1
  | .iface _ d => uptoBulk d + 1
  | .map entries => uptoBulkEntries entries + 1
  | .held _ => 1
def uptoBulkAll {H : Type} : List (DataW H) → Nat
  | [] => 0
  | d :: r => uptoBulk d + uptoBulkAll r
def uptoBulkEntries {H : Type} : List (Lit × DataW H) → Nat
  | [] => 0
  | x :: r => uptoBulkEntry x + uptoBulkEntries r
def uptoBulkEntry {H : Type} : Lit × DataW H → Nat
  | (.string bytes, d) => bytes.length + uptoBulk d + 1
  | (_, d) => uptoBulk d + 1
 end
def uptoSmall : (H : Type) → List (DataW H) → Bool := fun _ ds => decide (uptoBulkAll ds ≤ 1048576)
def OpenSpec.upto (s : _root_.Go.ChangeSpec) : _root_.Go.OpenSpec := { _root_.Go.OpenSpec.ofChange s with cond := some uptoSmall }

/-- 'laws.FnExactCriticalMembers', WHERE WHAT IT READS IS OF BULK AT MOST 1048576: true; the input reads as it did. -/
def fnExactCriticalMembersUptoRow : OpenClaim := { program := "ytnlmcbilhfmenaa", sum := "e933385f1a6ee59df4c8784bfab260c86585da33bab970d8e579691ef5d0a9b0", func := "loop.example/flexquorum/laws.FnExactCriticalMembers", spec := "fnExactCriticalMembers", apart := false, narrowed := true }
def FnExactCriticalMembersUptoSaid : Prop := fnExactCriticalMembersUptoRow.holds Try.pinned (OpenSpec.upto fnExactCriticalMembersSpec)

/-- 'laws.FnFamilyValid', WHERE WHAT IT READS IS OF BULK AT MOST 1048576: true; the input reads as it did. -/
def fnFamilyValidUptoRow : OpenClaim := { program := "ytnlmcbilhfmenaa", sum := "e933385f1a6ee59df4c8784bfab260c86585da33bab970d8e579691ef5d0a9b0", func := "loop.example/flexquorum/laws.FnFamilyValid", spec := "fnFamilyValid", recurses := true, apart := false, narrowed := true }
def FnFamilyValidUptoSaid : Prop := fnFamilyValidUptoRow.holds Try.pinned (OpenSpec.upto fnFamilyValidSpec)

/-- 'laws.FnQuorumsMinimal', WHERE WHAT IT READS IS OF BULK AT MOST 1048576: true; the input reads as it did. -/
def fnQuorumsMinimalUptoRow : OpenClaim := { program := "ytnlmcbilhfmenaa", sum := "e933385f1a6ee59df4c8784bfab260c86585da33bab970d8e579691ef5d0a9b0", func := "loop.example/flexquorum/laws.FnQuorumsMinimal", spec := "fnQuorumsMinimal", unfollowed := true, recurses := true, apart := false, narrowed := true }
def FnQuorumsMinimalUptoSaid : Prop := fnQuorumsMinimalUptoRow.holds Try.pinned (OpenSpec.upto fnQuorumsMinimalSpec)

/-- 'laws.FnHasQuorum', WHERE WHAT IT READS IS OF BULK AT MOST 1048576: true; the input reads as it did. -/
def fnHasQuorumUptoRow : OpenClaim := { program := "ytnlmcbilhfmenaa", sum := "e933385f1a6ee59df4c8784bfab260c86585da33bab970d8e579691ef5d0a9b0", func := "loop.example/flexquorum/laws.FnHasQuorum", spec := "fnHasQuorum", unfollowed := true, recurses := true, apart := false, narrowed := true }
def FnHasQuorumUptoSaid : Prop := fnHasQuorumUptoRow.holds Try.pinned (OpenSpec.upto fnHasQuorumSpec)

/-- 'laws.FnCritical', WHERE WHAT IT READS IS OF BULK AT MOST 1048576: true; the input reads as it did. -/
def fnCriticalUptoRow : OpenClaim := { program := "ytnlmcbilhfmenaa", sum := "e933385f1a6ee59df4c8784bfab260c86585da33bab970d8e579691ef5d0a9b0", func := "loop.example/flexquorum/laws.FnCritical", spec := "fnCritical", recurses := true, apart := false, narrowed := true }
def FnCriticalUptoSaid : Prop := fnCriticalUptoRow.holds Try.pinned (OpenSpec.upto fnCriticalSpec)

/-- 'laws.FnSurvives', WHERE WHAT IT READS IS OF BULK AT MOST 1048576: true; the input reads as it did. -/
def fnSurvivesUptoRow : OpenClaim := { program := "ytnlmcbilhfmenaa", sum := "e933385f1a6ee59df4c8784bfab260c86585da33bab970d8e579691ef5d0a9b0", func := "loop.example/flexquorum/laws.FnSurvives", spec := "fnSurvives", unfollowed := true, recurses := true, apart := false, narrowed := true }
def FnSurvivesUptoSaid : Prop := fnSurvivesUptoRow.holds Try.pinned (OpenSpec.upto fnSurvivesSpec)

/-- 'laws.FnMinimizeIdempotent', WHERE WHAT IT READS IS OF BULK AT MOST 1048576: true; the input reads as it did. -/
def fnMinimizeIdempotentUptoRow : OpenClaim := { program := "ytnlmcbilhfmenaa", sum := "e933385f1a6ee59df4c8784bfab260c86585da33bab970d8e579691ef5d0a9b0", func := "loop.example/flexquorum/laws.FnMinimizeIdempotent", spec := "fnMinimizeIdempotent", unfollowed := true, recurses := true, apart := false, narrowed := true }
def FnMinimizeIdempotentUptoSaid : Prop := fnMinimizeIdempotentUptoRow.holds Try.pinned (OpenSpec.upto fnMinimizeIdempotentSpec)

/-- 'laws.FnExactFamilyMinimize', WHERE WHAT IT READS IS OF BULK AT MOST 1048576: true; the input reads as it did. -/
def fnExactFamilyMinimizeUptoRow : OpenClaim := { program := "ytnlmcbilhfmenaa", sum := "e933385f1a6ee59df4c8784bfab260c86585da33bab970d8e579691ef5d0a9b0", func := "loop.example/flexquorum/laws.FnExactFamilyMinimize", spec := "fnExactFamilyMinimize", unfollowed := true, recurses := true, apart := false, narrowed := true }
def FnExactFamilyMinimizeUptoSaid : Prop := fnExactFamilyMinimizeUptoRow.holds Try.pinned (OpenSpec.upto fnExactFamilyMinimizeSpec)

/-- 'laws.FnMinimizeUpward', WHERE WHAT IT READS IS OF BULK AT MOST 1048576: true; the input reads as it did. -/
def fnMinimizeUpwardUptoRow : OpenClaim := { program := "ytnlmcbilhfmenaa", sum := "e933385f1a6ee59df4c8784bfab260c86585da33bab970d8e579691ef5d0a9b0", func := "loop.example/flexquorum/laws.FnMinimizeUpward", spec := "fnMinimizeUpward", unfollowed := true, recurses := true, apart := false, narrowed := true }
def FnMinimizeUpwardUptoSaid : Prop := fnMinimizeUpwardUptoRow.holds Try.pinned (OpenSpec.upto fnMinimizeUpwardSpec)

/-- 'laws.FnExactFamilyEither', WHERE WHAT IT READS IS OF BULK AT MOST 1048576: true; the input reads as it did. -/
def fnExactFamilyEitherUptoRow : OpenClaim := { program := "ytnlmcbilhfmenaa", sum := "e933385f1a6ee59df4c8784bfab260c86585da33bab970d8e579691ef5d0a9b0", func := "loop.example/flexquorum/laws.FnExactFamilyEither", spec := "fnExactFamilyEither", unfollowed := true, recurses := true, apart := false, narrowed := true }
def FnExactFamilyEitherUptoSaid : Prop := fnExactFamilyEitherUptoRow.holds Try.pinned (OpenSpec.upto fnExactFamilyEitherSpec)

/-- 'laws.FnExactFamilyBoth', WHERE WHAT IT READS IS OF BULK AT MOST 1048576: true; the input reads as it did. -/
def fnExactFamilyBothUptoRow : OpenClaim := { program := "ytnlmcbilhfmenaa", sum := "e933385f1a6ee59df4c8784bfab260c86585da33bab970d8e579691ef5d0a9b0", func := "loop.example/flexquorum/laws.FnExactFamilyBoth", spec := "fnExactFamilyBoth", unfollowed := true, recurses := true, apart := false, narrowed := true }
def FnExactFamilyBothUptoSaid : Prop := fnExactFamilyBothUptoRow.holds Try.pinned (OpenSpec.upto fnExactFamilyBothSpec)

/-- 'laws.FnEither', WHERE WHAT IT READS IS OF BULK AT MOST 1048576: true; the input reads as it did. -/
def fnEitherUptoRow : OpenClaim := { program := "ytnlmcbilhfmenaa", sum := "e933385f1a6ee59df4c8784bfab260c86585da33bab970d8e579691ef5d0a9b0", func := "loop.example/flexquorum/laws.FnEither", spec := "fnEither", unfollowed := true, recurses := true, apart := false, narrowed := true }
def FnEitherUptoSaid : Prop := fnEitherUptoRow.holds Try.pinned (OpenSpec.upto fnEitherSpec)

end Rows
end Go.Proofs.Ytnlmcbilhfmenaa
