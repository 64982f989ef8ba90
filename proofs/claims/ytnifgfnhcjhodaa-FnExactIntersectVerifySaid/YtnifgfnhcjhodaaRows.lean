/-
  No cell of these rows narrows 'for every input' (looked for: loops, veiled, ifaces, maps, wideKeys, modest, calm, conditions, laid).
  DERIVED. THE GIVEN ROWS OF THIS SEAT. 5 by the template 'for every input the law returns true; each argument reads behind the call as it read before'; 0 by the template 'total and deterministic' (their statements: YtnifgfnhcjhodaaTotals.lean).
  GIVEN WITH THE SEED: the statements are not yours to turn. If you find one false, say at which input.
  Laid BY PROGRAM, IN A SANDBOX (cutbox-rows.mjs): the forced cells as the released guide's own fill.sh prints them over the translation 1cc451f71ed38c83… (all of the seat's roots in one cut). By AI agents, Wed Nov 11 2026. No macro, syntax, notation, axiom, sorry.
-/
import Derived.Test.YtnifgfnhcjhodaaChecked
import GoSem.Claim
import GoSem.ClaimJoined
import GoSem.ClaimMapViews
import Derived.JoinedTies
import Derived.KernelRfl
namespace Go.Proofs.Ytnifgfnhcjhodaa
/- THE CELL 'sum', in the pinned program and in every row, IS THE sha256 OF THE DUMP (.gsa) THAT YtnifgfnhcjhodaaProg.lean LOADS. Nothing in Lean hashes anything: it is a label: what it is worth is what the hold of that sum in a sandbox is worth. -/
noncomputable def Try.pinned : Pinned := { name := "ytnifgfnhcjhodaa", sum := "1cc451f71ed38c8345a9d2b9080ff2ccf1a2d2756ab912837908b86d7bebc834", checked := Try.checked }
namespace Rows
def none {H : Type} : Left H := { results := [], args := [] }

/-- 'laws.FnCounterexample': WHATEVER THE INPUT: true; the input reads as it did. -/
def fnCounterexampleSpec : ChangeSpec := { name := "fnCounterexample", fn := fun _ => fun
  | [d] => { results := [.lit (.bool true)], args := [d] }
  | _ => none }
def fnCounterexampleRow : OpenClaim := { program := "ytnifgfnhcjhodaa", sum := "1cc451f71ed38c8345a9d2b9080ff2ccf1a2d2756ab912837908b86d7bebc834", func := "loop.example/flexquorum/laws.FnCounterexample", spec := "fnCounterexample", inPlace := ["(*sync.WaitGroup).Add", "internal/race.ReleaseMerge", "internal/race.Disable", "internal/race.Enable", "internal/synctest.IsInBubble", "internal/synctest.Associate[sync.WaitGroup]", "sync.fatal", "sync/atomic.OrUint64", "sync/atomic.AddUint64", "internal/race.Read", "sync/atomic.LoadUint64", "sync/atomic.StoreUint64", "internal/synctest.Disassociate[sync.WaitGroup]", "sync.runtime_Semrelease", "(*sync.WaitGroup).Done", "(*sync.WaitGroup).Wait", "internal/race.Acquire", "internal/synctest.IsAssociated[sync.WaitGroup]", "sync/atomic.CompareAndSwapUint64", "internal/race.Write", "sync.runtime_SemacquireWaitGroup"], unfollowed := true, recurses := true, leaving := true, apart := false }
def FnCounterexampleSaid : Prop := fnCounterexampleRow.holds Try.pinned (OpenSpec.ofChange fnCounterexampleSpec)

/-- ITS FALSE NEIGHBOUR: 'it returns false'. Refute it at one input. -/
def fnCounterexampleWrong : ChangeSpec := { name := "fnCounterexample", fn := fun _ => fun
  | [d] => { results := [.lit (.bool false)], args := [d] }
  | _ => none }
def FnCounterexampleWrongFalsely : Prop := fnCounterexampleRow.holds Try.pinned (OpenSpec.ofChange fnCounterexampleWrong)

/-- 'laws.FnVerifySound': WHATEVER THE INPUT: true; the input reads as it did. -/
def fnVerifySoundSpec : ChangeSpec := { name := "fnVerifySound", fn := fun _ => fun
  | [d] => { results := [.lit (.bool true)], args := [d] }
  | _ => none }
def fnVerifySoundRow : OpenClaim := { program := "ytnifgfnhcjhodaa", sum := "1cc451f71ed38c8345a9d2b9080ff2ccf1a2d2756ab912837908b86d7bebc834", func := "loop.example/flexquorum/laws.FnVerifySound", spec := "fnVerifySound", inPlace := ["(*sync.WaitGroup).Add", "internal/race.ReleaseMerge", "internal/race.Disable", "internal/race.Enable", "internal/synctest.IsInBubble", "internal/synctest.Associate[sync.WaitGroup]", "sync.fatal", "sync/atomic.OrUint64", "sync/atomic.AddUint64", "internal/race.Read", "sync/atomic.LoadUint64", "sync/atomic.StoreUint64", "internal/synctest.Disassociate[sync.WaitGroup]", "sync.runtime_Semrelease", "(*sync.WaitGroup).Done", "(*sync.WaitGroup).Wait", "internal/race.Acquire", "internal/synctest.IsAssociated[sync.WaitGroup]", "sync/atomic.CompareAndSwapUint64", "internal/race.Write", "sync.runtime_SemacquireWaitGroup"], unfollowed := true, recurses := true, leaving := true, apart := false }
def FnVerifySoundSaid : Prop := fnVerifySoundRow.holds Try.pinned (OpenSpec.ofChange fnVerifySoundSpec)

/-- ITS FALSE NEIGHBOUR: 'it returns false'. Refute it at one input. -/
def fnVerifySoundWrong : ChangeSpec := { name := "fnVerifySound", fn := fun _ => fun
  | [d] => { results := [.lit (.bool false)], args := [d] }
  | _ => none }
def FnVerifySoundWrongFalsely : Prop := fnVerifySoundRow.holds Try.pinned (OpenSpec.ofChange fnVerifySoundWrong)

/-- 'laws.FnExactIntersectVerify': WHATEVER THE INPUT: true; the input reads as it did. -/
def fnExactIntersectVerifySpec : ChangeSpec := { name := "fnExactIntersectVerify", fn := fun _ => fun
  | [d1, d2, d3] => { results := [.lit (.bool true)], args := [d1, d2, d3] }
  | _ => none }
def fnExactIntersectVerifyRow : OpenClaim := { program := "ytnifgfnhcjhodaa", sum := "1cc451f71ed38c8345a9d2b9080ff2ccf1a2d2756ab912837908b86d7bebc834", func := "loop.example/flexquorum/laws.FnExactIntersectVerify", spec := "fnExactIntersectVerify", inPlace := ["(*sync.WaitGroup).Add", "internal/race.ReleaseMerge", "internal/race.Disable", "internal/race.Enable", "internal/synctest.IsInBubble", "internal/synctest.Associate[sync.WaitGroup]", "sync.fatal", "sync/atomic.OrUint64", "sync/atomic.AddUint64", "internal/race.Read", "sync/atomic.LoadUint64", "sync/atomic.StoreUint64", "internal/synctest.Disassociate[sync.WaitGroup]", "sync.runtime_Semrelease", "(*sync.WaitGroup).Done", "(*sync.WaitGroup).Wait", "internal/race.Acquire", "internal/synctest.IsAssociated[sync.WaitGroup]", "sync/atomic.CompareAndSwapUint64", "internal/race.Write", "sync.runtime_SemacquireWaitGroup"], unfollowed := true, recurses := true, leaving := true, apart := false }
def FnExactIntersectVerifySaid : Prop := fnExactIntersectVerifyRow.holds Try.pinned (OpenSpec.ofChange fnExactIntersectVerifySpec)

/-- ITS FALSE NEIGHBOUR: 'it returns false'. Refute it at one input. -/
def fnExactIntersectVerifyWrong : ChangeSpec := { name := "fnExactIntersectVerify", fn := fun _ => fun
  | [d1, d2, d3] => { results := [.lit (.bool false)], args := [d1, d2, d3] }
  | _ => none }
def FnExactIntersectVerifyWrongFalsely : Prop := fnExactIntersectVerifyRow.holds Try.pinned (OpenSpec.ofChange fnExactIntersectVerifyWrong)

/-- 'laws.FnExactIntersectCounterexample': WHATEVER THE INPUT: true; the input reads as it did. -/
def fnExactIntersectCounterexampleSpec : ChangeSpec := { name := "fnExactIntersectCounterexample", fn := fun _ => fun
  | [d1, d2] => { results := [.lit (.bool true)], args := [d1, d2] }
  | _ => none }
def fnExactIntersectCounterexampleRow : OpenClaim := { program := "ytnifgfnhcjhodaa", sum := "1cc451f71ed38c8345a9d2b9080ff2ccf1a2d2756ab912837908b86d7bebc834", func := "loop.example/flexquorum/laws.FnExactIntersectCounterexample", spec := "fnExactIntersectCounterexample", inPlace := ["(*sync.WaitGroup).Add", "internal/race.ReleaseMerge", "internal/race.Disable", "internal/race.Enable", "internal/synctest.IsInBubble", "internal/synctest.Associate[sync.WaitGroup]", "sync.fatal", "sync/atomic.OrUint64", "sync/atomic.AddUint64", "internal/race.Read", "sync/atomic.LoadUint64", "sync/atomic.StoreUint64", "internal/synctest.Disassociate[sync.WaitGroup]", "sync.runtime_Semrelease", "(*sync.WaitGroup).Done", "(*sync.WaitGroup).Wait", "internal/race.Acquire", "internal/synctest.IsAssociated[sync.WaitGroup]", "sync/atomic.CompareAndSwapUint64", "internal/race.Write", "sync.runtime_SemacquireWaitGroup"], unfollowed := true, recurses := true, leaving := true, apart := false }
def FnExactIntersectCounterexampleSaid : Prop := fnExactIntersectCounterexampleRow.holds Try.pinned (OpenSpec.ofChange fnExactIntersectCounterexampleSpec)

/-- ITS FALSE NEIGHBOUR: 'it returns false'. Refute it at one input. -/
def fnExactIntersectCounterexampleWrong : ChangeSpec := { name := "fnExactIntersectCounterexample", fn := fun _ => fun
  | [d1, d2] => { results := [.lit (.bool false)], args := [d1, d2] }
  | _ => none }
def FnExactIntersectCounterexampleWrongFalsely : Prop := fnExactIntersectCounterexampleRow.holds Try.pinned (OpenSpec.ofChange fnExactIntersectCounterexampleWrong)

/-- 'laws.FnIntersects': WHATEVER THE INPUT: true; the input reads as it did. -/
def fnIntersectsSpec : ChangeSpec := { name := "fnIntersects", fn := fun _ => fun
  | [d] => { results := [.lit (.bool true)], args := [d] }
  | _ => none }
def fnIntersectsRow : OpenClaim := { program := "ytnifgfnhcjhodaa", sum := "1cc451f71ed38c8345a9d2b9080ff2ccf1a2d2756ab912837908b86d7bebc834", func := "loop.example/flexquorum/laws.FnIntersects", spec := "fnIntersects", inPlace := ["(*sync.WaitGroup).Add", "internal/race.ReleaseMerge", "internal/race.Disable", "internal/race.Enable", "internal/synctest.IsInBubble", "internal/synctest.Associate[sync.WaitGroup]", "sync.fatal", "sync/atomic.OrUint64", "sync/atomic.AddUint64", "internal/race.Read", "sync/atomic.LoadUint64", "sync/atomic.StoreUint64", "internal/synctest.Disassociate[sync.WaitGroup]", "sync.runtime_Semrelease", "(*sync.WaitGroup).Done", "(*sync.WaitGroup).Wait", "internal/race.Acquire", "internal/synctest.IsAssociated[sync.WaitGroup]", "sync/atomic.CompareAndSwapUint64", "internal/race.Write", "sync.runtime_SemacquireWaitGroup"], unfollowed := true, recurses := true, leaving := true, apart := false }
def FnIntersectsSaid : Prop := fnIntersectsRow.holds Try.pinned (OpenSpec.ofChange fnIntersectsSpec)

/-- ITS FALSE NEIGHBOUR: 'it returns false'. Refute it at one input. -/
def fnIntersectsWrong : ChangeSpec := { name := "fnIntersects", fn := fun _ => fun
  | [d] => { results := [.lit (.bool false)], args := [d] }
  | _ => none }
def FnIntersectsWrongFalsely : Prop := fnIntersectsRow.holds Try.pinned (OpenSpec.ofChange fnIntersectsWrong)

/- THE SECOND FORM. 'bulk': how many values and letters a reading holds, each counted each time it is reached (what is shared counts as often as it is met; a slice's spare places count too). A statement '..UptoSaid' is the law's where the arguments, and the package variables that the reading takes, are together of bulk at most 1048576: NARROWER than '..Said'. Prove '..Said' where nothing that the law and all that it calls make is longer than what came in: it says more and counts as full. Else prove '..UptoSaid'. A law counts once. -/
mutual
def uptoBulk {H : Type} : DataW H → Nat
  | .lit (.string bytes) => bytes.length + 1
  | .lit _ => 1
  | .nil => 1
  | .ptr d => uptoBulk d + 1
  | .slice elems spare => uptoBulkAll elems + uptoBulkAll spare + 1
  | .agg parts => uptoBulkAll parts + 1
  | .iface _ d => uptoBulk d + 1
  | .map entries => uptoBulkEntries entries + 1
  | .held _ => 1
def uptoBulkAll {H : Type} : List (DataW H) → Nat
  | [] => 0
  | d :: r => uptoBulk d + uptoBulkAll r
def uptoBulkEntries {H : Type} : List (Lit × DataW H) → Nat
  | [] => 0
  | x :: r => uptoBulkEntry x + uptoBulkEntries r
def uptoBulkEntry {H : Type} : Lit × DataW H → Nat
  | (.string bytes, d) => bytes.length + uptoBulk d + 1
  | (_, d) => uptoBulk d + 1
 end
def uptoSmall : (H : Type) → List (DataW H) → Bool := fun _ ds => decide (uptoBulkAll ds ≤ 1048576)
def OpenSpec.upto (s : _root_.Go.ChangeSpec) : _root_.Go.OpenSpec := { _root_.Go.OpenSpec.ofChange s with cond := some uptoSmall }

/-- 'laws.FnCounterexample', WHERE WHAT IT READS IS OF BULK AT MOST 1048576: true; the input reads as it did. -/
def fnCounterexampleUptoRow : OpenClaim := { program := "ytnifgfnhcjhodaa", sum := "1cc451f71ed38c8345a9d2b9080ff2ccf1a2d2756ab912837908b86d7bebc834", func := "loop.example/flexquorum/laws.FnCounterexample", spec := "fnCounterexample", inPlace := ["(*sync.WaitGroup).Add", "internal/race.ReleaseMerge", "internal/race.Disable", "internal/race.Enable", "internal/synctest.IsInBubble", "internal/synctest.Associate[sync.WaitGroup]", "sync.fatal", "sync/atomic.OrUint64", "sync/atomic.AddUint64", "internal/race.Read", "sync/atomic.LoadUint64", "sync/atomic.StoreUint64", "internal/synctest.Disassociate[sync.WaitGroup]", "sync.runtime_Semrelease", "(*sync.WaitGroup).Done", "(*sync.WaitGroup).Wait", "internal/race.Acquire", "internal/synctest.IsAssociated[sync.WaitGroup]", "sync/atomic.CompareAndSwapUint64", "internal/race.Write", "sync.runtime_SemacquireWaitGroup"], unfollowed := true, recurses := true, leaving := true, apart := false, narrowed := true }
def FnCounterexampleUptoSaid : Prop := fnCounterexampleUptoRow.holds Try.pinned (OpenSpec.upto fnCounterexampleSpec)

/-- 'laws.FnVerifySound', WHERE WHAT IT READS IS OF BULK AT MOST 1048576: true; the input reads as it did. -/
def fnVerifySoundUptoRow : OpenClaim := { program := "ytnifgfnhcjhodaa", sum := "1cc451f71ed38c8345a9d2b9080ff2ccf1a2d2756ab912837908b86d7bebc834", func := "loop.example/flexquorum/laws.FnVerifySound", spec := "fnVerifySound", inPlace := ["(*sync.WaitGroup).Add", "internal/race.ReleaseMerge", "internal/race.Disable", "internal/race.Enable", "internal/synctest.IsInBubble", "internal/synctest.Associate[sync.WaitGroup]", "sync.fatal", "sync/atomic.OrUint64", "sync/atomic.AddUint64", "internal/race.Read", "sync/atomic.LoadUint64", "sync/atomic.StoreUint64", "internal/synctest.Disassociate[sync.WaitGroup]", "sync.runtime_Semrelease", "(*sync.WaitGroup).Done", "(*sync.WaitGroup).Wait", "internal/race.Acquire", "internal/synctest.IsAssociated[sync.WaitGroup]", "sync/atomic.CompareAndSwapUint64", "internal/race.Write", "sync.runtime_SemacquireWaitGroup"], unfollowed := true, recurses := true, leaving := true, apart := false, narrowed := true }
def FnVerifySoundUptoSaid : Prop := fnVerifySoundUptoRow.holds Try.pinned (OpenSpec.upto fnVerifySoundSpec)

/-- 'laws.FnExactIntersectVerify', WHERE WHAT IT READS IS OF BULK AT MOST 1048576: true; the input reads as it did. -/
def fnExactIntersectVerifyUptoRow : OpenClaim := { program := "ytnifgfnhcjhodaa", sum := "1cc451f71ed38c8345a9d2b9080ff2ccf1a2d2756ab912837908b86d7bebc834", func := "loop.example/flexquorum/laws.FnExactIntersectVerify", spec := "fnExactIntersectVerify", inPlace := ["(*sync.WaitGroup).Add", "internal/race.ReleaseMerge", "internal/race.Disable", "internal/race.Enable", "internal/synctest.IsInBubble", "internal/synctest.Associate[sync.WaitGroup]", "sync.fatal", "sync/atomic.OrUint64", "sync/atomic.AddUint64", "internal/race.Read", "sync/atomic.LoadUint64", "sync/atomic.StoreUint64", "internal/synctest.Disassociate[sync.WaitGroup]", "sync.runtime_Semrelease", "(*sync.WaitGroup).Done", "(*sync.WaitGroup).Wait", "internal/race.Acquire", "internal/synctest.IsAssociated[sync.WaitGroup]", "sync/atomic.CompareAndSwapUint64", "internal/race.Write", "sync.runtime_SemacquireWaitGroup"], unfollowed := true, recurses := true, leaving := true, apart := false, narrowed := true }
def FnExactIntersectVerifyUptoSaid : Prop := fnExactIntersectVerifyUptoRow.holds Try.pinned (OpenSpec.upto fnExactIntersectVerifySpec)

/-- 'laws.FnExactIntersectCounterexample', WHERE WHAT IT READS IS OF BULK AT MOST 1048576: true; the input reads as it did. -/
def fnExactIntersectCounterexampleUptoRow : OpenClaim := { program := "ytnifgfnhcjhodaa", sum := "1cc451f71ed38c8345a9d2b9080ff2ccf1a2d2756ab912837908b86d7bebc834", func := "loop.example/flexquorum/laws.FnExactIntersectCounterexample", spec := "fnExactIntersectCounterexample", inPlace := ["(*sync.WaitGroup).Add", "internal/race.ReleaseMerge", "internal/race.Disable", "internal/race.Enable", "internal/synctest.IsInBubble", "internal/synctest.Associate[sync.WaitGroup]", "sync.fatal", "sync/atomic.OrUint64", "sync/atomic.AddUint64", "internal/race.Read", "sync/atomic.LoadUint64", "sync/atomic.StoreUint64", "internal/synctest.Disassociate[sync.WaitGroup]", "sync.runtime_Semrelease", "(*sync.WaitGroup).Done", "(*sync.WaitGroup).Wait", "internal/race.Acquire", "internal/synctest.IsAssociated[sync.WaitGroup]", "sync/atomic.CompareAndSwapUint64", "internal/race.Write", "sync.runtime_SemacquireWaitGroup"], unfollowed := true, recurses := true, leaving := true, apart := false, narrowed := true }
def FnExactIntersectCounterexampleUptoSaid : Prop := fnExactIntersectCounterexampleUptoRow.holds Try.pinned (OpenSpec.upto fnExactIntersectCounterexampleSpec)

/-- 'laws.FnIntersects', WHERE WHAT IT READS IS OF BULK AT MOST 1048576: true; the input reads as it did. -/
def fnIntersectsUptoRow : OpenClaim := { program := "ytnifgfnhcjhodaa", sum := "1cc451f71ed38c8345a9d2b9080ff2ccf1a2d2756ab912837908b86d7bebc834", func := "loop.example/flexquorum/laws.FnIntersects", spec := "fnIntersects", inPlace := ["(*sync.WaitGroup).Add", "internal/race.ReleaseMerge", "internal/race.Disable", "internal/race.Enable", "internal/synctest.IsInBubble", "internal/synctest.Associate[sync.WaitGroup]", "sync.fatal", "sync/atomic.OrUint64", "sync/atomic.AddUint64", "internal/race.Read", "sync/atomic.LoadUint64", "sync/atomic.StoreUint64", "internal/synctest.Disassociate[sync.WaitGroup]", "sync.runtime_Semrelease", "(*sync.WaitGroup).Done", "(*sync.WaitGroup).Wait", "internal/race.Acquire", "internal/synctest.IsAssociated[sync.WaitGroup]", "sync/atomic.CompareAndSwapUint64", "internal/race.Write", "sync.runtime_SemacquireWaitGroup"], unfollowed := true, recurses := true, leaving := true, apart := false, narrowed := true }
def FnIntersectsUptoSaid : Prop := fnIntersectsUptoRow.holds Try.pinned (OpenSpec.upto fnIntersectsSpec)

end Rows
end Go.Proofs.Ytnifgfnhcjhodaa
