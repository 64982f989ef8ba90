/- The program's sync.WaitGroup, as the library's walks ask for it; the type of the payload's cells. Conditions: none. -/
import Derived.Test.YtnifgfnhcjhodaaPU
import Derived.Test.YtnifgfnhcjhodaaChecked
set_option linter.unusedVariables false
namespace Go.Proofs
abbrev Try.link : Go.Conc.Lib.WgLink := { add := 51, done := 53, wait := 54, relMerge := 68, disable := 69, enable := 70, inBubble := 71, associate := 72, fatal := 73, uOr := 74, uAdd := 75, raceRead := 76, uLoad := 77, uStore := 78, disassociate := 79, semrelease := 80, acquire := 81, isAssociated := 82, uCas := 83, raceWrite := 84, semacquire := 85, orU64 := 96, addU64 := 97, loadU64 := 98, storeU64 := 99, casU64 := 100, tWgP := 95, tUP := 97, tAssoc := 99, tWg := 81, tAU := 78, tU64 := 76, tUint := 51, tU32 := 79, tPU32 := 103, tPAU := 118, tPU64 := 120, tNoCopy := 73, tANoCopy := 74, tAlign64 := 75 }
theorem Try.wgLib : Go.Conc.Lib.WgLib Try.prog Try.link :=
  ⟨Try.func51, Try.func53, Try.func54, Try.func68, Try.func69, Try.func70, Try.func71, Try.func72, Try.func73, Try.func74, Try.func75, Try.func76, Try.func77, Try.func78, Try.func79, Try.func80, Try.func81, Try.func82, Try.func83, Try.func84, Try.func85, Try.func96, Try.func97, Try.func98, Try.func99, Try.func100, Try.underlying95, Try.runUnderlying95, Try.sizeOf95, Try.isAgg95, Try.zeroValue95, Try.underlying97, Try.runUnderlying97, Try.sizeOf97, Try.isAgg97, Try.zeroValue97, Try.underlying99, Try.runUnderlying99, Try.sizeOf99, Try.isAgg99, Try.zeroValue99, Try.underlying81, Try.runUnderlying81, Try.sizeOf81, Try.isAgg81, Try.zeroValue81, Try.underlying78, Try.runUnderlying78, Try.sizeOf78, Try.isAgg78, Try.zeroValue78, Try.underlying76, Try.runUnderlying76, Try.sizeOf76, Try.isAgg76, Try.zeroValue76, Try.underlying51, Try.runUnderlying51, Try.sizeOf51, Try.isAgg51, Try.zeroValue51, Try.underlying79, Try.runUnderlying79, Try.sizeOf79, Try.isAgg79, Try.zeroValue79, Try.underlying103, Try.runUnderlying103, Try.sizeOf103, Try.isAgg103, Try.zeroValue103, Try.underlying118, Try.runUnderlying118, Try.sizeOf118, Try.isAgg118, Try.zeroValue118, Try.underlying120, Try.runUnderlying120, Try.sizeOf120, Try.isAgg120, Try.zeroValue120, Try.underlying0, Try.runUnderlying0, Try.sizeOf0, Try.isAgg0, Try.zeroValue0, Try.underlying3, Try.runUnderlying3, Try.sizeOf3, Try.isAgg3, Try.zeroValue3, Try.underlying4, Try.runUnderlying4, Try.sizeOf4, Try.isAgg4, Try.zeroValue4, Try.underlying9, Try.runUnderlying9, Try.sizeOf9, Try.isAgg9, Try.zeroValue9, Try.underlying20, Try.runUnderlying20, Try.sizeOf20, Try.isAgg20, Try.zeroValue20, Try.underlying21, Try.runUnderlying21, Try.sizeOf21, Try.isAgg21, Try.zeroValue21, (by kernel_rfl), (by kernel_rfl)⟩
end Go.Proofs
namespace Go.Proofs.Ytnifgfnhcjhodaa
open Go.Conc Go.ConcR
/-- The payload's cells are slices of crews. -/
instance : Payload := ⟨44⟩
theorem nm52 : (Try.f52.name == "runtime.NumGoroutine") = false := by kernel_rfl
theorem mixed : Try.prog.follows .mixedOrders = true := by kernel_rfl
theorem loud52 : (Try.prog.funcs[52]?).any (·.norace) = false := by kernel_rfl
theorem loud32 : (Try.prog.funcs[32]?).any (·.norace) = false := by kernel_rfl
end Go.Proofs.Ytnifgfnhcjhodaa
