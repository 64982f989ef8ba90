/- The program's sync.WaitGroup, as the library's walks ask for it; the type of the payload's cells. Conditions: none. -/
import Derived.Test.YtnifgfnhcjhodaaDoorPU
import Derived.Test.YtnifgfnhcjhodaaDoorChecked
set_option linter.unusedVariables false
namespace Go.Proofs
abbrev Tryd.link : Go.Conc.Lib.WgLink := { add := 41, done := 43, wait := 44, relMerge := 51, disable := 52, enable := 53, inBubble := 54, associate := 55, fatal := 56, uOr := 57, uAdd := 58, raceRead := 59, uLoad := 60, uStore := 61, disassociate := 62, semrelease := 63, acquire := 64, isAssociated := 65, uCas := 66, raceWrite := 67, semacquire := 68, orU64 := 71, addU64 := 72, loadU64 := 73, storeU64 := 74, casU64 := 75, tWgP := 92, tUP := 94, tAssoc := 95, tWg := 81, tAU := 78, tU64 := 76, tUint := 47, tU32 := 79, tPU32 := 99, tPAU := 118, tPU64 := 120, tNoCopy := 73, tANoCopy := 74, tAlign64 := 75 }
theorem Tryd.wgLib : Go.Conc.Lib.WgLib Tryd.prog Tryd.link :=
  ⟨Tryd.func41, Tryd.func43, Tryd.func44, Tryd.func51, Tryd.func52, Tryd.func53, Tryd.func54, Tryd.func55, Tryd.func56, Tryd.func57, Tryd.func58, Tryd.func59, Tryd.func60, Tryd.func61, Tryd.func62, Tryd.func63, Tryd.func64, Tryd.func65, Tryd.func66, Tryd.func67, Tryd.func68, Tryd.func71, Tryd.func72, Tryd.func73, Tryd.func74, Tryd.func75, Tryd.underlying92, Tryd.runUnderlying92, Tryd.sizeOf92, Tryd.isAgg92, Tryd.zeroValue92, Tryd.underlying94, Tryd.runUnderlying94, Tryd.sizeOf94, Tryd.isAgg94, Tryd.zeroValue94, Tryd.underlying95, Tryd.runUnderlying95, Tryd.sizeOf95, Tryd.isAgg95, Tryd.zeroValue95, Tryd.underlying81, Tryd.runUnderlying81, Tryd.sizeOf81, Tryd.isAgg81, Tryd.zeroValue81, Tryd.underlying78, Tryd.runUnderlying78, Tryd.sizeOf78, Tryd.isAgg78, Tryd.zeroValue78, Tryd.underlying76, Tryd.runUnderlying76, Tryd.sizeOf76, Tryd.isAgg76, Tryd.zeroValue76, Tryd.underlying47, Tryd.runUnderlying47, Tryd.sizeOf47, Tryd.isAgg47, Tryd.zeroValue47, Tryd.underlying79, Tryd.runUnderlying79, Tryd.sizeOf79, Tryd.isAgg79, Tryd.zeroValue79, Tryd.underlying99, Tryd.runUnderlying99, Tryd.sizeOf99, Tryd.isAgg99, Tryd.zeroValue99, Tryd.underlying118, Tryd.runUnderlying118, Tryd.sizeOf118, Tryd.isAgg118, Tryd.zeroValue118, Tryd.underlying120, Tryd.runUnderlying120, Tryd.sizeOf120, Tryd.isAgg120, Tryd.zeroValue120, Tryd.underlying0, Tryd.runUnderlying0, Tryd.sizeOf0, Tryd.isAgg0, Tryd.zeroValue0, Tryd.underlying3, Tryd.runUnderlying3, Tryd.sizeOf3, Tryd.isAgg3, Tryd.zeroValue3, Tryd.underlying4, Tryd.runUnderlying4, Tryd.sizeOf4, Tryd.isAgg4, Tryd.zeroValue4, Tryd.underlying9, Tryd.runUnderlying9, Tryd.sizeOf9, Tryd.isAgg9, Tryd.zeroValue9, Tryd.underlying20, Tryd.runUnderlying20, Tryd.sizeOf20, Tryd.isAgg20, Tryd.zeroValue20, Tryd.underlying21, Tryd.runUnderlying21, Tryd.sizeOf21, Tryd.isAgg21, Tryd.zeroValue21, (by kernel_rfl), (by kernel_rfl)⟩
end Go.Proofs
namespace Go.Proofs.YtnifgfnhcjhodaaDoor
open Go.Conc Go.ConcR
/-- The payload's cells are slices of crews. -/
instance : Payload := ⟨38⟩
theorem nm52 : (Tryd.f42.name == "runtime.NumGoroutine") = false := by kernel_rfl
theorem mixed : Tryd.prog.follows .mixedOrders = true := by kernel_rfl
theorem loud52 : (Tryd.prog.funcs[42]?).any (·.norace) = false := by kernel_rfl
theorem loud32 : (Tryd.prog.funcs[30]?).any (·.norace) = false := by kernel_rfl
end Go.Proofs.YtnifgfnhcjhodaaDoor
