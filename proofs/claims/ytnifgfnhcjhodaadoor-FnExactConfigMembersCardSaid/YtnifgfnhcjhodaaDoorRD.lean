/- Families that a test gives: contracts with their answer a literal, for the laws. Conditions: each lemma's own. -/
import Derived.Test.YtnifgfnhcjhodaaDoorRC
import Derived.Test.YtnifgfnhcjhodaaDoorCG
import Derived.Test.YtnifgfnhcjhodaaDoorXR
import Derived.Test.YtnifgfnhcjhodaaDoorX3
namespace Go.Proofs.YtnifgfnhcjhodaaDoor
open Go.RowKit
set_option linter.unusedVariables false

theorem small_transL (f : List (List Int)) : small (transL f) := by
  unfold transL; split
  · exact small_whereL _
  · exact small_nil
theorem small_wFamL (w : List Int) (need : Int) : small (wFamL w need) := by
  unfold wFamL; split
  · exact small_whereL _
  · exact small_nil
end Go.Proofs.YtnifgfnhcjhodaaDoor
