/- The weighted votes of package impl. Conditions: each lemma's own. -/
import Derived.Test.YtnifgfnhcjhodaaDoorPB
import Derived.Test.YtnifgfnhcjhodaaDoorPM
namespace Go.Proofs.YtnifgfnhcjhodaaDoor
open Go.RowKit
set_option linter.unusedVariables false


end Go.Proofs.YtnifgfnhcjhodaaDoor
