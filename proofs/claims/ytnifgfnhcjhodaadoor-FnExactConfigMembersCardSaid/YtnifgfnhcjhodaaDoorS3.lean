/- The weighted votes of package spec. Conditions: each lemma's own. -/
import Derived.Test.YtnifgfnhcjhodaaDoorS2
import Derived.Test.YtnifgfnhcjhodaaDoorPM
namespace Go.Proofs.YtnifgfnhcjhodaaDoor
open Go.RowKit
set_option linter.unusedVariables false


end Go.Proofs.YtnifgfnhcjhodaaDoor
