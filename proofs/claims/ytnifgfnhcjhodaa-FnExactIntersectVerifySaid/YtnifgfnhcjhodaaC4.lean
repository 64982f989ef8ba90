/- The weighted votes of package impl. Conditions: each lemma's own. -/
import Derived.Test.YtnifgfnhcjhodaaPB
import Derived.Test.YtnifgfnhcjhodaaPM
namespace Go.Proofs.Ytnifgfnhcjhodaa
open Go.RowKit
set_option linter.unusedVariables false


end Go.Proofs.Ytnifgfnhcjhodaa
