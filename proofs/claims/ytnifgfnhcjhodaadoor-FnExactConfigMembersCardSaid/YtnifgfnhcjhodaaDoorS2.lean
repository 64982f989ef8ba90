/- The member sets of package spec, second part. Conditions: each lemma's own. -/
import Derived.Test.YtnifgfnhcjhodaaDoorS1
namespace Go.Proofs.YtnifgfnhcjhodaaDoor
open Go.RowKit
set_option linter.unusedVariables false


end Go.Proofs.YtnifgfnhcjhodaaDoor
