/- The weighted votes of package impl. Conditions: each lemma's own. -/
import Derived.Test.YtilbhnjmbdmkcaaPB
import Derived.Test.YtilbhnjmbdmkcaaPM
namespace Go.Proofs.Ytilbhnjmbdmkcaa
open Go.RowKit
set_option linter.unusedVariables false


end Go.Proofs.Ytilbhnjmbdmkcaa
