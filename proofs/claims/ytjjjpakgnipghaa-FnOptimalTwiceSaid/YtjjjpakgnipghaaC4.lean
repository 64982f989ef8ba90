/- The weighted votes of package impl. Conditions: each lemma's own. -/
import Derived.Test.YtjjjpakgnipghaaPB
import Derived.Test.YtjjjpakgnipghaaPM
namespace Go.Proofs.Ytjjjpakgnipghaa
open Go.RowKit
set_option linter.unusedVariables false


end Go.Proofs.Ytjjjpakgnipghaa
