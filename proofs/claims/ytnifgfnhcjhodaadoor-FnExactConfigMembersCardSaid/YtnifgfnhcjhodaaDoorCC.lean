/- The quorum systems of package impl: CriticalMembers; contracts with their answer a literal. Conditions: each lemma's own. -/
import Derived.Test.YtnifgfnhcjhodaaDoorPJ
import Derived.Test.YtnifgfnhcjhodaaDoorPF
import Derived.Test.YtnifgfnhcjhodaaDoorPQ
import Derived.Test.YtnifgfnhcjhodaaDoorX1
import Derived.Test.YtnifgfnhcjhodaaDoorPB
import Derived.Test.YtnifgfnhcjhodaaDoorS2
namespace Go.Proofs.YtnifgfnhcjhodaaDoor
open Go.RowKit
set_option linter.unusedVariables false

end Go.Proofs.YtnifgfnhcjhodaaDoor
