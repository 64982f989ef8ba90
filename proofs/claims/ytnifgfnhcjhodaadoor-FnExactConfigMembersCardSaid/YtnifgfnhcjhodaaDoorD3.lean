/- Drawing weights. Conditions: each lemma's own. -/
import Derived.Test.YtnifgfnhcjhodaaDoorD2
import Derived.Test.YtnifgfnhcjhodaaDoorPM
namespace Go.Proofs.YtnifgfnhcjhodaaDoor
open Go.RowKit
set_option linter.unusedVariables false


/-- What a function that draws one list leaves. -/
def OneR (w : World) (e : Ending) (w' : World) : Prop := ∃ a n c xs, e = .returned (.slice a n c) ∧ Ints w' a n xs ∧ Ext none w w'


end Go.Proofs.YtnifgfnhcjhodaaDoor
