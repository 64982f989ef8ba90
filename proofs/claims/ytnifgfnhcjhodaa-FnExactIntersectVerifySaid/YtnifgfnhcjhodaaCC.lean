/- The quorum systems of package impl: CriticalMembers; contracts with their answer a literal. Conditions: each lemma's own. -/
import Derived.Test.YtnifgfnhcjhodaaPJ
import Derived.Test.YtnifgfnhcjhodaaPF
import Derived.Test.YtnifgfnhcjhodaaPQ
import Derived.Test.YtnifgfnhcjhodaaX1
import Derived.Test.YtnifgfnhcjhodaaPB
import Derived.Test.YtnifgfnhcjhodaaS2
namespace Go.Proofs.Ytnifgfnhcjhodaa
open Go.RowKit
set_option linter.unusedVariables false

theorem sameInts_is {a : Option Addr} {n c : Nat} {xs : List Int} {b : Option Addr} {m d : Nat} {ys : List Int} {w : World} {q : Bool} (hx : Ints w a n xs) (hy : Ints w b m ys) (hq : same xs ys = q) :
    Calls Try.prog 11 #[.slice a n c, .slice b m d] w fun e w' => e = .returned (.bool q) ∧ Dr w w' := by
  rw [← hq]; exact sameInts_any hx hy

end Go.Proofs.Ytnifgfnhcjhodaa
