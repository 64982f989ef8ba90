/- Votes: contracts with their answer a literal, for the laws. Conditions: each lemma's own. -/
import Derived.Test.YtjciinaboooeoaaC4
import Derived.Test.YtjciinaboooeoaaF8
import Derived.Test.YtjciinaboooeoaaCG
namespace Go.Proofs.Ytjciinaboooeoaa
open Go.RowKit
set_option linter.unusedVariables false
theorem WeightsSum_is {a : Option Addr} {n cp : Nat} {xs : List Int} {b : Option Addr} {m cq : Nat} {ys : List Int} {w : World} {v : Int} (hx : Ints w a n xs) (hy : Ints w b m ys) (hv : wSumL xs ys = v) :
    Calls Try.prog 44 #[.slice a n cp, .slice b m cq] w fun e w' => e = .returned (.int .i64 v) ∧ Ext none w w' := by
  rw [← hv]; exact WeightsSum_any hx hy
theorem WeightsMajority_is {a : Option Addr} {n cp : Nat} {xs : List Int} {w : World} {v : Int} (hx : Ints w a n xs) (hv : majL xs = v) :
    Calls Try.prog 46 #[.slice a n cp] w fun e w' => e = .returned (.int .i64 v) ∧ Ext none w w' := by
  rw [← hv]; exact WeightsMajority_any hx
end Go.Proofs.Ytjciinaboooeoaa
