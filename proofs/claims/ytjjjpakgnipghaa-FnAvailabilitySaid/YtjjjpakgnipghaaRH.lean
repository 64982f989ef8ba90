/- The measures: contracts with their answer a literal, for the laws. Conditions: each lemma's own. -/
import Derived.Test.YtjjjpakgnipghaaRG
import Derived.Test.YtjjjpakgnipghaaRD
import Derived.Test.YtjjjpakgnipghaaD9
namespace Go.Proofs.Ytjjjpakgnipghaa
open Go.RowKit
set_option linter.unusedVariables false

theorem availL_bd (f : List (List Int)) (n : Int) : -1 ≤ availL f n ∧ availL f n ≤ 64 := by
  unfold availL; split
  · have := availTo_le (masks f) n.toNat 64; omega
  · omega
theorem resL_bd (f : List (List Int)) (n : Int) : -1 ≤ resL f n ∧ resL f n ≤ 5 := by
  cases h : okR f n
  · rw [resL_no h]; omega
  · have hN := okR_N h
    have := worstTo_le (masks f) n.toNat 64
    rw [resL_yes h]
    unfold worst; omega
theorem Availability_is {a : Option Addr} {n cp : Nat} {f : List (List Int)} {m q : Int} {w : World} (h : Fam w a n f) (hq : availL f m = q) :
    Calls Try.prog 25 #[.slice a n cp, .int .i64 m] w fun e w' => e = .returned (.int .i64 q) ∧ Ext none w w' := by
  rw [← hq]; exact Availability_any h
theorem sAvailability_is {a : Option Addr} {n cp : Nat} {f : List (List Int)} {m q : Int} {w : World} (h : Fam w a n f) (hq : availL f m = q) :
    Calls Try.prog 26 #[.slice a n cp, .int .i64 m] w fun e w' => e = .returned (.int .i64 q) ∧ Ext none w w' := by
  rw [← hq]; exact sAvailability_any h
end Go.Proofs.Ytjjjpakgnipghaa
