/- Families that a test gives: contracts with their answer a literal, for the laws. Conditions: each lemma's own. -/
import Derived.Test.YtnifgfnhcjhodaaRC
import Derived.Test.YtnifgfnhcjhodaaCG
import Derived.Test.YtnifgfnhcjhodaaXR
import Derived.Test.YtnifgfnhcjhodaaX3
namespace Go.Proofs.Ytnifgfnhcjhodaa
open Go.RowKit
set_option linter.unusedVariables false

theorem small_transL (f : List (List Int)) : small (transL f) := by
  unfold transL; split
  · exact small_whereL _
  · exact small_nil
theorem small_wFamL (w : List Int) (need : Int) : small (wFamL w need) := by
  unfold wFamL; split
  · exact small_whereL _
  · exact small_nil
theorem sFamilyTransversals_r {a : Option Addr} {n cp : Nat} {f : List (List Int)} {w : World} {q : Bool} (h : FamV w a n cp f) (hq : okT f = q) :
    Calls Try.prog 49 #[.slice a n cp] w (RFB w (transL f) q) := by
  rw [← hq]; exact sFamilyTransversals_any h.1
theorem sWeightsFamily_r {a : Option Addr} {n cp : Nat} {ws : List Int} {need : Int} {w : World} {q : Bool} (h : Ints w a n ws) (hq : okW ws need = q) :
    Calls Try.prog 62 #[.slice a n cp, .int .i64 need] w (RFB w (wFamL ws need) q) := by
  rw [← hq]; exact sWeightsFamily_any h
theorem sFamilyTransversals_v {a : Option Addr} {n cp : Nat} {f : List (List Int)} {w : World} {q : Bool} (h : FamV w a n cp f) (hq : okT f = q) :
    Calls Try.prog 49 #[.slice a n cp] w (RV w (transL f) q) := (sFamilyTransversals_r h hq).mono fun _ _ => RFB.rv
theorem sWeightsFamily_v {a : Option Addr} {n cp : Nat} {ws : List Int} {need : Int} {w : World} {q : Bool} (h : Ints w a n ws) (hq : okW ws need = q) :
    Calls Try.prog 62 #[.slice a n cp, .int .i64 need] w (RV w (wFamL ws need) q) := (sWeightsFamily_r h hq).mono fun _ _ => RFB.rv
end Go.Proofs.Ytnifgfnhcjhodaa
