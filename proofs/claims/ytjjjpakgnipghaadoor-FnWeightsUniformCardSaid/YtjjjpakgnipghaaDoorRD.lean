/- Families that a test gives: contracts with their answer a literal, for the laws. Conditions: each lemma's own. -/
import Derived.Test.YtjjjpakgnipghaaDoorRC
import Derived.Test.YtjjjpakgnipghaaDoorCG
import Derived.Test.YtjjjpakgnipghaaDoorXR
import Derived.Test.YtjjjpakgnipghaaDoorX3
namespace Go.Proofs.YtjjjpakgnipghaaDoor
open Go.RowKit
set_option linter.unusedVariables false

theorem small_transL (f : List (List Int)) : small (transL f) := by
  unfold transL; split
  · exact small_whereL _
  · exact small_nil
theorem small_wFamL (w : List Int) (need : Int) : small (wFamL w need) := by
  unfold wFamL; split
  · exact small_whereL _
  · exact small_nil
theorem WeightsFamily_r {a : Option Addr} {n cp : Nat} {ws : List Int} {need : Int} {w : World} {q : Bool} (h : Ints w a n ws) (hq : okW ws need = q) :
    Calls Tryd.prog 18 #[.slice a n cp, .int .i64 need] w (RGB w (wFamL ws need) q) := by
  rw [← hq]; exact WeightsFamily_any h
theorem sWeightsFamily_r {a : Option Addr} {n cp : Nat} {ws : List Int} {need : Int} {w : World} {q : Bool} (h : Ints w a n ws) (hq : okW ws need = q) :
    Calls Tryd.prog 17 #[.slice a n cp, .int .i64 need] w (RFB w (wFamL ws need) q) := by
  rw [← hq]; exact sWeightsFamily_any h
theorem WeightsFamily_v {a : Option Addr} {n cp : Nat} {ws : List Int} {need : Int} {w : World} {q : Bool} (h : Ints w a n ws) (hq : okW ws need = q) :
    Calls Tryd.prog 18 #[.slice a n cp, .int .i64 need] w (RV w (wFamL ws need) q) := (WeightsFamily_r h hq).mono fun _ _ => RGB.rv
theorem sWeightsFamily_v {a : Option Addr} {n cp : Nat} {ws : List Int} {need : Int} {w : World} {q : Bool} (h : Ints w a n ws) (hq : okW ws need = q) :
    Calls Tryd.prog 17 #[.slice a n cp, .int .i64 need] w (RV w (wFamL ws need) q) := (sWeightsFamily_r h hq).mono fun _ _ => RFB.rv
end Go.Proofs.YtjjjpakgnipghaaDoor
