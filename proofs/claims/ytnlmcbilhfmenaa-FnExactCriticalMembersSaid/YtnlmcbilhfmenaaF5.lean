/- Plain mathematics of quorum systems that are given by votes. No program text. -/
import Derived.Test.YtnlmcbilhfmenaaF4
import Derived.Test.YtnlmcbilhfmenaaM2
namespace Go.Proofs.Ytnlmcbilhfmenaa
def enough (w : List Int) (need : Int) (c : Nat) : Bool := decide (need ≤ sumW w c)
def okW (w : List Int) (need : Int) : Bool := valW w && (decide (1 ≤ need) && decide (need ≤ sumW w 63))
def wFamL (w : List Int) (need : Int) : List (List Int) := if okW w need then whereL (enough w need) else []
theorem wFamL_yes {w : List Int} {need : Int} (h : okW w need = true) : wFamL w need = whereL (enough w need) := by unfold wFamL; rw [h]; rfl
theorem wFamL_no {w : List Int} {need : Int} (h : okW w need = false) : wFamL w need = [] := by unfold wFamL; rw [h]; rfl
end Go.Proofs.Ytnlmcbilhfmenaa
