/- XPE: several texts in one. Conditions: each lemma's own. -/
import Derived.Test.YtnifgfnhcjhodaaDoorPF
import Derived.Test.YtnifgfnhcjhodaaDoorPQ
import Derived.Test.YtnifgfnhcjhodaaDoorPA
import Derived.Test.YtnifgfnhcjhodaaDoorS3


namespace Go.Proofs.YtnifgfnhcjhodaaDoor
open Go.RowKit
set_option linter.unusedVariables false

theorem eitherL_no {f g : List (List Int)} (h : ok2 f g = false) : eitherL f g = [] := by unfold eitherL; rw [h]; rfl
theorem bothL_no {f g : List (List Int)} (h : ok2 f g = false) : bothL f g = [] := by unfold bothL; rw [h]; rfl
theorem ok2_no1 {f : List (List Int)} (g : List (List Int)) (h : famB f = false) : ok2 f g = false := by unfold ok2; rw [h]; rfl
theorem ok2_no2 (f : List (List Int)) {g : List (List Int)} (h : famB g = false) : ok2 f g = false := by unfold ok2; rw [h, Bool.and_false]

theorem famL_snoc' (q : List Nat) (c : Nat) : famL (q ++ [c]) = famL q ++ [mem c] := by simp [famL]
theorem l6In_is {n lo hi : Int} {w : World} {q : Bool} (hq : inB n lo hi = q) :
    Calls Tryd.prog 48 #[.int .i64 n, .int .i64 lo, .int .i64 hi] w fun e w' => e = .returned (.bool q) ∧ w = w' := by
  rw [← hq]; exact l6In_any
end Go.Proofs.YtnifgfnhcjhodaaDoor
