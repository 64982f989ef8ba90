/- The draws of package spec: quorum systems. Conditions: each lemma's own. -/
import Derived.Test.YtnifgfnhcjhodaaDoorPE
import Derived.Test.YtnifgfnhcjhodaaDoorD5
import Derived.Test.YtnifgfnhcjhodaaDoorD3
import Derived.Deep.CutBlock
namespace Go.Proofs.YtnifgfnhcjhodaaDoor
open Go.RowKit
set_option linter.unusedVariables false

/-- A family in new memory, and the reader moved on. -/
def FamR (w : World) (rb k : Nat) (e : Ending) (w' : World) : Prop :=
  ∃ a n c f, e = .returned (.slice a n c) ∧ OwnF w' w.heap.size w.heap.size a n c f ∧ n ≤ 70 ∧ Rd w' rb k ∧ Ext (some rb) w w'
theorem minOf_len (U : Nat → Bool) : (minOf U).length ≤ 64 := by
  unfold minOf; exact Nat.le_trans (List.length_filter_le _ _) (by simp)
theorem whereL_len (U : Nat → Bool) : (whereL U).length ≤ 64 := by unfold whereL; rw [famL_len]; exact minOf_len U
theorem minL_len (f : List (List Int)) : (minL f).length ≤ 64 := by unfold minL; rw [famL_len]; exact minOf_len _
theorem ofExprL_len (s : List UInt8) : (ofExprL s).length ≤ 64 := by unfold ofExprL; split; exact whereL_len _; exact Nat.zero_le _
theorem wFamL_len (w : List Int) (q : Int) : (wFamL w q).length ≤ 64 := by unfold wFamL; split; exact whereL_len _; exact Nat.zero_le _

end Go.Proofs.YtnifgfnhcjhodaaDoor
