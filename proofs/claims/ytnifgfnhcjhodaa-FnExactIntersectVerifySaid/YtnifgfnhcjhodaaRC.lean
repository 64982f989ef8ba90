/- The quorum systems of package impl: FamilyTransversals, WeightsFamily. Conditions: each lemma's own. -/
import Derived.Test.YtnifgfnhcjhodaaRB
import Derived.Test.YtnifgfnhcjhodaaPI
import Derived.Test.YtnifgfnhcjhodaaC4
import Derived.Test.YtnifgfnhcjhodaaPQ
import Derived.Test.YtnifgfnhcjhodaaSF
namespace Go.Proofs.Ytnifgfnhcjhodaa
open Go.RowKit
set_option linter.unusedVariables false

theorem hitsT_step (q : List Nat) (c k : Nat) (h : k < q.length) : hitsQ (q.take (k + 1)) c = (hitsQ (q.take k) c && decide (q.getD k 0 &&& c ≠ 0)) := by
  rw [snoc_take q 0 k h]; unfold hitsQ; rw [List.all_append]; simp
theorem hitsT_take {q : List Nat} {c k : Nat} (h : hitsQ (q.take k) c = false) : hitsQ q c = false := by
  cases hq : hitsQ q c
  · rfl
  · exfalso
    unfold hitsQ at *
    rw [List.all_eq_true] at hq
    have : (q.take k).all (fun x => decide (x &&& c ≠ 0)) = true := by
      rw [List.all_eq_true]; exact fun x hx => hq x (List.mem_of_mem_take hx)
    rw [this] at h; cases h

end Go.Proofs.Ytnifgfnhcjhodaa
