/- The quorum systems of package spec: FamilyTransversals. Conditions: each lemma's own. -/
import Derived.Test.YtnifgfnhcjhodaaDoorPE
import Derived.Test.YtnifgfnhcjhodaaDoorPQ
namespace Go.Proofs.YtnifgfnhcjhodaaDoor
open Go.RowKit
set_option linter.unusedVariables false

theorem hits_step (f : List (List Int)) (c k : Nat) (h : k < f.length) : hitsQ (masks (f.take (k + 1))) c = (hitsQ (masks (f.take k)) c && decide (mask (f.getD k []) &&& c ≠ 0)) := by
  rw [masks_step f k h]; unfold hitsQ; rw [List.all_append]; simp
theorem hits_take {f : List (List Int)} {c k : Nat} (h : hitsQ (masks (f.take k)) c = false) : hitsQ (masks f) c = false := by
  cases hq : hitsQ (masks f) c
  · rfl
  · exfalso
    unfold hitsQ masks at *
    rw [List.all_eq_true] at hq
    have : ((f.take k).map mask).all (fun x => decide (x &&& c ≠ 0)) = true := by
      rw [List.all_eq_true]
      intro x hx
      obtain ⟨s, hs, rfl⟩ := List.mem_map.1 hx
      exact hq _ (List.mem_map_of_mem (List.mem_of_mem_take hs))
    rw [this] at h; cases h

end Go.Proofs.YtnifgfnhcjhodaaDoor
