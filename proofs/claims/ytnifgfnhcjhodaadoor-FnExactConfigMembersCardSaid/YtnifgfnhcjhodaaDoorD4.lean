/- Drawing expressions. Conditions: each lemma's own. -/
import Derived.Test.YtnifgfnhcjhodaaDoorD2
import Derived.Test.YtnifgfnhcjhodaaDoorPA
import Derived.Deep.RegionWith
import Derived.Laws.BytesArg
namespace Go.Proofs.YtnifgfnhcjhodaaDoor
open Go.RowKit
set_option linter.unusedVariables false

def StrR (w : World) (rb k lo hi : Nat) (e : Ending) (w' : World) : Prop :=
  ∃ s : ByteArray, e = .returned (.string s) ∧ lo ≤ s.size ∧ s.size ≤ hi ∧ Rd w' rb k ∧ Ext (some rb) w w'

theorem OwnS.lit (w : World) (ps : List ByteArray) (n : Nat) (hn : ps.length = n) (hn2 : n ≤ 100) : OwnS (w.alloc (.cells (ps.map Value.string).toArray 9)) w.heap.size (some ⟨w.heap.size, 0, none⟩) n n ps := by
  have := World.ownsRow_lit (e := 9) (size := 1) w (ps.map Value.string).toArray n (Nat.le_refl _) (by simp only [maxLen]; omega) (by simp [hn])
  simpa [OwnS, Own] using this
def bs (l : List UInt8) : ByteArray := ⟨l.toArray⟩

theorem cat_size (a b : ByteArray) : (a ++ b).size = a.size + b.size := ByteArray.size_append
end Go.Proofs.YtnifgfnhcjhodaaDoor
