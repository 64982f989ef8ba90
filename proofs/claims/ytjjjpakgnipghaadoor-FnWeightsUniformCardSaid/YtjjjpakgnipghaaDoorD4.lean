/- Drawing expressions. Conditions: each lemma's own. -/
import Derived.Test.YtjjjpakgnipghaaDoorD2
import Derived.Test.YtjjjpakgnipghaaDoorPA
import Derived.Deep.RegionWith
import Derived.Laws.BytesArg
namespace Go.Proofs.YtjjjpakgnipghaaDoor
open Go.RowKit
set_option linter.unusedVariables false

set_option maxRecDepth 10000 in
set_option maxHeartbeats 400000 in
theorem l6Dec_any {m : Nat} {w : World} (h : m ≤ 9) :
    Calls Tryd.prog 28 #[.int .i64 m] w fun e w' => ∃ s, e = .returned (.string s) ∧ byt s = [Fo.dg m] ∧ Ext none w w' := by
  have h0 : ¬ (m : Int) < 0 := by omega
  have h1 : (m : Int) < 10 := by omega
  have hcv := run_convert_bytes_arg (P := Tryd.prog) (w.alloc (.cells #[.int .u8 (48 + (m : Int))] 5)) 22 5 Tryd.underlying22 Tryd.underlying5 w.heap.size 0 1 1 [48 + (m : Int)] rfl
    (fun i hi => by
      obtain rfl : i = 0 := by omega
      exact (cell_of_row _ w.heap.size 0 _ _ (0, 0) (heap_alloc_new w (.cells #[.int .u8 (48 + (m : Int))] 5))).trans rfl) 9 Tryd.underlying9
  go_enter Tryd.func28, Tryd.ntmps28
  go_wp2_with fail
  go_ret
  refine ⟨_, rfl, ?_, (Ext.refl _ _).alloc _⟩
  show [UInt8.ofNat (48 + (m : Int)).toNat] = [Fo.dg m]
  rw [show (48 + (m : Int)).toNat = 48 + m from by omega]; rfl

def StrR (w : World) (rb k lo hi : Nat) (e : Ending) (w' : World) : Prop :=
  ∃ s : ByteArray, e = .returned (.string s) ∧ lo ≤ s.size ∧ s.size ≤ hi ∧ Rd w' rb k ∧ Ext (some rb) w w'

theorem OwnS.lit (w : World) (ps : List ByteArray) (n : Nat) (hn : ps.length = n) (hn2 : n ≤ 100) : OwnS (w.alloc (.cells (ps.map Value.string).toArray 9)) w.heap.size (some ⟨w.heap.size, 0, none⟩) n n ps := by
  have := World.ownsRow_lit (e := 9) (size := 1) w (ps.map Value.string).toArray n (Nat.le_refl _) (by simp only [maxLen]; omega) (by simp [hn])
  simpa [OwnS, Own] using this
def bs (l : List UInt8) : ByteArray := ⟨l.toArray⟩

theorem cat_size (a b : ByteArray) : (a ++ b).size = a.size + b.size := ByteArray.size_append
end Go.Proofs.YtjjjpakgnipghaaDoor
