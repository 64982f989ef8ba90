/- Drawing expressions, second part: l91Expr. Conditions: each lemma's own. -/
import Derived.Test.YtnifgfnhcjhodaaDoorD4
namespace Go.Proofs.YtnifgfnhcjhodaaDoor
open Go.RowKit
set_option linter.unusedVariables false

theorem take_size (s : ByteArray) (z : Nat) (h : z ≤ s.size) : (s.extract 0 z).size = z := by rw [ByteArray.size_extract]; omega
theorem drop_size (s : ByteArray) (z : Nat) : (s.extract z s.size).size = s.size - z := by rw [ByteArray.size_extract]; omega

theorem OwnS.two (w : World) (p q : ByteArray) : OwnS (w.alloc (.cells #[.string p, .string q] 9)) w.heap.size (some ⟨w.heap.size, 0, none⟩) 2 2 [p, q] := OwnS.lit w [p, q] 2 rfl (by omega)
theorem OwnS.three (w : World) (p q r : ByteArray) : OwnS (w.alloc (.cells #[.string p, .string q, .string r] 9)) w.heap.size (some ⟨w.heap.size, 0, none⟩) 3 3 [p, q, r] := OwnS.lit w [p, q, r] 3 rfl (by omega)

theorem all2 {P : ByteArray → Prop} {p q : ByteArray} (hp : P p) (hq : P q) : ∀ u ∈ [p, q], P u := by
  intro u hu
  rcases List.mem_cons.1 hu with rfl | hu
  · exact hp
  · rcases List.mem_cons.1 hu with rfl | hu
    · exact hq
    · cases hu
theorem all3 {P : ByteArray → Prop} {p q r : ByteArray} (hp : P p) (hq : P q) (hr : P r) : ∀ u ∈ [p, q, r], P u := by
  intro u hu
  rcases List.mem_cons.1 hu with rfl | hu
  · exact hp
  · exact all2 hq hr u hu

end Go.Proofs.YtnifgfnhcjhodaaDoor
