/- What the exact laws of families need of the functions' results. Conditions: each lemma's own. -/
import Derived.Test.YtnifgfnhcjhodaaCG
import Derived.Test.YtnifgfnhcjhodaaX3
namespace Go.Proofs.Ytnifgfnhcjhodaa
open Go.RowKit
set_option linter.unusedVariables false

/-- a short family of short sets -/
def small (f : List (List Int)) : Prop := f.length ≤ 64 ∧ sumLen f ≤ 384
theorem small_nil : small [] := ⟨by simp, by simp [sumLen]⟩
theorem sumLen_famL (q : List Nat) : sumLen (famL q) ≤ 6 * q.length := by
  induction q with
  | nil => simp [sumLen, famL]
  | cons x r ih =>
    have := mem_len (c := x)
    simp only [famL, sumLen, List.map_cons, List.sum_cons, List.length_cons] at ih ⊢
    omega
theorem small_minOf (U : Nat → Bool) : small (famL (minOf U)) := by
  have h1 := minOf_len U
  have h2 := sumLen_famL (minOf U)
  exact ⟨by rw [famL_len]; exact h1, by omega⟩
theorem small_minimizeL (f : List (List Int)) : small (minimizeL f) := by
  unfold minimizeL; split
  · exact small_minOf _
  · exact small_nil
theorem small_eitherL (f g : List (List Int)) : small (eitherL f g) := by
  unfold eitherL; split
  · exact small_minOf _
  · exact small_nil
theorem small_bothL (f g : List (List Int)) : small (bothL f g) := by
  unfold bothL; split
  · exact small_minOf _
  · exact small_nil
theorem small_whereL (U : Nat → Bool) : small (whereL U) := small_minOf U

theorem OwnF.famo {w : World} {B R : Nat} {a : Option Addr} {n c : Nat} {f : List (List Int)} (h : OwnF w B R a n c f) : Fam w a n f := h.fam
end Go.Proofs.Ytnifgfnhcjhodaa
