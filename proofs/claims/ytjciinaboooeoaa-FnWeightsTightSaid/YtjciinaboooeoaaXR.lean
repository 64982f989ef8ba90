/- What the exact laws of families need of the functions' results. Conditions: each lemma's own. -/
import Derived.Test.YtjciinaboooeoaaCG
import Derived.Test.YtjciinaboooeoaaX3
namespace Go.Proofs.Ytjciinaboooeoaa
open Go.RowKit
set_option linter.unusedVariables false

/-- a short family of short sets -/
def small (f : List (List Int)) : Prop := f.length ≤ 64 ∧ sumLen f ≤ 384
theorem small_nil : small [] := ⟨by simp, by simp [sumLen]⟩
theorem sumLen_famL (q : List Nat) : sumLen (famL q) ≤ 6 * q.length := by
  induction q with
  | nil => simp [sumLen, famL]
  | cons x r ih =>
    have := mem_len (c := x)
    simp only [famL, sumLen, List.map_cons, List.sum_cons, List.length_cons] at ih ⊢
    omega
theorem small_minOf (U : Nat → Bool) : small (famL (minOf U)) := by
  have h1 := minOf_len U
  have h2 := sumLen_famL (minOf U)
  exact ⟨by rw [famL_len]; exact h1, by omega⟩
theorem small_minimizeL (f : List (List Int)) : small (minimizeL f) := by
  unfold minimizeL; split
  · exact small_minOf _
  · exact small_nil
theorem small_eitherL (f g : List (List Int)) : small (eitherL f g) := by
  unfold eitherL; split
  · exact small_minOf _
  · exact small_nil
theorem small_bothL (f g : List (List Int)) : small (bothL f g) := by
  unfold bothL; split
  · exact small_minOf _
  · exact small_nil
theorem small_whereL (U : Nat → Bool) : small (whereL U) := small_minOf U

theorem FamilyEither_r {a : Option Addr} {n cp : Nat} {f : List (List Int)} {b : Option Addr} {m cq : Nat} {g : List (List Int)} {w : World} {q : Bool} (h : FamV w a n cp f) (h' : FamV w b m cq g) (hq : ok2 f g = q) :
    Calls Try.prog 31 #[.slice a n cp, .slice b m cq] w (RGB w (eitherL f g) q) := by
  rw [← hq]; exact FamilyEither_any h.1 h'.1
theorem FamilyBoth_r {a : Option Addr} {n cp : Nat} {f : List (List Int)} {b : Option Addr} {m cq : Nat} {g : List (List Int)} {w : World} {q : Bool} (h : FamV w a n cp f) (h' : FamV w b m cq g) (hq : ok2 f g = q) :
    Calls Try.prog 32 #[.slice a n cp, .slice b m cq] w (RGB w (bothL f g) q) := by
  rw [← hq]; exact FamilyBoth_any h.1 h'.1
theorem sFamilyEither_r {a : Option Addr} {n cp : Nat} {f : List (List Int)} {b : Option Addr} {m cq : Nat} {g : List (List Int)} {w : World} {q : Bool} (h : FamV w a n cp f) (h' : FamV w b m cq g) (hq : ok2 f g = q) :
    Calls Try.prog 30 #[.slice a n cp, .slice b m cq] w (RFB w (eitherL f g) q) := by
  rw [← hq]; exact sFamilyEither_any h.1 h.2.1 h'.1 h'.2.1
theorem OwnF.famo {w : World} {B R : Nat} {a : Option Addr} {n c : Nat} {f : List (List Int)} (h : OwnF w B R a n c f) : Fam w a n f := h.fam
end Go.Proofs.Ytjciinaboooeoaa
