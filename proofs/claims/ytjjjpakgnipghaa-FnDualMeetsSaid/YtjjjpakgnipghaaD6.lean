/- Drawing expressions and sets. Conditions: each lemma's own. -/
import Derived.Test.YtjjjpakgnipghaaD5
namespace Go.Proofs.Ytjjjpakgnipghaa
open Go.RowKit
set_option linter.unusedVariables false

/-- What a function that draws a text leaves. -/
def TextR (w : World) (e : Ending) (w' : World) : Prop := ∃ s : ByteArray, e = .returned (.string s) ∧ s.size ≤ 100 ∧ Ext none w w'
/-- .. a text and a list. -/
def TextSetR (w : World) (e : Ending) (w' : World) : Prop :=
  ∃ (s : ByteArray) (a : Option Addr) (n c : Nat) (xs : List Int), e = .returned (.tuple #[.string s, .slice a n c]) ∧ s.size ≤ 100 ∧ Ints w' a n xs ∧ Ext none w w'

set_option maxHeartbeats 400000 in
theorem DrawExprDual_any {a : Option Addr} {n c : Nat} {w : World} (h : Bytes w a n c) :
    Calls Try.prog 39 #[.slice a n c] w (TextR w) := by
  go_enter Try.func39, Try.ntmps39
  go_wp2_with fail
  refine (l6Open_any h).mono ?_; rintro e w1 ⟨rfl, hr1, he1⟩
  go_wp2_with fail
  refine (l91Expr_any hr1 (by omega)).mono ?_; rintro e w2 ⟨s, rfl, _, hs, hr2, he2⟩
  go_wp2_with fail
  go_ret
  exact ⟨_, rfl, hs, he1.loc he2 (Nat.le_refl _)⟩
set_option maxHeartbeats 400000 in
theorem DrawFamilyOfExpr_any {a : Option Addr} {n c : Nat} {w : World} (h : Bytes w a n c) :
    Calls Try.prog 11 #[.slice a n c] w (TextR w) := by
  go_enter Try.func11, Try.ntmps11
  go_wp2_with fail
  refine (l6Open_any h).mono ?_; rintro e w1 ⟨rfl, hr1, he1⟩
  go_wp2_with fail
  refine (l91Expr_any hr1 (by omega)).mono ?_; rintro e w2 ⟨s, rfl, _, hs, hr2, he2⟩
  go_wp2_with fail
  go_ret
  exact ⟨_, rfl, hs, he1.loc he2 (Nat.le_refl _)⟩

set_option maxHeartbeats 400000 in
theorem DrawExprSatisfied_any {a : Option Addr} {n c : Nat} {w : World} (h : Bytes w a n c) :
    Calls Try.prog 45 #[.slice a n c] w (TextSetR w) := by
  go_enter Try.func45, Try.ntmps45
  go_wp2_with fail
  refine (l6Open_any h).mono ?_; rintro e w1 ⟨rfl, hr1, he1⟩
  go_wp2_with fail
  refine (l91Expr_any hr1 (by omega)).mono ?_; rintro e w2 ⟨s, rfl, _, hs, hr2, he2⟩
  go_wp2_with fail
  refine (l91Set_any hr2 (by omega)).mono ?_; rintro e w3 ⟨a3, n3, c3, ys, rfl, ho3, _, hr3, he3⟩
  go_wp2_with fail
  go_ret2
  exact ⟨_, _, _, _, _, rfl, hs, ho3.ints, he1.loc (he2.trans he3) (Nat.le_refl _)⟩

theorem byt_cat (a b : ByteArray) : byt (a ++ b) = byt a ++ byt b := by
  unfold byt; rw [ByteArray.data_append, Array.toList_append]
end Go.Proofs.Ytjjjpakgnipghaa
