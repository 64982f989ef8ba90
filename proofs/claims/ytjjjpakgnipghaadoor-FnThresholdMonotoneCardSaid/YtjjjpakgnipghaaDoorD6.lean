/- Drawing expressions and sets. Conditions: each lemma's own. -/
import Derived.Test.YtjjjpakgnipghaaDoorD5
namespace Go.Proofs.YtjjjpakgnipghaaDoor
open Go.RowKit
set_option linter.unusedVariables false

/-- What a function that draws a text leaves. -/
def TextR (w : World) (e : Ending) (w' : World) : Prop := ∃ s : ByteArray, e = .returned (.string s) ∧ s.size ≤ 100 ∧ Ext none w w'
/-- .. a text and a list. -/
def TextSetR (w : World) (e : Ending) (w' : World) : Prop :=
  ∃ (s : ByteArray) (a : Option Addr) (n c : Nat) (xs : List Int), e = .returned (.tuple #[.string s, .slice a n c]) ∧ s.size ≤ 100 ∧ Ints w' a n xs ∧ Ext none w w'

set_option maxHeartbeats 400000 in
theorem DrawExprThreshold_any {a : Option Addr} {n c : Nat} {w : World} (h : Bytes w a n c) :
    Calls Tryd.prog 6 #[.slice a n c] w fun e w' => ∃ (k : Int) (a : Option Addr) (n c : Nat) (xs : List Int), e = .returned (.tuple #[.int .i64 k, .slice a n c]) ∧ 0 ≤ k ∧ k < 7 ∧ Ints w' a n xs ∧ Ext none w w' := by
  go_enter Tryd.func6, Tryd.ntmps6
  go_wp2_with fail
  refine (l6Open_any h).mono ?_; rintro e w1 ⟨rfl, hr1, he1⟩
  go_wp2_with fail
  refine (pick_any hr1 (by omega) (by omega) (by omega)).mono ?_; rintro e w2 ⟨k, rfl, hk0, hk1, hr2, he2⟩
  go_wp2_with fail
  refine (l91Set_any hr2 (by omega)).mono ?_; rintro e w3 ⟨a3, n3, c3, ys, rfl, ho3, _, hr3, he3⟩
  go_wp2_with fail
  go_ret2
  exact ⟨_, _, _, _, _, rfl, hk0, hk1, ho3.ints, he1.loc (he2.trans he3) (Nat.le_refl _)⟩
theorem byt_cat (a b : ByteArray) : byt (a ++ b) = byt a ++ byt b := by
  unfold byt; rw [ByteArray.data_append, Array.toList_append]
end Go.Proofs.YtjjjpakgnipghaaDoor
