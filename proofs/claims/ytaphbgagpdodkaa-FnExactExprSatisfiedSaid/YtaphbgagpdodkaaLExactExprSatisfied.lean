/- The walk of laws.FnExactExprSatisfied: it returns true. Conditions: the arguments are a string and a slice of int. -/
import Derived.Test.YtaphbgagpdodkaaX1
import Derived.Test.YtaphbgagpdodkaaS7
import Derived.Test.YtaphbgagpdodkaaC8
namespace Go.Proofs.Ytaphbgagpdodkaa
open Go.RowKit
set_option linter.unusedVariables false

set_option maxHeartbeats 2000000 in
theorem FnExactExprSatisfied_walk {s : ByteArray} {a : Option Addr} {n c : Nat} {xs : List Int} {w : World} (hs : s.size ≤ 9223372036854775807) (ia : Ints w a n xs) :
    Calls Try.prog 4 #[.string s, .slice a n c] w fun e w' => e = .returned (.bool true) ∧ Ext none w w' := by
  rcases Nat.lt_or_ge 1048576 s.size with hl | hl
  · have hlI : (1048576 : Int) < (s.size : Int) := by omega
    go_enter Try.func4, Try.ntmps4
    go_wp2_with fail
    go_ret
    exact ⟨rfl, Ext.refl _ _⟩
  have hlI : ¬ (1048576 : Int) < (s.size : Int) := by omega
  rcases Nat.lt_or_ge 1048576 n with hl' | hl'
  · have hlI' : (1048576 : Int) < (n : Int) := by omega
    go_enter Try.func4, Try.ntmps4
    go_wp2_with fail
    go_ret
    exact ⟨rfl, Ext.refl _ _⟩
  have hlI' : ¬ (1048576 : Int) < (n : Int) := by omega
  have hsm := same_refl xs
  have he := Ext.refl none w
  go_enter Try.func4, Try.ntmps4
  go_wp2_with fail
  refine (toIntS_any ia (by omega)).mono ?_; rintro e w_x ⟨a_x, n_x, c_x, rfl, o_x, e_x⟩
  have i_x := o_x.ints
  replace ia := ia.ext e_x
  replace he := he.trans e_x
  clear o_x e_x
  go_wp2_with fail
  refine (sExprSatisfied_any hs i_x).mono ?_; rintro e w_ ⟨rfl, h1⟩
  replace ia := ia.ext h1
  replace he := he.trans h1
  clear h1
  go_wp2_with fail
  refine (toIntS_any ia (by omega)).mono ?_; rintro e w_y ⟨a_y, n_y, c_y, rfl, o_y, e_y⟩
  have i_y := o_y.ints
  replace ia := ia.ext e_y
  replace he := he.trans e_y
  clear o_y e_y
  go_wp2_with fail
  refine (ExprSatisfied_any hs i_y).mono ?_; rintro e w_ ⟨rfl, h1⟩
  replace ia := ia.ext h1
  replace i_y := i_y.ext h1
  replace he := he.trans h1
  clear h1
  go_wp2_with fail
  refine (toIntS_any ia (by omega)).mono ?_; rintro e w_z ⟨a_z, n_z, c_z, rfl, o_z, e_z⟩
  have i_z := o_z.ints
  replace i_y := i_y.ext e_z
  replace he := he.trans e_z
  clear o_z e_z
  go_wp2_with fail
  refine (eqIntS_any i_y i_z).mono ?_; rintro e w_ ⟨rfl, d_⟩
  replace he := he.trans d_.ext
  clear d_
  go_wp2_with fail
  go_ret
  exact ⟨rfl, he⟩
end Go.Proofs.Ytaphbgagpdodkaa
