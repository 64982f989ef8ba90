/- The walk of laws.FnExprLocal: it returns true. Condition: the argument is a slice of bytes. -/
import Derived.Test.YtaphbgagpdodkaaD6
import Derived.Test.YtaphbgagpdodkaaLM2
import Derived.Test.YtaphbgagpdodkaaS7
import Derived.Test.YtaphbgagpdodkaaC8
namespace Go.Proofs.Ytaphbgagpdodkaa
open Go.RowKit
set_option linter.unusedVariables false

set_option maxHeartbeats 2000000 in
theorem FnExprLocal_walk {a : Option Addr} {n c : Nat} {w : World} (h : Bytes w a n c) :
    Calls Try.prog 9 #[.slice a n c] w fun e w' => e = .returned (.bool true) ∧ Ext none w w' := by
  rcases Nat.lt_or_ge 1048576 n with hl | hl
  · have hlI : (1048576 : Int) < (n : Int) := by omega
    go_enter Try.func9, Try.ntmps9
    go_wp2_with fail
    go_ret
    exact ⟨rfl, Ext.refl _ _⟩
  have hlI : ¬ (1048576 : Int) < (n : Int) := by omega
  go_enter Try.func9, Try.ntmps9
  go_wp2_with fail
  refine (DrawExprSatisfied_any h).mono ?_; rintro e w_ ⟨s, a1, n1, c1, xs, rfl, hs, ia, he⟩
  clear h
  have hsz : s.size ≤ 9223372036854775807 := by omega
  go_wp2_with fail
  refine (ExprSatisfied_any hsz ia).mono ?_; rintro e w_ ⟨rfl, h1⟩
  replace ia := ia.ext h1
  replace he := he.trans h1
  clear h1
  go_wp2_with fail
  refine (sExprSatisfied_any hsz ia).mono ?_; rintro e w_ ⟨rfl, h1⟩
  replace ia := ia.ext h1
  replace he := he.trans h1
  clear h1
  cases hv : valid xs
  · skip
    go_wp2_with fail
    refine (sSetValid_any ia).mono ?_; rintro e w_ ⟨rfl, d_⟩
    replace ia := ia.ext d_.ext
    replace he := he.trans d_.ext
    clear d_
    go_wp2_with fail
    refine (sExprSatisfied_any hsz ia).mono ?_; rintro e w_ ⟨rfl, h1⟩
    replace he := he.trans h1
    clear h1
    go_wp2_with fail
    go_ret
    exact ⟨rfl, he⟩
  · skip
    go_wp2_with fail
    refine (sSetValid_any ia).mono ?_; rintro e w_ ⟨rfl, d_⟩
    replace ia := ia.ext d_.ext
    replace he := he.trans d_.ext
    clear d_
    have hlaw := Lib.hid (local_law (L := byt s) hv)
    go_wp2_with fail
    refine (ExprMembers_any hsz).mono ?_; rintro e w_m ⟨a_m, n_m, c_m, rfl, o_m, e_m⟩
    have i_m := o_m.ints
    replace ia := ia.ext e_m
    replace he := he.trans e_m
    clear o_m e_m
    go_wp2_with fail
    refine (SetIntersect_any ia i_m).mono ?_; rintro e w_u ⟨a_u, n_u, c_u, rfl, o_u, e_u⟩
    have i_u := o_u.ints
    replace he := he.trans e_u
    clear o_u e_u
    go_wp2_with fail
    refine (ExprSatisfied_any hsz i_u).mono ?_; rintro e w_ ⟨rfl, h1⟩
    replace he := he.trans h1
    clear h1
    rw [hlaw.out]
    go_wp2_with fail
    go_ret
    exact ⟨rfl, he⟩
end Go.Proofs.Ytaphbgagpdodkaa
