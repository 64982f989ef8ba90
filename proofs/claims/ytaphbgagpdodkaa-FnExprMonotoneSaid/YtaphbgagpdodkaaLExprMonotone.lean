/- The walk of laws.FnExprMonotone: it returns true. Condition: the arguments are slices of bytes. -/
import Derived.Test.YtaphbgagpdodkaaD6
import Derived.Test.YtaphbgagpdodkaaLM2
import Derived.Test.YtaphbgagpdodkaaS7
import Derived.Test.YtaphbgagpdodkaaC8
namespace Go.Proofs.Ytaphbgagpdodkaa
open Go.RowKit
set_option linter.unusedVariables false

set_option maxHeartbeats 2000000 in
theorem FnExprMonotone_walk {a : Option Addr} {n c : Nat} {a' : Option Addr} {n' c' : Nat} {w : World} (h : Bytes w a n c) (h' : Bytes w a' n' c') :
    Calls Try.prog 10 #[.slice a n c, .slice a' n' c'] w fun e w' => e = .returned (.bool true) ∧ Ext none w w' := by
  clear h'
  rcases Nat.lt_or_ge 1048576 n with hl | hl
  · have hlI : (1048576 : Int) < (n : Int) := by omega
    go_enter Try.func10, Try.ntmps10
    go_wp2_with fail
    go_ret
    exact ⟨rfl, Ext.refl _ _⟩
  have hlI : ¬ (1048576 : Int) < (n : Int) := by omega
  rcases Nat.lt_or_ge 1048576 n' with hl' | hl'
  · have hlI' : (1048576 : Int) < (n' : Int) := by omega
    go_enter Try.func10, Try.ntmps10
    go_wp2_with fail
    go_ret
    exact ⟨rfl, Ext.refl _ _⟩
  have hlI' : ¬ (1048576 : Int) < (n' : Int) := by omega
  go_enter Try.func10, Try.ntmps10
  go_wp2_with fail
  refine (DrawExprSatisfied_any h).mono ?_; rintro e w_ ⟨s, a1, n1, c1, xs, rfl, hs, ia, he⟩
  clear h
  have hsz : s.size ≤ 9223372036854775807 := by omega
  cases hsat : satisfiedE (byt s) xs
  · skip
    go_wp2_with fail
    refine (ExprSatisfied_any hsz ia).mono ?_; rintro e w_ ⟨rfl, h1⟩
    replace ia := ia.ext h1
    replace he := he.trans h1
    clear h1
    rw [hsat]
    go_wp2_with fail
    refine (sExprSatisfied_any hsz ia).mono ?_; rintro e w_ ⟨rfl, h1⟩
    replace ia := ia.ext h1
    replace he := he.trans h1
    clear h1
    rw [hsat]
    go_wp2_with fail
    refine (sExprSatisfied_any hsz ia).mono ?_; rintro e w_ ⟨rfl, h1⟩
    replace ia := ia.ext h1
    replace he := he.trans h1
    clear h1
    rw [hsat]
    go_wp2_with fail
    go_ret
    exact ⟨rfl, he⟩
  · have hlaw := Lib.hid (mono_law hsat (setN (n' : Int)) (setN_lt _))
    go_wp2_with fail
    refine (ExprSatisfied_any hsz ia).mono ?_; rintro e w_ ⟨rfl, h1⟩
    replace ia := ia.ext h1
    replace he := he.trans h1
    clear h1
    rw [hsat]
    go_wp2_with fail
    refine (sExprSatisfied_any hsz ia).mono ?_; rintro e w_ ⟨rfl, h1⟩
    replace ia := ia.ext h1
    replace he := he.trans h1
    clear h1
    rw [hsat]
    go_wp2_with fail
    refine (setOf_any (by omega) (by omega)).mono ?_; rintro e w_z ⟨a_z, n_z, c_z, rfl, o_z, e_z⟩
    have i_z := o_z.ints
    replace ia := ia.ext e_z
    replace he := he.trans e_z
    clear o_z e_z
    go_wp2_with fail
    refine (SetUnion_any ia i_z).mono ?_; rintro e w_u ⟨a_u, n_u, c_u, rfl, o_u, e_u⟩
    have i_u := o_u.ints
    replace he := he.trans e_u
    clear o_u e_u
    go_wp2_with fail
    refine (ExprSatisfied_any hsz i_u).mono ?_; rintro e w_ ⟨rfl, h1⟩
    replace he := he.trans h1
    clear h1
    rw [hlaw.out.1]
    go_wp2_with fail
    refine (allMembers_any).mono ?_; rintro e w_f ⟨a_f, n_f, c_f, rfl, o_f, e_f⟩
    have i_f := o_f.ints
    replace he := he.trans e_f
    clear o_f e_f
    go_wp2_with fail
    refine (ExprSatisfied_any hsz i_f).mono ?_; rintro e w_ ⟨rfl, h1⟩
    replace he := he.trans h1
    clear h1
    rw [hlaw.out.2]
    go_wp2_with fail
    go_ret
    exact ⟨rfl, he⟩
end Go.Proofs.Ytaphbgagpdodkaa
