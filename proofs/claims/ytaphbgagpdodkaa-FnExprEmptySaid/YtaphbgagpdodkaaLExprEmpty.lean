/- The walk of laws.FnExprEmpty: it returns true. Condition: the argument is a slice of bytes. -/
import Derived.Test.YtaphbgagpdodkaaD6
import Derived.Test.YtaphbgagpdodkaaLM2
import Derived.Test.YtaphbgagpdodkaaS7
import Derived.Test.YtaphbgagpdodkaaC8
namespace Go.Proofs.Ytaphbgagpdodkaa
open Go.RowKit
set_option linter.unusedVariables false

set_option maxHeartbeats 2000000 in
theorem FnExprEmpty_walk {a : Option Addr} {n c : Nat} {w : World} (h : Bytes w a n c) :
    Calls Try.prog 8 #[.slice a n c] w fun e w' => e = .returned (.bool true) ∧ Ext none w w' := by
  rcases Nat.lt_or_ge 1048576 n with hl | hl
  · have hlI : (1048576 : Int) < (n : Int) := by omega
    go_enter Try.func8, Try.ntmps8
    go_wp2_with fail
    go_ret
    exact ⟨rfl, Ext.refl _ _⟩
  have hlI : ¬ (1048576 : Int) < (n : Int) := by omega
  go_enter Try.func8, Try.ntmps8
  go_wp2_with fail
  refine (DrawExprMembers_any h).mono ?_; rintro e w_ ⟨s, rfl, hs, he⟩
  clear h
  have hsz : s.size ≤ 9223372036854775807 := by omega
  go_wp2_with fail
  refine (ExprMembers_any hsz).mono ?_; rintro e w_u ⟨a_u, n_u, c_u, rfl, o_u, e_u⟩
  have i_u := o_u.ints
  replace he := he.trans e_u
  clear o_u e_u
  go_wp2_with fail
  refine (sExprMembers_any hsz).mono ?_; rintro e w_v ⟨a_v, n_v, c_v, rfl, o_v, e_v⟩
  have i_v := o_v.ints
  replace i_u := i_u.ext e_v
  replace he := he.trans e_v
  clear o_v e_v
  go_wp2_with fail
  refine (sameInts_any i_u i_v).mono ?_; rintro e w_ ⟨rfl, d_⟩
  replace i_u := i_u.ext d_.ext
  replace he := he.trans d_.ext
  clear d_
  have hsm := same_refl (membersE (byt s))
  cases hok : okE (byt s)
  · skip
    go_wp2_with fail
    refine (sExprValid_any hsz).mono ?_; rintro e w_ ⟨rfl, rfl⟩
    go_wp2_with fail
    refine (sExprMembers_any hsz).mono ?_; rintro e w_v2 ⟨a_v2, n_v2, c_v2, rfl, o_v2, e_v2⟩
    have i_v2 := o_v2.ints
    replace i_u := i_u.ext e_v2
    replace he := he.trans e_v2
    clear o_v2 e_v2
    go_wp2_with fail
    refine (sameInts_any i_u i_v2).mono ?_; rintro e w_ ⟨rfl, d_⟩
    replace he := he.trans d_.ext
    clear d_
    go_wp2_with fail
    go_ret
    exact ⟨rfl, he⟩
  · have hlaw := empty_law hok
    have hv := membersE_valid (byt s)
    have h1 := hlaw.1
    have h2 := hlaw.2.1
    have h3 := hlaw.2.2
    rw [i_u.len] at h3
    have h3I : (0 : Int) < (n_u : Int) := by omega
    have H1 := Lib.hid h1
    have H2 := Lib.hid h2
    clear hlaw h1 h2
    go_wp2_with fail
    refine (sExprValid_any hsz).mono ?_; rintro e w_ ⟨rfl, rfl⟩
    go_wp2_with fail
    refine (ExprSatisfied_any hsz (Ints.nil _ _)).mono ?_; rintro e w_ ⟨rfl, h1⟩
    replace i_u := i_u.ext h1
    replace he := he.trans h1
    clear h1
    rw [H1.out]
    go_wp2_with fail
    refine (ExprSatisfied_any hsz i_u).mono ?_; rintro e w_ ⟨rfl, h1⟩
    replace i_u := i_u.ext h1
    replace he := he.trans h1
    clear h1
    rw [H2.out]
    go_wp2_with fail
    refine (SetValid_any i_u).mono ?_; rintro e w_ ⟨rfl, rfl⟩
    go_wp2_with fail
    go_ret
    exact ⟨rfl, he⟩
end Go.Proofs.Ytaphbgagpdodkaa
