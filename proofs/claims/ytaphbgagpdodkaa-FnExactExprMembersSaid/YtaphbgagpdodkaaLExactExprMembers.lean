/- The walk of laws.FnExactExprMembers: it returns true. Condition: the argument is a string. -/
import Derived.Test.YtaphbgagpdodkaaX1
import Derived.Test.YtaphbgagpdodkaaS7
import Derived.Test.YtaphbgagpdodkaaC8
namespace Go.Proofs.Ytaphbgagpdodkaa
open Go.RowKit
set_option linter.unusedVariables false

set_option maxHeartbeats 2000000 in
theorem FnExactExprMembers_walk {s : ByteArray} {w : World} (hs : s.size ≤ 9223372036854775807) :
    Calls Try.prog 3 #[.string s] w fun e w' => e = .returned (.bool true) ∧ Ext none w w' := by
  rcases Nat.lt_or_ge 1048576 s.size with hl | hl
  · have hlI : (1048576 : Int) < (s.size : Int) := by omega
    go_enter Try.func3, Try.ntmps3
    go_wp2_with fail
    go_ret
    exact ⟨rfl, Ext.refl _ _⟩
  have hlI : ¬ (1048576 : Int) < (s.size : Int) := by omega
  have hsm := same_refl (membersE (byt s))
  have hlen := Lib.hid (show (membersE (byt s)).length ≤ 6 from by
    unfold membersE; split
    · exact mem_len
    · exact Nat.zero_le _)
  have he := Ext.refl none w
  go_enter Try.func3, Try.ntmps3
  go_wp2_with fail
  refine (sExprMembers_any hs).mono ?_; rintro e w1 ⟨a1, n1, c1, rfl, o1, e1⟩
  have u1 := o1.ints
  replace he := he.trans e1
  go_wp2_with fail
  refine (ExprMembers_any hs).mono ?_; rintro e w2 ⟨a2, n2, c2, rfl, o2, e2⟩
  have u2 := u1.ext e2
  have hn2 : n2 ≤ 6 := by rw [← o2.len]; exact hlen.out
  have HB := Lib.hid o2.block
  have hs1 := Lib.hid he.size
  go_wp2_with fail
  refine (eqIntS_any o2.ints u2).mono ?_; rintro e w3 ⟨rfl, d3⟩
  replace o2 := o2.ext0 d3.ext
  replace u2 := u2.ext d3.ext
  replace he := (he.trans e2).trans d3.ext
  clear o1 e1 e2 d3
  go_wp2_with fail
  refine (markIntS_any o2 (by omega) (by omega) (by omega)).mono ?_; rintro e w4 ⟨rfl, o4, g4⟩
  have u4 := Ints.marked u1 u2 g4 HB.out
  have i4 := o4.ints
  replace he := he.grown g4 (fun g hg => .inl (Nat.le_trans hs1.out (HB.out g hg)))
  clear u1 u2 o2 o4 g4 HB hs1
  go_wp2_with fail
  refine (heldIntS_any i4 (by omega) (by omega) (by omega)).mono ?_; rintro e w_ ⟨rfl, rfl⟩
  go_wp2_with fail
  refine (ExprMembers_any hs).mono ?_; rintro e w_h ⟨a_h, n_h, c_h, rfl, o_h, e_h⟩
  have i_h := o_h.ints
  replace i4 := i4.ext e_h
  replace u4 := u4.ext e_h
  replace he := he.trans e_h
  clear o_h e_h
  go_wp2_with fail
  refine (eqIntS_any i_h u4).mono ?_; rintro e w_ ⟨rfl, d_⟩
  replace i4 := i4.ext d_.ext
  replace he := he.trans d_.ext
  clear d_
  go_wp2_with fail
  refine (heldIntS_any i4 (by omega) (by omega) (by omega)).mono ?_; rintro e w_ ⟨rfl, rfl⟩
  go_wp2_with fail
  go_ret
  exact ⟨rfl, he⟩
end Go.Proofs.Ytaphbgagpdodkaa
