/- The walk of laws.FnDualInvolution: it returns true. Condition: the argument is a slice of bytes. -/
import Derived.Test.YtjjjpakgnipghaaJ5
namespace Go.Proofs.Ytjjjpakgnipghaa
open Go.RowKit
set_option linter.unusedVariables false

set_option maxRecDepth 20000 in
set_option maxHeartbeats 2000000 in
theorem FnDualInvolution_walk {a : Option Addr} {n c : Nat} {w : World} (h : Bytes w a n c) :
    Calls Try.prog 8 #[.slice a n c] w fun e w' => e = .returned (.bool true) ∧ Ext none w w' := by
  rcases Nat.lt_or_ge 1048576 n with hl | hl
  · have hlI : (1048576 : Int) < (n : Int) := by omega
    go_enter Try.func8, Try.ntmps8
    go_wp2_with fail
    go_ret
    exact ⟨rfl, Ext.refl _ _⟩
  have hlI : ¬ (1048576 : Int) < (n : Int) := by omega
  go_enter Try.func8, Try.ntmps8
  go_wp2_with fail
  refine (DrawExprDual_any h).mono ?_; rintro e w_ ⟨s, rfl, hsz, he⟩
  clear h
  have hs9 : s.size ≤ 9223372036854775807 := by omega
  cases hk : okE (byt s)
  · have hD := Lib.hid (show bs (dualL (byt s)) = { data := #[] } from by rw [(dual_no hk).1]; rfl)
    clear hk
    go_wp2_with fail
    refine (ExprDual_is hs9 hD.out).mono ?_; rintro e w_ ⟨rfl, e1⟩
    replace he := he.trans e1
    clear e1
    go_wp2_with fail
    refine (sExprDual_is hs9 hD.out).mono ?_; rintro e w_ ⟨rfl, e1⟩
    replace he := he.trans e1
    clear e1
    go_wp2_with fail
    refine (sExprDual_is hs9 hD.out).mono ?_; rintro e w_ ⟨rfl, e1⟩
    replace he := he.trans e1
    clear e1
    go_wp2_with fail
    go_ret
    exact ⟨rfl, he⟩
  · obtain ⟨D, hD⟩ : ∃ D, bs (dualL (byt s)) = D := ⟨_, rfl⟩
    obtain ⟨d1, d2, d3, d4, d5, d6⟩ := dual_ok hk
    have hb : byt D = dualL (byt s) := by rw [← hD, byt_bs]
    have hz : D.size = s.size := by rw [← hD, bs_size, d6, byt_len]
    have hne : D.toList.isEmpty = false := by
      rw [empty_iff hb]
      cases h0 : dualL (byt s) with
      | nil => exact absurd h0 d2
      | cons _ _ => rfl
    have HD := Lib.hid hD
    have HD2 := Lib.hid (show bs (dualL (byt D)) = s from by rw [hb, d3, bs_byt])
    have HM := Lib.hid (show membersE (byt D) = membersE (byt s) from by rw [hb, d4])
    obtain ⟨p, hp⟩ : ∃ p, depL (byt s) = p := ⟨_, rfl⟩
    have HP := Lib.hid hp
    have HP2 := Lib.hid (show depL (byt D) = p from by rw [hb, d5, hp])
    have hD9 : D.size ≤ 9223372036854775807 := by omega
    have hzI : (D.size : Int) = (s.size : Int) := by rw [hz]
    clear hD d1 d2 d3 d4 d5 d6 hb hp hk hz
    go_wp2_with fail
    refine (ExprDual_is hs9 HD.out).mono ?_; rintro e w_ ⟨rfl, e1⟩
    replace he := he.trans e1
    clear e1
    go_wp2_with fail
    refine (sExprDual_is hs9 HD.out).mono ?_; rintro e w_ ⟨rfl, e1⟩
    replace he := he.trans e1
    clear e1
    go_wp2_with fail
    refine (ExprDual_is hD9 HD2.out).mono ?_; rintro e w_ ⟨rfl, e1⟩
    replace he := he.trans e1
    clear e1
    go_wp2_with fail
    refine (ExprMembers_any hD9).mono ?_; rintro e w_u ⟨a_u, n_u, c_u, rfl, o_u, e_u⟩
    have i_u := o_u.ints
    replace he := he.trans e_u
    clear o_u e_u
    rw [HM.out] at i_u
    go_wp2_with fail
    refine (ExprMembers_any hs9).mono ?_; rintro e w_v ⟨a_v, n_v, c_v, rfl, o_v, e_v⟩
    have i_v := o_v.ints
    replace i_u := i_u.ext e_v
    replace he := he.trans e_v
    clear o_v e_v
    go_wp2_with fail
    refine (sameInts_lit i_u i_v (same_refl _)).mono ?_; rintro e w_ ⟨rfl, d_⟩
    replace he := he.trans d_.ext
    clear d_
    go_wp2_with fail
    refine (ExprDepth_is hD9 HP2.out).mono ?_; rintro e w_ ⟨rfl, e1⟩
    replace he := he.trans e1
    clear e1
    go_wp2_with fail
    refine (ExprDepth_is hs9 HP.out).mono ?_; rintro e w_ ⟨rfl, e1⟩
    replace he := he.trans e1
    clear e1
    go_wp2_with fail
    go_ret
    exact ⟨rfl, he⟩
end Go.Proofs.Ytjjjpakgnipghaa
