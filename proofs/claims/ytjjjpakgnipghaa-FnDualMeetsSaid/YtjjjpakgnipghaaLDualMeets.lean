/- The walk of laws.FnDualMeets: it returns true. Condition: the arguments are slices of bytes. -/
import Derived.Test.YtjjjpakgnipghaaJ5
namespace Go.Proofs.Ytjjjpakgnipghaa
open Go.RowKit
set_option linter.unusedVariables false

set_option maxRecDepth 20000 in
set_option maxHeartbeats 2000000 in
theorem FnDualMeets_walk {a : Option Addr} {n c : Nat} {a' : Option Addr} {n' c' : Nat} {w : World} (h : Bytes w a n c) (h' : Bytes w a' n' c') :
    Calls Try.prog 10 #[.slice a n c, .slice a' n' c'] w fun e w' => e = .returned (.bool true) ∧ Ext none w w' := by
  clear h'
  rcases Nat.lt_or_ge 1048576 n with hl | hl
  · have hlI : (1048576 : Int) < (n : Int) := by omega
    go_enter Try.func10, Try.ntmps10
    go_wp2_with fail
    go_ret
    exact ⟨rfl, Ext.refl _ _⟩
  have hlI : ¬ (1048576 : Int) < (n : Int) := by omega
  rcases Nat.lt_or_ge 1048576 n' with hl' | hl'
  · have hlI' : (1048576 : Int) < (n' : Int) := by omega
    go_enter Try.func10, Try.ntmps10
    go_wp2_with fail
    go_ret
    exact ⟨rfl, Ext.refl _ _⟩
  have hlI' : ¬ (1048576 : Int) < (n' : Int) := by omega
  go_enter Try.func10, Try.ntmps10
  go_wp2_with fail
  refine (DrawExprSatisfied_any h).mono ?_; rintro e w_ ⟨s, a1, n1, c1, xs, rfl, hsz, ia, he⟩
  clear h
  have hs9 : s.size ≤ 9223372036854775807 := by omega
  cases hk : satisfiedE (byt s) xs
  · have HK := Lib.hid hk
    clear hk
    go_wp2_with fail
    refine (ExprSatisfied_is hs9 ia HK.out).mono ?_; rintro e w_ ⟨rfl, e1⟩
    replace ia := ia.ext e1
    replace he := he.trans e1
    clear e1
    go_wp2_with fail
    refine (sExprSatisfied_is hs9 ia HK.out).mono ?_; rintro e w_ ⟨rfl, e1⟩
    replace ia := ia.ext e1
    replace he := he.trans e1
    clear e1
    go_wp2_with fail
    refine (sExprSatisfied_is hs9 ia HK.out).mono ?_; rintro e w_ ⟨rfl, e1⟩
    replace he := he.trans e1
    clear e1
    go_wp2_with fail
    go_ret
    exact ⟨rfl, he⟩
  · have HK := Lib.hid hk
    clear hk
    obtain ⟨D, hD⟩ : ∃ D, bs (dualL (byt s)) = D := ⟨_, rfl⟩
    have hb : byt D = dualL (byt s) := by rw [← hD, byt_bs]
    have hD9 : D.size ≤ 9223372036854775807 := by rw [← hD, bs_size]; have := dual_len (L := byt s); omega
    have HB := Lib.hid hb
    have HD := Lib.hid hD
    clear hD hb
    go_wp2_with fail
    refine (ExprSatisfied_is hs9 ia HK.out).mono ?_; rintro e w_ ⟨rfl, e1⟩
    replace ia := ia.ext e1
    replace he := he.trans e1
    clear e1
    go_wp2_with fail
    refine (sExprSatisfied_is hs9 ia HK.out).mono ?_; rintro e w_ ⟨rfl, e1⟩
    replace ia := ia.ext e1
    replace he := he.trans e1
    clear e1
    go_wp2_with fail
    refine (setOf_any (by omega) (by omega)).mono ?_; rintro e w_z ⟨a_z, n_z, c_z, rfl, o_z, e_z⟩
    have i_z := o_z.ints
    replace ia := ia.ext e_z
    replace he := he.trans e_z
    clear o_z e_z
    obtain ⟨t, ht⟩ : ∃ t, t = mem (setN (n' : Int)) := ⟨_, rfl⟩
    rw [← ht] at i_z
    clear ht
    go_wp2_with fail
    refine (ExprDual_is hs9 HD.out).mono ?_; rintro e w_ ⟨rfl, e1⟩
    replace ia := ia.ext e1
    replace i_z := i_z.ext e1
    replace he := he.trans e1
    clear e1
    cases hq : satisfiedE (byt D) t
    · have HQ := Lib.hid hq
      clear hq
      go_wp2_with fail
      refine (ExprSatisfied_is hD9 i_z HQ.out).mono ?_; rintro e w_ ⟨rfl, e1⟩
      replace he := he.trans e1
      clear e1
      go_wp2_with fail
      go_ret
      exact ⟨rfl, he⟩
    · have hpos := dual_meets HK.out (show satisfiedE (dualL (byt s)) t = true from by rw [← HB.out]; exact hq)
      have HQ := Lib.hid hq
      clear hq
      go_wp2_with fail
      refine (ExprSatisfied_is hD9 i_z HQ.out).mono ?_; rintro e w_ ⟨rfl, e1⟩
      replace ia := ia.ext e1
      replace i_z := i_z.ext e1
      replace he := he.trans e1
      clear e1
      go_wp2_with fail
      refine (SetIntersect_any ia i_z).mono ?_; rintro e w9 ⟨a9, n9, c9, rfl, o9, e9⟩
      rw [o9.len] at hpos
      have hposI : (0 : Int) < (n9 : Int) := by omega
      go_wp2_with fail
      go_ret
      exact ⟨rfl, he.trans e9⟩
end Go.Proofs.Ytjjjpakgnipghaa
