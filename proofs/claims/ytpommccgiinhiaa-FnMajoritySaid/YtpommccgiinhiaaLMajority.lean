/- The walk of laws.FnMajority: it returns true. Condition: the argument is a slice of bytes. -/
import Derived.Test.YtpommccgiinhiaaD3
import Derived.Test.YtpommccgiinhiaaS3
import Derived.Test.YtpommccgiinhiaaC4
namespace Go.Proofs.Ytpommccgiinhiaa
open Go.RowKit
set_option linter.unusedVariables false

set_option maxHeartbeats 1000000 in
theorem FnMajority_walk {a : Option Addr} {n c : Nat} {w : World} (h : Bytes w a n c) :
    Calls Try.prog 4 #[.slice a n c] w fun e w' => e = .returned (.bool true) ∧ Ext none w w' := by
  by_cases hl : 1048576 < n
  · have hlI : (1048576 : Int) < (n : Int) := by omega
    go_enter Try.func4, Try.ntmps4
    go_wp2_with fail
    go_ret
    exact ⟨rfl, Ext.refl _ _⟩
  · have hlI : ¬ (1048576 : Int) < (n : Int) := by omega
    go_enter Try.func4, Try.ntmps4
    go_wp2_with fail
    refine (DrawWeightsMajority_any h).mono ?_; rintro e w_ ⟨a1, n1, c1, xs, rfl, ia, he⟩
    clear h
    cases hu : valW xs
    · have e := Lib.hid (show majL xs = 0 from by unfold majL; rw [hu]; rfl)
      go_wp2_with fail
      refine (WeightsMajority_any ia).mono ?_; rintro e w_ ⟨rfl, h1⟩
      replace ia := ia.ext h1
      replace he := he.trans h1
      clear h1
      rw [e.out]
      go_wp2_with fail
      refine (sWeightsMajority_any ia).mono ?_; rintro e w_ ⟨rfl, h1⟩
      replace ia := ia.ext h1
      replace he := he.trans h1
      clear h1
      rw [e.out]
      go_wp2_with fail
      refine (sWeightsMajority_any ia).mono ?_; rintro e w_ ⟨rfl, h1⟩
      replace ia := ia.ext h1
      replace he := he.trans h1
      clear h1
      rw [e.out]
      go_wp2_with fail
      refine (WeightsValid_any ia).mono ?_; rintro e w_ ⟨rfl, rfl⟩
      go_wp2_with fail
      go_ret
      exact ⟨rfl, he⟩
    · have hb := sumW_bd hu 63
      have e := Lib.hid (show majL xs = sumW xs 63 / 2 + 1 from by unfold majL; rw [hu]; rfl)
      have e2 := Lib.hid (wSumL_yes hu (x := 63) (by decide))
      obtain ⟨t, ht⟩ : ∃ t, t = sumW xs 63 := ⟨_, rfl⟩
      rw [← ht] at hb e e2
      clear ht
      go_wp2_with fail
      refine (WeightsMajority_any ia).mono ?_; rintro e w_ ⟨rfl, h1⟩
      replace ia := ia.ext h1
      replace he := he.trans h1
      clear h1
      rw [e.out]
      go_wp2_with fail
      refine (sWeightsMajority_any ia).mono ?_; rintro e w_ ⟨rfl, h1⟩
      replace ia := ia.ext h1
      replace he := he.trans h1
      clear h1
      rw [e.out]
      go_wp2_with fail
      refine (allMembers_any).mono ?_; rintro e w_m ⟨a_m, n_m, c_m, rfl, o_m, e_m⟩
      have i_m := o_m.ints
      replace ia := ia.ext e_m
      replace he := he.trans e_m
      clear o_m e_m
      go_wp2_with fail
      refine (WeightsSum_any ia i_m).mono ?_; rintro e w_ ⟨rfl, h1⟩
      replace he := he.trans h1
      clear h1
      rw [e2.out]
      go_wp2_with fail
      go_ret
      exact ⟨congrArg (fun b => Ending.returned (.bool b)) (decide_eq_true (by omega)), he⟩
end Go.Proofs.Ytpommccgiinhiaa
