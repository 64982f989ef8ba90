/- The walk of laws.FnSetOrder: it returns true. Condition: the argument is a slice of bytes. -/
import Derived.Test.YtpommccgiinhiaaD2
namespace Go.Proofs.Ytpommccgiinhiaa
open Go.RowKit
set_option linter.unusedVariables false

set_option maxHeartbeats 2000000 in
theorem FnSetOrder_walk {a : Option Addr} {n c : Nat} {w : World} (h : Bytes w a n c) :
    Calls Try.prog 6 #[.slice a n c] w fun e w' => e = .returned (.bool true) ∧ Ext none w w' := by
  rcases Nat.lt_or_ge 1048576 n with hl | hl
  · have hlI : (1048576 : Int) < (n : Int) := by omega
    go_enter Try.func6, Try.ntmps6
    go_wp2_with fail
    go_ret
    exact ⟨rfl, Ext.refl _ _⟩
  have hlI : ¬ (1048576 : Int) < (n : Int) := by omega
  go_enter Try.func6, Try.ntmps6
  go_wp2_with fail
  refine (DrawSetSubset_any h).mono ?_; rintro e w_ ⟨a1, n1, c1, xs, b1, m1, d1, ys, rfl, ia, ib, he⟩
  clear h
  cases hs : subsetL xs ys
  · skip
    go_wp2_with fail
    refine (SetSubset_any ia ib).mono ?_; rintro e w_ ⟨rfl, rfl⟩
    go_wp2_with fail
    refine (sSetSubset_any ia ib).mono ?_; rintro e w_ ⟨rfl, d_⟩
    replace ia := ia.ext d_.ext
    replace ib := ib.ext d_.ext
    replace he := he.trans d_.ext
    clear d_
    rw [hs]
    go_wp2_with fail
    refine (sSetSubset_any ia ib).mono ?_; rintro e w_ ⟨rfl, d_⟩
    replace he := he.trans d_.ext
    clear d_
    go_wp2_with fail
    go_ret
    exact ⟨rfl, he⟩
  · have hlaw := order_law hs
    obtain ⟨x, y, hx, hy, hxy, hy64, hm⟩ := hlaw
    have HX := Lib.hid hx
    have HY := Lib.hid hy
    have HM := Lib.hid hm
    clear hx hy hm
    have hxI : (x : Int) ≤ (y : Int) := by omega
    go_wp2_with fail
    refine (SetSubset_any ia ib).mono ?_; rintro e w_ ⟨rfl, rfl⟩
    go_wp2_with fail
    refine (sSetSubset_any ia ib).mono ?_; rintro e w_ ⟨rfl, d_⟩
    replace ia := ia.ext d_.ext
    replace ib := ib.ext d_.ext
    replace he := he.trans d_.ext
    clear d_
    go_wp2_with fail
    refine (SetMask_any ia).mono ?_; rintro e w_ ⟨rfl, rfl⟩
    rw [HX.out]
    go_wp2_with fail
    refine (SetMask_any ib).mono ?_; rintro e w_ ⟨rfl, rfl⟩
    rw [HY.out]
    go_wp2_with fail
    refine (SetMinus_any ib ia).mono ?_; rintro e w_m ⟨a_m, n_m, c_m, rfl, o_m, e_m⟩
    have i_m := o_m.ints
    replace ib := ib.ext e_m
    replace ia := ia.ext e_m
    replace he := he.trans e_m
    clear o_m e_m
    go_wp2_with fail
    refine (SetMask_any i_m).mono ?_; rintro e w_ ⟨rfl, rfl⟩
    rw [HM.out]
    go_wp2_with fail
    refine (SetMask_any ib).mono ?_; rintro e w_ ⟨rfl, rfl⟩
    rw [HY.out]
    go_wp2_with fail
    refine (SetMask_any ia).mono ?_; rintro e w_ ⟨rfl, rfl⟩
    rw [HX.out]
    go_wp2_with fail
    go_ret
    exact ⟨rfl, he⟩
end Go.Proofs.Ytpommccgiinhiaa
