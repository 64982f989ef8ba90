/- The walk of laws.FnSubset: it returns true. Condition: the argument is a slice of bytes. -/
import Derived.Test.YtpommccgiinhiaaD2
namespace Go.Proofs.Ytpommccgiinhiaa
open Go.RowKit
set_option linter.unusedVariables false

set_option maxHeartbeats 2000000 in
theorem FnSubset_walk {a : Option Addr} {n c : Nat} {w : World} (h : Bytes w a n c) :
    Calls Try.prog 7 #[.slice a n c] w fun e w' => e = .returned (.bool true) ∧ Ext none w w' := by
  rcases Nat.lt_or_ge 1048576 n with hl | hl
  · have hlI : (1048576 : Int) < (n : Int) := by omega
    go_enter Try.func7, Try.ntmps7
    go_wp2_with fail
    go_ret
    exact ⟨rfl, Ext.refl _ _⟩
  have hlI : ¬ (1048576 : Int) < (n : Int) := by omega
  go_enter Try.func7, Try.ntmps7
  go_wp2_with fail
  refine (DrawSetSubset_any h).mono ?_; rintro e w_ ⟨a1, n1, c1, xs, b1, m1, d1, ys, rfl, ia, ib, he⟩
  clear h
  go_wp2_with fail
  refine (SetSubset_any ia ib).mono ?_; rintro e w_ ⟨rfl, rfl⟩
  go_wp2_with fail
  refine (sSetSubset_any ia ib).mono ?_; rintro e w_ ⟨rfl, d_⟩
  replace ia := ia.ext d_.ext
  replace ib := ib.ext d_.ext
  replace he := he.trans d_.ext
  clear d_
  cases hv : valid xs
  · skip
    go_wp2_with fail
    refine (sSetValid_any ia).mono ?_; rintro e w_ ⟨rfl, d_⟩
    replace ia := ia.ext d_.ext
    replace ib := ib.ext d_.ext
    replace he := he.trans d_.ext
    clear d_
    go_wp2_with fail
    refine (sSetSubset_any ia ib).mono ?_; rintro e w_ ⟨rfl, d_⟩
    replace he := he.trans d_.ext
    clear d_
    go_wp2_with fail
    go_ret
    exact ⟨rfl, he⟩
  · skip
    go_wp2_with fail
    refine (sSetValid_any ia).mono ?_; rintro e w_ ⟨rfl, d_⟩
    replace ia := ia.ext d_.ext
    replace ib := ib.ext d_.ext
    replace he := he.trans d_.ext
    clear d_
    cases hu : valid ys
    · skip
      go_wp2_with fail
      refine (sSetValid_any ib).mono ?_; rintro e w_ ⟨rfl, d_⟩
      replace ia := ia.ext d_.ext
      replace ib := ib.ext d_.ext
      replace he := he.trans d_.ext
      clear d_
      go_wp2_with fail
      refine (sSetSubset_any ia ib).mono ?_; rintro e w_ ⟨rfl, d_⟩
      replace he := he.trans d_.ext
      clear d_
      go_wp2_with fail
      go_ret
      exact ⟨rfl, he⟩
    · have h1 := Lib.hid (subset_law1 hv hu)
      have h2 := Lib.hid (subset_law2 hv hu)
      have h3 := Lib.hid (subset_nil hv)
      go_wp2_with fail
      refine (sSetValid_any ib).mono ?_; rintro e w_ ⟨rfl, d_⟩
      replace ia := ia.ext d_.ext
      replace ib := ib.ext d_.ext
      replace he := he.trans d_.ext
      clear d_
      go_wp2_with fail
      refine (SetIntersect_any ia ib).mono ?_; rintro e w_u ⟨a_u, n_u, c_u, rfl, o_u, e_u⟩
      have i_u := o_u.ints
      replace ia := ia.ext e_u
      replace ib := ib.ext e_u
      replace he := he.trans e_u
      clear o_u e_u
      go_wp2_with fail
      refine (sameInts_any i_u ia).mono ?_; rintro e w_ ⟨rfl, d_⟩
      replace ia := ia.ext d_.ext
      replace ib := ib.ext d_.ext
      replace he := he.trans d_.ext
      clear d_
      rw [h1.out]
      cases hs : subsetL xs ys
      · rw [hs, Bool.false_and] at h2
        go_wp2_with fail
        refine (sameInts_any ia ib).mono ?_; rintro e w_ ⟨rfl, d_⟩
        replace ia := ia.ext d_.ext
        replace ib := ib.ext d_.ext
        replace he := he.trans d_.ext
        clear d_
        rw [h2.out]
        go_wp2_with fail
        refine (SetSubset_any (Ints.nil _ _) ia).mono ?_; rintro e w_ ⟨rfl, rfl⟩
        rw [h3.out]
        go_wp2_with fail
        go_ret
        exact ⟨rfl, he⟩
      · rw [hs, Bool.true_and] at h2
        go_wp2_with fail
        refine (SetSubset_any ib ia).mono ?_; rintro e w_ ⟨rfl, rfl⟩
        go_wp2_with fail
        refine (sameInts_any ia ib).mono ?_; rintro e w_ ⟨rfl, d_⟩
        replace ia := ia.ext d_.ext
        replace ib := ib.ext d_.ext
        replace he := he.trans d_.ext
        clear d_
        rw [h2.out]
        go_wp2_with fail
        refine (SetSubset_any (Ints.nil _ _) ia).mono ?_; rintro e w_ ⟨rfl, rfl⟩
        rw [h3.out]
        go_wp2_with fail
        go_ret
        exact ⟨rfl, he⟩
end Go.Proofs.Ytpommccgiinhiaa
