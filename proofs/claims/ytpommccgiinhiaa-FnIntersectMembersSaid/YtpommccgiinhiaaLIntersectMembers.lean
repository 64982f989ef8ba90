/- The walk of laws.FnIntersectMembers: it returns true. Condition: the argument is a slice of bytes. -/
import Derived.Test.YtpommccgiinhiaaD2
namespace Go.Proofs.Ytpommccgiinhiaa
open Go.RowKit
set_option linter.unusedVariables false

set_option maxHeartbeats 1000000 in
theorem FnIntersectMembers_walk {a : Option Addr} {n c : Nat} {w : World} (h : Bytes w a n c) :
    Calls Try.prog 3 #[.slice a n c] w fun e w' => e = .returned (.bool true) ∧ Ext none w w' := by
  by_cases hl : 1048576 < n
  · have hlI : (1048576 : Int) < (n : Int) := by omega
    go_enter Try.func3, Try.ntmps3
    go_wp2_with fail
    go_ret
    exact ⟨rfl, Ext.refl _ _⟩
  · have hlI : ¬ (1048576 : Int) < (n : Int) := by omega
    go_enter Try.func3, Try.ntmps3
    go_wp2_with fail
    refine (DrawSetIntersect_any h).mono ?_; rintro e w_ ⟨a1, n1, c1, xs, b1, m1, d1, ys, rfl, ia, ib, he⟩
    clear h
    go_wp2_with fail
    refine (SetIntersect_any ia ib).mono ?_; rintro e w_u ⟨a_u, n_u, c_u, rfl, o_u, e_u⟩
    have i_u := o_u.ints
    replace ia := ia.ext e_u
    replace ib := ib.ext e_u
    replace he := he.trans e_u
    clear o_u e_u
    go_wp2_with fail
    refine (sSetIntersect_any ia ib).mono ?_; rintro e w_v ⟨a_v, n_v, c_v, rfl, o_v, e_v⟩
    have i_v := o_v.ints
    replace ia := ia.ext e_v
    replace ib := ib.ext e_v
    replace i_u := i_u.ext e_v
    replace he := he.trans e_v
    clear o_v e_v
    go_wp2_with fail
    refine (sameInts_any i_u i_v).mono ?_; rintro e w_ ⟨rfl, d_⟩
    replace ia := ia.ext d_.ext
    replace ib := ib.ext d_.ext
    replace i_u := i_u.ext d_.ext
    replace he := he.trans d_.ext
    clear d_
    have hs := same_refl (interL xs ys)
    cases hv : valid xs
    · skip
      go_wp2_with fail
      refine (sSetValid_any ia).mono ?_; rintro e w_ ⟨rfl, d_⟩
      replace ia := ia.ext d_.ext
      replace ib := ib.ext d_.ext
      replace i_u := i_u.ext d_.ext
      replace he := he.trans d_.ext
      clear d_
      go_wp2_with fail
      refine (sSetIntersect_any ia ib).mono ?_; rintro e w_v2 ⟨a_v2, n_v2, c_v2, rfl, o_v2, e_v2⟩
      have i_v2 := o_v2.ints
      replace i_u := i_u.ext e_v2
      replace he := he.trans e_v2
      clear o_v2 e_v2
      go_wp2_with fail
      refine (sameInts_any i_u i_v2).mono ?_; rintro e w_ ⟨rfl, d_⟩
      replace he := he.trans d_.ext
      clear d_
      go_wp2_with fail
      go_ret
      exact ⟨rfl, he⟩
    · skip
      go_wp2_with fail
      refine (sSetValid_any ia).mono ?_; rintro e w_ ⟨rfl, d_⟩
      replace ia := ia.ext d_.ext
      replace ib := ib.ext d_.ext
      replace i_u := i_u.ext d_.ext
      replace he := he.trans d_.ext
      clear d_
      cases hu : valid ys
      · skip
        go_wp2_with fail
        refine (sSetValid_any ib).mono ?_; rintro e w_ ⟨rfl, d_⟩
        replace ia := ia.ext d_.ext
        replace ib := ib.ext d_.ext
        replace i_u := i_u.ext d_.ext
        replace he := he.trans d_.ext
        clear d_
        go_wp2_with fail
        refine (sSetIntersect_any ia ib).mono ?_; rintro e w_v2 ⟨a_v2, n_v2, c_v2, rfl, o_v2, e_v2⟩
        have i_v2 := o_v2.ints
        replace i_u := i_u.ext e_v2
        replace he := he.trans e_v2
        clear o_v2 e_v2
        go_wp2_with fail
        refine (sameInts_any i_u i_v2).mono ?_; rintro e w_ ⟨rfl, d_⟩
        replace he := he.trans d_.ext
        clear d_
        go_wp2_with fail
        go_ret
        exact ⟨rfl, he⟩
      · skip
        go_wp2_with fail
        refine (sSetValid_any ib).mono ?_; rintro e w_ ⟨rfl, d_⟩
        replace ia := ia.ext d_.ext
        replace ib := ib.ext d_.ext
        replace i_u := i_u.ext d_.ext
        replace he := he.trans d_.ext
        clear d_
        go_wp2_with fail
        obtain ⟨wl, hwl⟩ : ∃ x, x = w_ := ⟨_, rfl⟩
        go_loop [6] (fun i => ∃ k : Nat, k ≤ 8 ∧ i = .int .i64 k) (fun i => 8 - (intOf i).toNat)
        case atStart => exact ⟨0, by omega, rfl⟩
        case round =>
          obtain ⟨k, hk, rfl⟩ := hrel
          by_cases hlt : k < 8
          · have hc := interL_has hv hu (k : Int)
            have HC := Lib.hid hc
            clear hc
            go_wp2_with fail
            refine (SetContains_any i_u).mono ?_; rintro e w_ ⟨rfl, rfl⟩
            go_wp2_with fail
            refine (SetContains_any ia).mono ?_; rintro e w_ ⟨rfl, rfl⟩
            cases hh : containsL xs (k : Int)
            · have hb := HC.out
              rw [hh, Bool.false_and] at hb
              go_wp2_with fail
              go_round
              case rel => exact ⟨k + 1, by omega, by go_num⟩
              case measure => simp [intOf]; omega
            · have hb := HC.out
              rw [hh, Bool.true_and] at hb
              go_wp2_with fail
              refine (SetContains_any ib).mono ?_; rintro e w_ ⟨rfl, rfl⟩
              go_wp2_with fail
              go_round
              case rel => exact ⟨k + 1, by omega, by go_num⟩
              case measure => simp [intOf]; omega
          · obtain rfl : k = 8 := by omega
            have hvi := interL_valid xs ys
            go_wp2_with fail
            refine (SetValid_any i_u).mono ?_; rintro e w_ ⟨rfl, rfl⟩
            go_wp2_with fail
            refine (SetIntersect_any ib ia).mono ?_; rintro e w_u2 ⟨a_u2, n_u2, c_u2, rfl, o_u2, e_u2⟩
            have i_u2 := o_u2.ints
            replace i_u := i_u.ext e_u2
            replace he := he.trans e_u2
            clear o_u2 e_u2
            rw [interL_comm] at i_u2
            go_wp2_with fail
            refine (sameInts_any i_u2 i_u).mono ?_; rintro e w_ ⟨rfl, d_⟩
            replace he := he.trans d_.ext
            clear d_
            go_wp2_with fail
            go_ret
            exact ⟨rfl, he⟩
end Go.Proofs.Ytpommccgiinhiaa
