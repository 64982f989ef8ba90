/- The walk of laws.FnDistributive: it returns true. Condition: the arguments are slices of bytes. -/
import Derived.Test.YtpommccgiinhiaaD2
namespace Go.Proofs.Ytpommccgiinhiaa
open Go.RowKit
set_option linter.unusedVariables false

set_option maxHeartbeats 1000000 in
theorem FnDistributive_walk {a : Option Addr} {n c : Nat} {a' : Option Addr} {n' c' : Nat} {w : World} (h : Bytes w a n c) (h' : Bytes w a' n' c') :
    Calls Try.prog 5 #[.slice a n c, .slice a' n' c'] w fun e w' => e = .returned (.bool true) ∧ Ext none w w' := by
  clear h'
  rcases Nat.lt_or_ge 1048576 n with hl | hl
  · have hlI : (1048576 : Int) < (n : Int) := by omega
    go_enter Try.func5, Try.ntmps5
    go_wp2_with fail
    go_ret
    exact ⟨rfl, Ext.refl _ _⟩
  rcases Nat.lt_or_ge 1048576 n' with hl' | hl'
  · have hlI : ¬ (1048576 : Int) < (n : Int) := by omega
    have hlI' : (1048576 : Int) < (n' : Int) := by omega
    go_enter Try.func5, Try.ntmps5
    go_wp2_with fail
    go_ret
    exact ⟨rfl, Ext.refl _ _⟩
  · have hlI : ¬ (1048576 : Int) < (n : Int) := by omega
    have hlI' : ¬ (1048576 : Int) < (n' : Int) := by omega
    go_enter Try.func5, Try.ntmps5
    go_wp2_with fail
    refine (DrawSetIntersect_any h).mono ?_; rintro e w_ ⟨a1, n1, c1, xs, b1, m1, d1, ys, rfl, ia, ib, he⟩
    clear h
    go_wp2_with fail
    refine (SetIntersect_any ia ib).mono ?_; rintro e w_u ⟨a_u, n_u, c_u, rfl, o_u, e_u⟩
    have i_u := o_u.ints
    replace ia := ia.ext e_u
    replace ib := ib.ext e_u
    replace he := he.trans e_u
    clear o_u e_u
    go_wp2_with fail
    refine (sSetIntersect_any ia ib).mono ?_; rintro e w_v ⟨a_v, n_v, c_v, rfl, o_v, e_v⟩
    have i_v := o_v.ints
    replace ia := ia.ext e_v
    replace ib := ib.ext e_v
    replace i_u := i_u.ext e_v
    replace he := he.trans e_v
    clear o_v e_v
    go_wp2_with fail
    refine (sameInts_any i_u i_v).mono ?_; rintro e w_ ⟨rfl, d_⟩
    replace ia := ia.ext d_.ext
    replace ib := ib.ext d_.ext
    replace i_u := i_u.ext d_.ext
    replace he := he.trans d_.ext
    clear d_
    have hs := same_refl (interL xs ys)
    cases hv : valid xs
    · skip
      go_wp2_with fail
      refine (sSetValid_any ia).mono ?_; rintro e w_ ⟨rfl, d_⟩
      replace ia := ia.ext d_.ext
      replace ib := ib.ext d_.ext
      replace i_u := i_u.ext d_.ext
      replace he := he.trans d_.ext
      clear d_
      go_wp2_with fail
      refine (sSetIntersect_any ia ib).mono ?_; rintro e w_v2 ⟨a_v2, n_v2, c_v2, rfl, o_v2, e_v2⟩
      have i_v2 := o_v2.ints
      replace i_u := i_u.ext e_v2
      replace he := he.trans e_v2
      clear o_v2 e_v2
      go_wp2_with fail
      refine (sameInts_any i_u i_v2).mono ?_; rintro e w_ ⟨rfl, d_⟩
      replace he := he.trans d_.ext
      clear d_
      go_wp2_with fail
      go_ret
      exact ⟨rfl, he⟩
    · skip
      go_wp2_with fail
      refine (sSetValid_any ia).mono ?_; rintro e w_ ⟨rfl, d_⟩
      replace ia := ia.ext d_.ext
      replace ib := ib.ext d_.ext
      replace i_u := i_u.ext d_.ext
      replace he := he.trans d_.ext
      clear d_
      cases hu : valid ys
      · skip
        go_wp2_with fail
        refine (sSetValid_any ib).mono ?_; rintro e w_ ⟨rfl, d_⟩
        replace ia := ia.ext d_.ext
        replace ib := ib.ext d_.ext
        replace i_u := i_u.ext d_.ext
        replace he := he.trans d_.ext
        clear d_
        go_wp2_with fail
        refine (sSetIntersect_any ia ib).mono ?_; rintro e w_v2 ⟨a_v2, n_v2, c_v2, rfl, o_v2, e_v2⟩
        have i_v2 := o_v2.ints
        replace i_u := i_u.ext e_v2
        replace he := he.trans e_v2
        clear o_v2 e_v2
        go_wp2_with fail
        refine (sameInts_any i_u i_v2).mono ?_; rintro e w_ ⟨rfl, d_⟩
        replace he := he.trans d_.ext
        clear d_
        go_wp2_with fail
        go_ret
        exact ⟨rfl, he⟩
      · skip
        go_wp2_with fail
        refine (sSetValid_any ib).mono ?_; rintro e w_ ⟨rfl, d_⟩
        replace ia := ia.ext d_.ext
        replace ib := ib.ext d_.ext
        replace i_u := i_u.ext d_.ext
        replace he := he.trans d_.ext
        clear d_
        go_wp2_with fail
        refine (setOf_any (by omega) (by omega)).mono ?_; rintro e w_z ⟨a_z, n_z, c_z, rfl, o_z, e_z⟩
        have i_z := o_z.ints
        replace ia := ia.ext e_z
        replace ib := ib.ext e_z
        replace i_u := i_u.ext e_z
        replace he := he.trans e_z
        clear o_z e_z
        have hd := Lib.hid (distrib_law hv hu (setN_lt (n' : Int)))
        have hs2 := same_refl (interL xs (unionL ys (mem (setN (n' : Int)))))
        go_wp2_with fail
        refine (SetUnion_any ib i_z).mono ?_; rintro e w_bc ⟨a_bc, n_bc, c_bc, rfl, o_bc, e_bc⟩
        have i_bc := o_bc.ints
        replace ia := ia.ext e_bc
        replace i_u := i_u.ext e_bc
        replace i_z := i_z.ext e_bc
        replace he := he.trans e_bc
        clear o_bc e_bc
        go_wp2_with fail
        refine (SetIntersect_any ia i_bc).mono ?_; rintro e w_abc ⟨a_abc, n_abc, c_abc, rfl, o_abc, e_abc⟩
        have i_abc := o_abc.ints
        replace ia := ia.ext e_abc
        replace i_u := i_u.ext e_abc
        replace i_z := i_z.ext e_abc
        replace he := he.trans e_abc
        clear o_abc e_abc
        go_wp2_with fail
        refine (SetIntersect_any ia i_z).mono ?_; rintro e w_ac ⟨a_ac, n_ac, c_ac, rfl, o_ac, e_ac⟩
        have i_ac := o_ac.ints
        replace i_u := i_u.ext e_ac
        replace i_abc := i_abc.ext e_ac
        replace he := he.trans e_ac
        clear o_ac e_ac
        go_wp2_with fail
        refine (SetUnion_any i_u i_ac).mono ?_; rintro e w_r ⟨a_r, n_r, c_r, rfl, o_r, e_r⟩
        have i_r := o_r.ints
        replace i_abc := i_abc.ext e_r
        replace he := he.trans e_r
        clear o_r e_r
        rw [← hd.out] at i_r
        go_wp2_with fail
        refine (sameInts_any i_abc i_r).mono ?_; rintro e w_ ⟨rfl, d_⟩
        replace he := he.trans d_.ext
        clear d_
        go_wp2_with fail
        go_ret
        exact ⟨rfl, he⟩
end Go.Proofs.Ytpommccgiinhiaa
