/- The walk of laws.FnSurvives: it returns true. Condition: the arguments are slices of bytes. -/
import Derived.Test.YtnlmcbilhfmenaaD8
import Derived.Test.YtnlmcbilhfmenaaCC
namespace Go.Proofs.Ytnlmcbilhfmenaa
open Go.RowKit
set_option linter.unusedVariables false

set_option maxHeartbeats 2000000 in
theorem FnSurvives_walk {a : Option Addr} {n c : Nat} {a' : Option Addr} {n' c' : Nat} {w : World} (h : Bytes w a n c) (h' : Bytes w a' n' c') :
    Calls Try.prog 8 #[.slice a n c, .slice a' n' c'] w fun e w' => e = .returned (.bool true) ∧ Ext none w w' := by
  clear h'
  rcases Nat.lt_or_ge 1048576 n with hl | hl
  · have hlI : (1048576 : Int) < (n : Int) := by omega
    go_enter Try.func8, Try.ntmps8
    go_wp2_with fail
    go_ret
    exact ⟨rfl, Ext.refl _ _⟩
  have hlI : ¬ (1048576 : Int) < (n : Int) := by omega
  rcases Nat.lt_or_ge 1048576 n' with hl' | hl'
  · have hlI' : (1048576 : Int) < (n' : Int) := by omega
    go_enter Try.func8, Try.ntmps8
    go_wp2_with fail
    go_ret
    exact ⟨rfl, Ext.refl _ _⟩
  have hlI' : ¬ (1048576 : Int) < (n' : Int) := by omega
  go_enter Try.func8, Try.ntmps8
  go_wp2_with fail
  refine (DrawSurvives_any h).mono ?_; rintro e w_ ⟨a1, n1, c1, f, b1, m1, d1, s, rfl, hF, hn, hs, he⟩
  have hf := hF.1
  clear h hF
  have hn1 : (0 : Int) ≤ (n' : Int) := by omega
  have hn2 : (n' : Int) ≤ 2000000 := by omega
  cases hok : survL f s
  · skip
    go_wp2_with fail
    refine (Survives_is hf hs hok).mono ?_; rintro e w_ ⟨rfl, e1⟩
    replace hf := hf.ext e1
    replace hs := hs.ext e1
    replace he := he.trans e1
    clear e1
    go_wp2_with fail
    refine (sSurvives_is hf hs hok).mono ?_; rintro e w_ ⟨rfl, e1⟩
    replace hf := hf.ext e1
    replace hs := hs.ext e1
    replace he := he.trans e1
    clear e1
    cases hv : famB f
    · skip
      go_wp2_with fail
      refine (sFamilyValid_is hf hv).mono ?_; rintro e w_ ⟨rfl, d_⟩
      replace hf := hf.ext d_.ext
      replace hs := hs.ext d_.ext
      replace he := he.trans d_.ext
      clear d_
      go_wp2_with fail
      refine (sSurvives_is hf hs hok).mono ?_; rintro e w_ ⟨rfl, e1⟩
      replace hf := hf.ext e1
      replace hs := hs.ext e1
      replace he := he.trans e1
      clear e1
      go_wp2_with fail
      go_ret
      exact ⟨rfl, he⟩
    · skip
      go_wp2_with fail
      refine (sFamilyValid_is hf hv).mono ?_; rintro e w_ ⟨rfl, d_⟩
      replace hf := hf.ext d_.ext
      replace hs := hs.ext d_.ext
      replace he := he.trans d_.ext
      clear d_
      cases hu : valid s
      · skip
        go_wp2_with fail
        refine (sSetValid_is hs hu).mono ?_; rintro e w_ ⟨rfl, d_⟩
        replace hf := hf.ext d_.ext
        replace hs := hs.ext d_.ext
        replace he := he.trans d_.ext
        clear d_
        go_wp2_with fail
        refine (sSurvives_is hf hs hok).mono ?_; rintro e w_ ⟨rfl, e1⟩
        replace hf := hf.ext e1
        replace hs := hs.ext e1
        replace he := he.trans e1
        clear e1
        go_wp2_with fail
        go_ret
        exact ⟨rfl, he⟩
      · skip
        go_wp2_with fail
        refine (sSetValid_is hs hu).mono ?_; rintro e w_ ⟨rfl, d_⟩
        replace hf := hf.ext d_.ext
        replace hs := hs.ext d_.ext
        replace he := he.trans d_.ext
        clear d_
        go_wp2_with fail
        refine (allMembers_any).mono ?_; rintro e w_u ⟨a_u, n_u, c_u, rfl, o_u, e_u⟩
        have i_u := o_u.ints
        replace hf := hf.ext e_u
        replace hs := hs.ext e_u
        replace he := he.trans e_u
        clear o_u e_u
        go_wp2_with fail
        refine (SetMinus_any i_u hs).mono ?_; rintro e w_v ⟨a_v, n_v, c_v, rfl, o_v, e_v⟩
        have i_v := o_v.ints
        replace hf := hf.ext e_v
        replace hs := hs.ext e_v
        replace he := he.trans e_v
        clear o_v e_v
        go_wp2_with fail
        refine (FamilyHasQuorum_is hf i_v ((surv_law hv hu).symm.trans hok)).mono ?_; rintro e w_ ⟨rfl, e1⟩
        replace hf := hf.ext e1
        replace hs := hs.ext e1
        replace he := he.trans e1
        clear e1
        go_wp2_with fail
        go_ret
        exact ⟨rfl, he⟩
  · have hv : famB f = true := by unfold survL at hok; rw [Bool.and_eq_true] at hok; exact hok.1
    have hu : valid s = true := by unfold survL at hok; rw [Bool.and_eq_true, Bool.and_eq_true] at hok; exact hok.2.1
    go_wp2_with fail
    refine (Survives_is hf hs hok).mono ?_; rintro e w_ ⟨rfl, e1⟩
    replace hf := hf.ext e1
    replace hs := hs.ext e1
    replace he := he.trans e1
    clear e1
    go_wp2_with fail
    refine (sSurvives_is hf hs hok).mono ?_; rintro e w_ ⟨rfl, e1⟩
    replace hf := hf.ext e1
    replace hs := hs.ext e1
    replace he := he.trans e1
    clear e1
    go_wp2_with fail
    refine (sFamilyValid_is hf hv).mono ?_; rintro e w_ ⟨rfl, d_⟩
    replace hf := hf.ext d_.ext
    replace hs := hs.ext d_.ext
    replace he := he.trans d_.ext
    clear d_
    go_wp2_with fail
    refine (sSetValid_is hs hu).mono ?_; rintro e w_ ⟨rfl, d_⟩
    replace hf := hf.ext d_.ext
    replace hs := hs.ext d_.ext
    replace he := he.trans d_.ext
    clear d_
    go_wp2_with fail
    refine (allMembers_any).mono ?_; rintro e w_u ⟨a_u, n_u, c_u, rfl, o_u, e_u⟩
    have i_u := o_u.ints
    replace hf := hf.ext e_u
    replace hs := hs.ext e_u
    replace he := he.trans e_u
    clear o_u e_u
    go_wp2_with fail
    refine (SetMinus_any i_u hs).mono ?_; rintro e w_v ⟨a_v, n_v, c_v, rfl, o_v, e_v⟩
    have i_v := o_v.ints
    replace hf := hf.ext e_v
    replace hs := hs.ext e_v
    replace he := he.trans e_v
    clear o_v e_v
    go_wp2_with fail
    refine (FamilyHasQuorum_is hf i_v ((surv_law hv hu).symm.trans hok)).mono ?_; rintro e w_ ⟨rfl, e1⟩
    replace hf := hf.ext e1
    replace hs := hs.ext e1
    replace he := he.trans e1
    clear e1
    go_wp2_with fail
    refine (setOf_any hn1 hn2).mono ?_; rintro e w_x ⟨a_x, n_x, c_x, rfl, o_x, e_x⟩
    have i_x := o_x.ints
    replace hf := hf.ext e_x
    replace hs := hs.ext e_x
    replace he := he.trans e_x
    clear o_x e_x
    go_wp2_with fail
    refine (SetIntersect_any hs i_x).mono ?_; rintro e w_y ⟨a_y, n_y, c_y, rfl, o_y, e_y⟩
    have i_y := o_y.ints
    replace hf := hf.ext e_y
    replace hs := hs.ext e_y
    replace he := he.trans e_y
    clear o_y e_y
    go_wp2_with fail
    refine (Survives_is hf i_y (surv_less hok (setN_lt _))).mono ?_; rintro e w_ ⟨rfl, e1⟩
    replace he := he.trans e1
    clear e1
    go_wp2_with fail
    go_ret
    exact ⟨rfl, he⟩
end Go.Proofs.Ytnlmcbilhfmenaa
