/- The walk of laws.FnSurvivesResilience: it returns true. Condition: the arguments are slices of bytes. -/
import Derived.Test.YtjciinaboooeoaaRH
namespace Go.Proofs.Ytjciinaboooeoaa
open Go.RowKit
set_option linter.unusedVariables false

set_option maxHeartbeats 2000000 in
theorem FnSurvivesResilience_walk {a : Option Addr} {n c : Nat} {a' : Option Addr} {n' c' : Nat} {w : World} (h : Bytes w a n c) (h' : Bytes w a' n' c') :
    Calls Try.prog 8 #[.slice a n c, .slice a' n' c'] w fun e w' => e = .returned (.bool true) ∧ Ext none w w' := by
  clear h'
  rcases Nat.lt_or_ge 1048576 n with hl | hl
  · have hlI : (1048576 : Int) < (n : Int) := by omega
    go_enter Try.func8, Try.ntmps8
    go_wp2_with fail
    go_ret
    exact ⟨rfl, Ext.refl _ _⟩
  have hlI : ¬ (1048576 : Int) < (n : Int) := by omega
  rcases Nat.lt_or_ge 1048576 n' with hl' | hl'
  · have hlI' : (1048576 : Int) < (n' : Int) := by omega
    go_enter Try.func8, Try.ntmps8
    go_wp2_with fail
    go_ret
    exact ⟨rfl, Ext.refl _ _⟩
  have hlI' : ¬ (1048576 : Int) < (n' : Int) := by omega
  go_enter Try.func8, Try.ntmps8
  go_wp2_with fail
  refine (DrawSurvives_any h).mono ?_; rintro e w_ ⟨a1, n1, c1, f, b1, m1, d1, s, rfl, hF, hn, hs, he⟩
  have hf := hF.1
  clear h hF
  have hn1 : (0 : Int) ≤ (n' : Int) := by omega
  have hn2 : (n' : Int) ≤ 2000000 := by omega
  obtain ⟨ok, hok⟩ : ∃ ok, survL f s = ok := ⟨_, rfl⟩
  have HOK := Lib.hid hok
  clear hok
  go_wp2_with fail
  refine (Survives_is hf hs HOK.out).mono ?_; rintro e w_ ⟨rfl, e1⟩
  replace hf := hf.ext e1
  replace hs := hs.ext e1
  replace he := he.trans e1
  clear e1
  go_wp2_with fail
  refine (sSurvives_is hf hs HOK.out).mono ?_; rintro e w_ ⟨rfl, e1⟩
  replace hf := hf.ext e1
  replace hs := hs.ext e1
  replace he := he.trans e1
  clear e1
  cases hv : famB f
  · skip
    go_wp2_with fail
    refine (sFamilyValid_is hf hv).mono ?_; rintro e w_ ⟨rfl, d_⟩
    replace hf := hf.ext d_.ext
    replace hs := hs.ext d_.ext
    replace he := he.trans d_.ext
    clear d_
    go_wp2_with fail
    refine (sSurvives_is hf hs HOK.out).mono ?_; rintro e w_ ⟨rfl, e1⟩
    replace hf := hf.ext e1
    replace hs := hs.ext e1
    replace he := he.trans e1
    clear e1
    go_wp2_with fail
    go_ret
    exact ⟨rfl, he⟩
  · skip
    go_wp2_with fail
    refine (sFamilyValid_is hf hv).mono ?_; rintro e w_ ⟨rfl, d_⟩
    replace hf := hf.ext d_.ext
    replace hs := hs.ext d_.ext
    replace he := he.trans d_.ext
    clear d_
    cases hu : valid s
    · skip
      go_wp2_with fail
      refine (sSetValid_is hs hu).mono ?_; rintro e w_ ⟨rfl, d_⟩
      replace hf := hf.ext d_.ext
      replace hs := hs.ext d_.ext
      replace he := he.trans d_.ext
      clear d_
      go_wp2_with fail
      refine (sSurvives_is hf hs HOK.out).mono ?_; rintro e w_ ⟨rfl, e1⟩
      replace hf := hf.ext e1
      replace hs := hs.ext e1
      replace he := he.trans e1
      clear e1
      go_wp2_with fail
      go_ret
      exact ⟨rfl, he⟩
    · skip
      go_wp2_with fail
      refine (sSetValid_is hs hu).mono ?_; rintro e w_ ⟨rfl, d_⟩
      replace hf := hf.ext d_.ext
      replace hs := hs.ext d_.ext
      replace he := he.trans d_.ext
      clear d_
      go_wp2_with fail
      refine (setOf_any hn1 hn2).mono ?_; rintro e w_x ⟨a_x, n_x, c_x, rfl, o_x, e_x⟩
      have i_x := o_x.ints
      replace hf := hf.ext e_x
      replace hs := hs.ext e_x
      replace he := he.trans e_x
      clear o_x e_x
      have hvx := mem_valid (setN_lt (n' : Int))
      obtain ⟨x, hx⟩ : ∃ x, x = mem (setN (n' : Int)) := ⟨_, rfl⟩
      rw [← hx] at i_x hvx
      clear hx
      obtain ⟨R, hR⟩ : ∃ R, resL f 6 = R := ⟨_, rfl⟩
      have hsur := Lib.hid (fun (h : (s.length : Int) ≤ R) => surv_res hv hu (by rw [hR]; exact h))
      have hsux := Lib.hid (fun (h : (x.length : Int) ≤ R) => surv_res hv hvx (by rw [hR]; exact h))
      have HR := Lib.hid hR
      clear hR
      have hls := hs.len
      have hlx := i_x.len
      rw [hls] at hsur
      rw [hlx] at hsux
      clear hls hlx
      go_wp2_with fail
      refine (Resilience_is hf HR.out).mono ?_; rintro e w_ ⟨rfl, e1⟩
      replace hf := hf.ext e1
      replace i_x := i_x.ext e1
      replace he := he.trans e1
      clear e1
      by_cases h1 : R < (m1 : Int)
      · skip
        go_wp2_with fail
        refine (Resilience_is hf HR.out).mono ?_; rintro e w_ ⟨rfl, e1⟩
        replace hf := hf.ext e1
        replace i_x := i_x.ext e1
        replace he := he.trans e1
        clear e1
        by_cases h2 : R < (n_x : Int)
        · skip
          go_wp2_with fail
          go_ret
          exact ⟨rfl, he⟩
        · have hsx := Lib.hid (hsux.out (by omega))
          go_wp2_with fail
          refine (Survives_is hf i_x hsx.out).mono ?_; rintro e w_ ⟨rfl, e1⟩
          replace he := he.trans e1
          clear e1
          go_wp2_with fail
          go_ret
          exact ⟨rfl, he⟩
      · obtain rfl : ok = true := by rw [← HOK.out]; exact hsur.out (by omega)
        go_wp2_with fail
        refine (Resilience_is hf HR.out).mono ?_; rintro e w_ ⟨rfl, e1⟩
        replace hf := hf.ext e1
        replace i_x := i_x.ext e1
        replace he := he.trans e1
        clear e1
        by_cases h2 : R < (n_x : Int)
        · skip
          go_wp2_with fail
          go_ret
          exact ⟨rfl, he⟩
        · have hsx := Lib.hid (hsux.out (by omega))
          go_wp2_with fail
          refine (Survives_is hf i_x hsx.out).mono ?_; rintro e w_ ⟨rfl, e1⟩
          replace he := he.trans e1
          clear e1
          go_wp2_with fail
          go_ret
          exact ⟨rfl, he⟩
end Go.Proofs.Ytjciinaboooeoaa
