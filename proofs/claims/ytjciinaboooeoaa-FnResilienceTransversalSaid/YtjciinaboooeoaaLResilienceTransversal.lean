/- The walk of laws.FnResilienceTransversal: it returns true. Condition: the argument is a slice of bytes. -/
import Derived.Test.YtjciinaboooeoaaRI
namespace Go.Proofs.Ytjciinaboooeoaa
open Go.RowKit
set_option linter.unusedVariables false

set_option maxHeartbeats 2000000 in
theorem FnResilienceTransversal_walk {a : Option Addr} {n c : Nat} {w : World} (h : Bytes w a n c) :
    Calls Try.prog 7 #[.slice a n c] w fun e w' => e = .returned (.bool true) ∧ Ext none w w' := by
  rcases Nat.lt_or_ge 1048576 n with hl | hl
  · have hlI : (1048576 : Int) < (n : Int) := by omega
    go_enter Try.func7, Try.ntmps7
    go_wp2_with fail
    go_ret
    exact ⟨rfl, Ext.refl _ _⟩
  have hlI : ¬ (1048576 : Int) < (n : Int) := by omega
  go_enter Try.func7, Try.ntmps7
  go_wp2_with fail
  refine (DrawResilience_any h).mono ?_; rintro e w_ ⟨a1, n1, c1, f, z, rfl, hf, hn, hz0, hz7, he⟩
  clear h
  obtain ⟨A, hA⟩ : ∃ A, resL f z = A := ⟨_, rfl⟩
  have HA := Lib.hid hA
  have hb := resL_bd f z
  rw [hA] at hb
  clear hA
  by_cases h6 : z = 6
  · subst h6
    cases hT : okT f
    · have hm1 : A = -1 := by rw [← HA.out]; exact resL_no (by unfold okR; rw [hT]; rfl)
      subst hm1
      go_wp2_with fail
      refine (Resilience_is hf.1 HA.out).mono ?_; rintro e w_ ⟨rfl, e1⟩
      replace hf := hf.ext e1
      replace he := he.trans e1
      clear e1
      go_wp2_with fail
      refine (sResilience_is hf.1 HA.out).mono ?_; rintro e w_ ⟨rfl, e1⟩
      replace hf := hf.ext e1
      replace he := he.trans e1
      clear e1
      go_wp2_with fail
      refine (FamilyTransversals_v hf hT).mono ?_; rintro e w_t ⟨a_t, n_t, c_t, rfl, f_t, e_t⟩
      replace he := he.trans e_t
      clear e_t
      go_wp2_with fail
      go_ret
      exact ⟨rfl, he⟩
    · have HS := Lib.hid (show smallQ (transL f) = A + 1 from by have := res_trans hT; rw [HA.out] at this; omega)
      have hAx : ¬ A < -1 := by omega
      go_wp2_with fail
      refine (Resilience_is hf.1 HA.out).mono ?_; rintro e w_ ⟨rfl, e1⟩
      replace hf := hf.ext e1
      replace he := he.trans e1
      clear e1
      go_wp2_with fail
      refine (sResilience_is hf.1 HA.out).mono ?_; rintro e w_ ⟨rfl, e1⟩
      replace hf := hf.ext e1
      replace he := he.trans e1
      clear e1
      go_wp2_with fail
      refine (FamilyTransversals_v hf hT).mono ?_; rintro e w_t ⟨a_t, n_t, c_t, rfl, f_t, e_t⟩
      replace he := he.trans e_t
      clear e_t
      go_wp2_with fail
      refine (SmallestQuorum_is f_t.1 HS.out).mono ?_; rintro e w_ ⟨rfl, e1⟩
      replace he := he.trans e1
      clear e1
      go_wp2_with fail
      go_ret
      refine ⟨retB ?_, he⟩
      first | rfl | (simp; omega) | simp
  · have hz : (z != 6) = true := by rw [bne_iff_ne]; exact h6
    clear h6
    go_wp2_with fail
    refine (Resilience_is hf.1 HA.out).mono ?_; rintro e w_ ⟨rfl, e1⟩
    replace hf := hf.ext e1
    replace he := he.trans e1
    clear e1
    go_wp2_with fail
    refine (sResilience_is hf.1 HA.out).mono ?_; rintro e w_ ⟨rfl, e1⟩
    replace hf := hf.ext e1
    replace he := he.trans e1
    clear e1
    go_wp2_with fail
    refine (sResilience_is hf.1 HA.out).mono ?_; rintro e w_ ⟨rfl, e1⟩
    replace he := he.trans e1
    clear e1
    go_wp2_with fail
    go_ret
    exact ⟨rfl, he⟩
end Go.Proofs.Ytjciinaboooeoaa
