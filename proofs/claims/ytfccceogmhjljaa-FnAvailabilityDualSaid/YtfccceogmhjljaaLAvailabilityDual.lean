/- The walk of laws.FnAvailabilityDual: it returns true. Condition: the argument is a slice of bytes. -/
import Derived.Test.YtfccceogmhjljaaRH
namespace Go.Proofs.Ytfccceogmhjljaa
open Go.RowKit
set_option linter.unusedVariables false

set_option maxHeartbeats 2000000 in
theorem FnAvailabilityDual_walk {a : Option Addr} {n c : Nat} {w : World} (h : Bytes w a n c) :
    Calls Try.prog 14 #[.slice a n c] w fun e w' => e = .returned (.bool true) ∧ Ext none w w' := by
  rcases Nat.lt_or_ge 1048576 n with hl | hl
  · have hlI : (1048576 : Int) < (n : Int) := by omega
    go_enter Try.func14, Try.ntmps14
    go_wp2_with fail
    go_ret
    exact ⟨rfl, Ext.refl _ _⟩
  have hlI : ¬ (1048576 : Int) < (n : Int) := by omega
  go_enter Try.func14, Try.ntmps14
  go_wp2_with fail
  refine (DrawAvailability_any h).mono ?_; rintro e w_ ⟨a1, n1, c1, f, z, rfl, hf, hn, hz0, hz7, he⟩
  clear h
  obtain ⟨A, hA⟩ : ∃ A, availL f z = A := ⟨_, rfl⟩
  have HA := Lib.hid hA
  have hb := availL_bd f z
  rw [hA] at hb
  clear hA
  by_cases h0 : A < 0
  · skip
    go_wp2_with fail
    refine (Availability_is hf.1 HA.out).mono ?_; rintro e w_ ⟨rfl, e1⟩
    replace hf := hf.ext e1
    replace he := he.trans e1
    clear e1
    go_wp2_with fail
    refine (sAvailability_is hf.1 HA.out).mono ?_; rintro e w_ ⟨rfl, e1⟩
    replace hf := hf.ext e1
    replace he := he.trans e1
    clear e1
    go_wp2_with fail
    refine (sAvailability_is hf.1 HA.out).mono ?_; rintro e w_ ⟨rfl, e1⟩
    replace he := he.trans e1
    clear e1
    go_wp2_with fail
    go_ret
    exact ⟨rfl, he⟩
  · have hT : okT f = true := by
      cases ho : okR f z
      · have := availL_no ho; rw [HA.out] at this; omega
      · exact okR_T ho
    obtain ⟨B, hB⟩ : ∃ B, availL f 6 = B := ⟨_, rfl⟩
    have HB := Lib.hid hB
    have hbB := availL_bd f 6
    rw [hB] at hbB
    have HC := Lib.hid (show availL (transL f) 6 = 64 - B from by have := avail_dual hT; omega)
    have hbC : -1 ≤ 64 - B ∧ 64 - B ≤ 64 := by have := availL_bd (transL f) 6; rw [HC.out] at this; exact this
    have hs : B + (64 - B) = 64 := by omega
    clear hB
    go_wp2_with fail
    refine (Availability_is hf.1 HA.out).mono ?_; rintro e w_ ⟨rfl, e1⟩
    replace hf := hf.ext e1
    replace he := he.trans e1
    clear e1
    go_wp2_with fail
    refine (sAvailability_is hf.1 HA.out).mono ?_; rintro e w_ ⟨rfl, e1⟩
    replace hf := hf.ext e1
    replace he := he.trans e1
    clear e1
    go_wp2_with fail
    refine (FamilyTransversals_v hf hT).mono ?_; rintro e w_t ⟨a_t, n_t, c_t, rfl, f_t, e_t⟩
    replace hf := hf.ext e_t
    replace he := he.trans e_t
    clear e_t
    go_wp2_with fail
    refine (Availability_is hf.1 HB.out).mono ?_; rintro e w_ ⟨rfl, e1⟩
    replace f_t := f_t.ext e1
    replace he := he.trans e1
    clear e1
    go_wp2_with fail
    refine (Availability_is f_t.1 HC.out).mono ?_; rintro e w_ ⟨rfl, e1⟩
    replace he := he.trans e1
    clear e1
    obtain ⟨C, hC⟩ : ∃ C, C = 64 - B := ⟨_, rfl⟩
    have hs2 : B + C = 64 := by omega
    have hb1 : 0 ≤ B := by omega
    have hb2 : B ≤ 64 := by omega
    have hb3 : 0 ≤ C := by omega
    have hb4 : C ≤ 64 := by omega
    rw [← hC]
    clear hC hs hbB hbC
    go_wp2_with fail
    go_ret
    exact ⟨rfl, he⟩
end Go.Proofs.Ytfccceogmhjljaa
