/- The walk of laws.FnCritical: it returns true. Condition: the argument is a slice of bytes. -/
import Derived.Test.YtnlmcbilhfmenaaD8
import Derived.Test.YtnlmcbilhfmenaaCC
namespace Go.Proofs.Ytnlmcbilhfmenaa
open Go.RowKit
set_option linter.unusedVariables false

set_option maxHeartbeats 2000000 in
theorem FnCritical_walk {a : Option Addr} {n c : Nat} {w : World} (h : Bytes w a n c) :
    Calls Try.prog 7 #[.slice a n c] w fun e w' => e = .returned (.bool true) ∧ Ext none w w' := by
  rcases Nat.lt_or_ge 1048576 n with hl | hl
  · have hlI : (1048576 : Int) < (n : Int) := by omega
    go_enter Try.func7, Try.ntmps7
    go_wp2_with fail
    go_ret
    exact ⟨rfl, Ext.refl _ _⟩
  have hlI : ¬ (1048576 : Int) < (n : Int) := by omega
  go_enter Try.func7, Try.ntmps7
  go_wp2_with fail
  refine (DrawCriticalMembers_any h).mono ?_; rintro e w_ ⟨a1, n1, c1, f, rfl, hF, hn, he⟩
  have hf := hF.1
  clear h hF
  have hsm := same_refl (critL f)
  go_wp2_with fail
  refine (CriticalMembers_any hf).mono ?_; rintro e w_u ⟨a_u, n_u, c_u, rfl, o_u, e_u⟩
  have i_u := o_u.ints
  replace hf := hf.ext e_u
  replace he := he.trans e_u
  clear o_u e_u
  go_wp2_with fail
  refine (sCriticalMembers_any hf).mono ?_; rintro e w_v ⟨a_v, n_v, c_v, rfl, o_v, e_v⟩
  have i_v := o_v.ints
  replace hf := hf.ext e_v
  replace i_u := i_u.ext e_v
  replace he := he.trans e_v
  clear o_v e_v
  go_wp2_with fail
  refine (sameInts_is i_u i_v hsm).mono ?_; rintro e w_ ⟨rfl, d_⟩
  replace hf := hf.ext d_.ext
  replace i_u := i_u.ext d_.ext
  replace he := he.trans d_.ext
  clear d_
  cases hv : famB f
  · skip
    go_wp2_with fail
    refine (sFamilyValid_is hf hv).mono ?_; rintro e w_ ⟨rfl, d_⟩
    replace hf := hf.ext d_.ext
    replace i_u := i_u.ext d_.ext
    replace he := he.trans d_.ext
    clear d_
    go_wp2_with fail
    refine (sCriticalMembers_any hf).mono ?_; rintro e w_v2 ⟨a_v2, n_v2, c_v2, rfl, o_v2, e_v2⟩
    have i_v2 := o_v2.ints
    replace i_u := i_u.ext e_v2
    replace he := he.trans e_v2
    clear o_v2 e_v2
    go_wp2_with fail
    refine (sameInts_is i_u i_v2 hsm).mono ?_; rintro e w_ ⟨rfl, d_⟩
    replace he := he.trans d_.ext
    clear d_
    go_wp2_with fail
    go_ret
    exact ⟨rfl, he⟩
  · skip
    go_wp2_with fail
    refine (sFamilyValid_is hf hv).mono ?_; rintro e w_ ⟨rfl, d_⟩
    replace hf := hf.ext d_.ext
    replace i_u := i_u.ext d_.ext
    replace he := he.trans d_.ext
    clear d_
    have hl := Lib.hid hf.len
    by_cases h0 : n1 = 0
    · subst h0
      go_wp2_with fail
      refine (sCriticalMembers_any hf).mono ?_; rintro e w_v2 ⟨a_v2, n_v2, c_v2, rfl, o_v2, e_v2⟩
      have i_v2 := o_v2.ints
      replace i_u := i_u.ext e_v2
      replace he := he.trans e_v2
      clear o_v2 e_v2
      go_wp2_with fail
      refine (sameInts_is i_u i_v2 hsm).mono ?_; rintro e w_ ⟨rfl, d_⟩
      replace he := he.trans d_.ext
      clear d_
      go_wp2_with fail
      go_ret
      exact ⟨rfl, he⟩
    · have hb : ((n1 : Int) == 0) = false := by rw [beq_eq_false_iff_ne]; omega
      have hne : f ≠ [] := by rintro rfl; exact h0 hl.out.symm
      have hlaw := Lib.hid (fun m h1 h2 => crit_law hv hne m h1 h2)
      have hcv := critL_valid f
      clear h0 hne hsm
      go_wp2_with fail
      obtain ⟨wl, hwl⟩ : ∃ x, x = w_ := ⟨_, rfl⟩
      rw [← hwl] at hf i_u he ⊢
      clear hwl
      go_loopw [5] (fun i wr => ∃ k : Nat, k ≤ 6 ∧ i = .int .i64 ((k : Int) + 1) ∧ Ext none wl wr)
        (fun i _ => 7 - (intOf i).toNat)
      case atStart => exact ⟨0, by omega, rfl, Ext.refl _ _⟩
      case round =>
        obtain ⟨k, hk, rfl, hx⟩ := hrel
        have i_u := i_u.ext hx
        have hf := hf.ext hx
        by_cases hlt : k < 6
        · have hltI : (k : Int) + 1 ≤ 6 := by omega
          have hl1 := hlaw.out ((k : Int) + 1) (by omega) hltI
          obtain ⟨q, hqq⟩ : ∃ q, survL f [(k : Int) + 1] = q := ⟨_, rfl⟩
          rw [hqq] at hl1
          have HQ := Lib.hid hqq
          have HL := Lib.hid hl1
          clear hqq hl1
          have hal : Ext none wr (wr.alloc (.cells #[.int .i64 ((k : Int) + 1)] 3)) := (Ext.refl _ _).alloc _
          have i1 := (OwnI.lit1 wr ((k : Int) + 1)).ints
          have hf1 := hf.ext hal
          go_wp2_with fail
          refine (SetContains_is i_u HL.out).mono ?_; rintro e w_ ⟨rfl, rfl⟩
          go_wp2_with fail
          refine (Survives_is hf1 i1 HQ.out).mono ?_; rintro e w3 ⟨rfl, e3⟩
          have hx3 := hx.trans (hal.trans e3)
          clear hf1 i1 hal e3
          cases q
          all_goals
            go_wp2_with fail
            go_roundw
            case rel => exact ⟨k + 1, by omega, by go_num, hx3⟩
            case measure => simp [intOf]; omega
        · obtain rfl : k = 6 := by omega
          go_wp2_with fail
          refine (SetValid_any i_u).mono ?_; rintro e w_ ⟨rfl, rfl⟩
          go_wp2_with fail
          go_ret
          exact ⟨rfl, he.trans hx⟩
end Go.Proofs.Ytnlmcbilhfmenaa
