/- The walk of laws.FnDeMorgan: it returns true. Condition: the argument is a slice of bytes. -/
import Derived.Test.YtjciinaboooeoaaRD
import Derived.Test.YtjciinaboooeoaaCG
namespace Go.Proofs.Ytjciinaboooeoaa
open Go.RowKit
set_option linter.unusedVariables false

set_option maxHeartbeats 2000000 in
theorem FnDeMorgan_walk {a : Option Addr} {n c : Nat} {w : World} (h : Bytes w a n c) :
    Calls Try.prog 6 #[.slice a n c] w fun e w' => e = .returned (.bool true) ∧ Ext none w w' := by
  rcases Nat.lt_or_ge 1048576 n with hl | hl
  · have hlI : (1048576 : Int) < (n : Int) := by omega
    go_enter Try.func6, Try.ntmps6
    go_wp2_with fail
    go_ret
    exact ⟨rfl, Ext.refl _ _⟩
  have hlI : ¬ (1048576 : Int) < (n : Int) := by omega
  go_enter Try.func6, Try.ntmps6
  go_wp2_with fail
  refine (DrawFamilyEither_any h).mono ?_; rintro e w_ ⟨a1, n1, c1, f, b1, m1, d1, g, rfl, hf, hn, hg, hm, he⟩
  clear h
  cases hk : ok2 f g
  · skip
    go_wp2_with fail
    refine (sFamilyEither_v hf hg hk).mono ?_; rintro e w_u ⟨a_u, n_u, c_u, rfl, f_u, e_u⟩
    replace hf := hf.ext e_u
    replace hg := hg.ext e_u
    replace he := he.trans e_u
    clear e_u
    go_wp2_with fail
    refine (FamilyEither_v hf hg hk).mono ?_; rintro e w_v ⟨a_v, n_v, c_v, rfl, f_v, e_v⟩
    replace hf := hf.ext e_v
    replace hg := hg.ext e_v
    replace f_u := f_u.ext e_v
    replace he := he.trans e_v
    clear e_v
    go_wp2_with fail
    refine (sameSets_v f_v f_u).mono ?_; rintro e w_ ⟨rfl, d_⟩
    replace hf := hf.ext d_.ext
    replace hg := hg.ext d_.ext
    replace f_u := f_u.ext d_.ext
    replace f_v := f_v.ext d_.ext
    replace he := he.trans d_.ext
    clear d_
    go_wp2_with fail
    refine (sameSets_v f_v f_u).mono ?_; rintro e w_ ⟨rfl, d_⟩
    replace he := he.trans d_.ext
    clear d_
    go_wp2_with fail
    go_ret
    exact ⟨rfl, he⟩
  · have hff := (ok2_iff hk).1
    have hgf := (ok2_iff hk).2
    have hlf := hf.len
    have hlg := hg.len
    have hmf := hf.max
    have hmg := hg.max
    by_cases h0 : n1 = 0 ∨ m1 = 0
    · have hsum := Lib.hid (show (eitherL f g).length = n1 + m1 from by
        rcases h0 with h0 | h0
        · have : f = [] := List.eq_nil_of_length_eq_zero (by omega)
          subst this
          rw [(either_nil hgf).2]; omega
        · have : g = [] := List.eq_nil_of_length_eq_zero (by omega)
          subst this
          rw [(either_nil hff).1]; omega)
      go_wp2_with fail
      refine (sFamilyEither_v hf hg hk).mono ?_; rintro e w_u ⟨a_u, n_u, c_u, rfl, f_u, e_u⟩
      replace hf := hf.ext e_u
      replace hg := hg.ext e_u
      replace he := he.trans e_u
      clear e_u
      go_wp2_with fail
      refine (FamilyEither_v hf hg hk).mono ?_; rintro e w_v ⟨a_v, n_v, c_v, rfl, f_v, e_v⟩
      replace hf := hf.ext e_v
      replace hg := hg.ext e_v
      replace f_u := f_u.ext e_v
      replace he := he.trans e_v
      clear e_v
      go_wp2_with fail
      refine (sameSets_v f_v f_u).mono ?_; rintro e w_ ⟨rfl, d_⟩
      replace hf := hf.ext d_.ext
      replace hg := hg.ext d_.ext
      replace f_v := f_v.ext d_.ext
      replace he := he.trans d_.ext
      clear d_
      have hnv := f_v.len
      rw [hsum.out] at hnv
      have hbv : ((n_v : Int) == (n1 : Int) + (m1 : Int)) = true := by rw [beq_iff_eq]; omega
      have hnI : (n1 : Int) ≤ 80 := by omega
      have hmI : (m1 : Int) ≤ 80 := by omega
      clear hsum
      by_cases h1 : n1 = 0
      · subst h1
        obtain rfl : n_v = m1 := by omega
        clear hlf h0 hnv hbv
        go_wp2_with fail
        go_ret
        exact ⟨by first | rfl | simp, he⟩
      · have hb1 : ((n1 : Int) == 0) = false := by rw [beq_eq_false_iff_ne]; omega
        obtain rfl : m1 = 0 := by rcases h0 with h0 | h0; exact absurd h0 h1; exact h0
        obtain rfl : n_v = n1 := by omega
        clear hlg h0 hnv hbv
        go_wp2_with fail
        go_ret
        exact ⟨by first | rfl | simp, he⟩
    · have hb1 : ((n1 : Int) == 0) = false := by rw [beq_eq_false_iff_ne]; omega
      have hb2 : ((m1 : Int) == 0) = false := by rw [beq_eq_false_iff_ne]; omega
      have hTf : okT f = true := by rw [okT_len hff, decide_eq_true_eq]; omega
      have hTg : okT g = true := by rw [okT_len hgf, decide_eq_true_eq]; omega
      have hdm := Lib.hid (deMorgan hTf hTg)
      clear h0 hlf hlg
      go_wp2_with fail
      refine (sFamilyEither_v hf hg hk).mono ?_; rintro e w_u ⟨a_u, n_u, c_u, rfl, f_u, e_u⟩
      replace hf := hf.ext e_u
      replace hg := hg.ext e_u
      replace he := he.trans e_u
      clear e_u
      go_wp2_with fail
      refine (FamilyEither_v hf hg hk).mono ?_; rintro e w_v ⟨a_v, n_v, c_v, rfl, f_v, e_v⟩
      replace hf := hf.ext e_v
      replace hg := hg.ext e_v
      replace f_u := f_u.ext e_v
      replace he := he.trans e_v
      clear e_v
      go_wp2_with fail
      refine (sameSets_v f_v f_u).mono ?_; rintro e w_ ⟨rfl, d_⟩
      replace hf := hf.ext d_.ext
      replace hg := hg.ext d_.ext
      replace f_v := f_v.ext d_.ext
      replace he := he.trans d_.ext
      clear d_
      go_wp2_with fail
      refine (FamilyTransversals_v hf hTf).mono ?_; rintro e w_a ⟨a_a, n_a, c_a, rfl, f_a, e_a⟩
      replace hg := hg.ext e_a
      replace f_v := f_v.ext e_a
      replace he := he.trans e_a
      clear e_a
      go_wp2_with fail
      refine (FamilyTransversals_v hg hTg).mono ?_; rintro e w_b ⟨a_b, n_b, c_b, rfl, f_b, e_b⟩
      replace f_v := f_v.ext e_b
      replace f_a := f_a.ext e_b
      replace he := he.trans e_b
      clear e_b
      go_wp2_with fail
      refine (FamilyTransversals_v f_v hdm.out.1).mono ?_; rintro e w_c ⟨a_c, n_c, c_c, rfl, f_c, e_c⟩
      replace f_a := f_a.ext e_c
      replace f_b := f_b.ext e_c
      replace he := he.trans e_c
      clear e_c
      go_wp2_with fail
      refine (FamilyBoth_v f_a f_b hdm.out.2.1).mono ?_; rintro e w_d ⟨a_d, n_d, c_d, rfl, f_d, e_d⟩
      replace f_c := f_c.ext e_d
      replace he := he.trans e_d
      clear e_d
      rw [hdm.out.2.2] at f_c
      go_wp2_with fail
      refine (sameSets_v f_c f_d).mono ?_; rintro e w_ ⟨rfl, d_⟩
      replace he := he.trans d_.ext
      clear d_
      go_wp2_with fail
      go_ret
      exact ⟨rfl, he⟩
end Go.Proofs.Ytjciinaboooeoaa
