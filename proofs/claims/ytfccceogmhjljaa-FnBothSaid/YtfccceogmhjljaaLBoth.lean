/- The walk of laws.FnBoth: it returns true. Condition: the arguments are slices of bytes. -/
import Derived.Test.YtfccceogmhjljaaCG
namespace Go.Proofs.Ytfccceogmhjljaa
open Go.RowKit
set_option linter.unusedVariables false

set_option maxHeartbeats 2000000 in
theorem FnBoth_walk {a : Option Addr} {n c : Nat} {a' : Option Addr} {n' c' : Nat} {w : World} (h : Bytes w a n c) (h' : Bytes w a' n' c') :
    Calls Try.prog 7 #[.slice a n c, .slice a' n' c'] w fun e w' => e = .returned (.bool true) ∧ Ext none w w' := by
  clear h'
  rcases Nat.lt_or_ge 1048576 n with hl | hl
  · have hlI : (1048576 : Int) < (n : Int) := by omega
    go_enter Try.func7, Try.ntmps7
    go_wp2_with fail
    go_ret
    exact ⟨rfl, Ext.refl _ _⟩
  have hlI : ¬ (1048576 : Int) < (n : Int) := by omega
  rcases Nat.lt_or_ge 1048576 n' with hl' | hl'
  · have hlI' : (1048576 : Int) < (n' : Int) := by omega
    go_enter Try.func7, Try.ntmps7
    go_wp2_with fail
    go_ret
    exact ⟨rfl, Ext.refl _ _⟩
  have hlI' : ¬ (1048576 : Int) < (n' : Int) := by omega
  go_enter Try.func7, Try.ntmps7
  go_wp2_with fail
  refine (DrawFamilyBoth_any h).mono ?_; rintro e w_ ⟨a1, n1, c1, f, b1, m1, d1, g, rfl, hf, hn, hg, hm, he⟩
  clear h
  cases hk : ok2 f g
  · skip
    go_wp2_with fail
    refine (sFamilyBoth_v hf hg hk).mono ?_; rintro e w_u ⟨a_u, n_u, c_u, rfl, f_u, e_u⟩
    replace hf := hf.ext e_u
    replace hg := hg.ext e_u
    replace he := he.trans e_u
    clear e_u
    go_wp2_with fail
    refine (FamilyBoth_v hf hg hk).mono ?_; rintro e w_v ⟨a_v, n_v, c_v, rfl, f_v, e_v⟩
    replace hf := hf.ext e_v
    replace hg := hg.ext e_v
    replace f_u := f_u.ext e_v
    replace he := he.trans e_v
    clear e_v
    go_wp2_with fail
    refine (sameSets_v f_v f_u).mono ?_; rintro e w_ ⟨rfl, d_⟩
    replace hf := hf.ext d_.ext
    replace hg := hg.ext d_.ext
    replace f_u := f_u.ext d_.ext
    replace f_v := f_v.ext d_.ext
    replace he := he.trans d_.ext
    clear d_
    go_wp2_with fail
    refine (sameSets_v f_v f_u).mono ?_; rintro e w_ ⟨rfl, d_⟩
    replace he := he.trans d_.ext
    clear d_
    go_wp2_with fail
    go_ret
    exact ⟨rfl, he⟩
  · have hcomm := Lib.hid (bothL_comm hk)
    have hk2 : ok2 g f = true := by rw [ok2_comm]; exact hk
    have hhas := Lib.hid (fun q : Int => bothL_has hk (setN_lt q))
    go_wp2_with fail
    refine (sFamilyBoth_v hf hg hk).mono ?_; rintro e w_u ⟨a_u, n_u, c_u, rfl, f_u, e_u⟩
    replace hf := hf.ext e_u
    replace hg := hg.ext e_u
    replace he := he.trans e_u
    clear e_u
    go_wp2_with fail
    refine (FamilyBoth_v hf hg hk).mono ?_; rintro e w_v ⟨a_v, n_v, c_v, rfl, f_v, e_v⟩
    replace hf := hf.ext e_v
    replace hg := hg.ext e_v
    replace f_u := f_u.ext e_v
    replace he := he.trans e_v
    clear e_v
    go_wp2_with fail
    refine (sameSets_v f_v f_u).mono ?_; rintro e w_ ⟨rfl, d_⟩
    replace hf := hf.ext d_.ext
    replace hg := hg.ext d_.ext
    replace f_u := f_u.ext d_.ext
    replace f_v := f_v.ext d_.ext
    replace he := he.trans d_.ext
    clear d_
    go_wp2_with fail
    obtain ⟨wl, hwl⟩ : ∃ x, x = w_ := ⟨_, rfl⟩
    rw [← hwl] at hf hg f_v he ⊢
    clear hwl f_u
    go_loopw [11] (fun i wr => ∃ k : Nat, k ≤ 4 ∧ i = .int .i64 (k : Nat) ∧ Ext none wl wr)
      (fun i _ => 4 - (intOf i).toNat)
    case atStart => exact ⟨0, by omega, rfl, Ext.refl _ _⟩
    case round =>
      obtain ⟨k, hk4, rfl, hx⟩ := hrel
      replace hf := hf.ext hx
      replace hg := hg.ext hx
      replace f_v := f_v.ext hx
      have HE := Lib.hid he
      replace he := hx
      clear hx
      by_cases hlt : k < 4
      · have hltI : (k : Int) < 4 := by omega
        have hq0 : (0 : Int) ≤ (n' : Int) + (k : Int) * 19 := by omega
        have hq1 : (n' : Int) + (k : Int) * 19 ≤ 2000000 := by omega
        have hh := hhas.out ((n' : Int) + (k : Int) * 19)
        obtain ⟨q1, hq1e⟩ : ∃ q1, hasL f (mem (setN ((n' : Int) + (k : Int) * 19))) = q1 := ⟨_, rfl⟩
        obtain ⟨q2, hq2e⟩ : ∃ q2, hasL g (mem (setN ((n' : Int) + (k : Int) * 19))) = q2 := ⟨_, rfl⟩
        rw [hq1e, hq2e] at hh
        have HH := Lib.hid hh
        have HQ1 := Lib.hid hq1e
        have HQ2 := Lib.hid hq2e
        clear hh hq1e hq2e
        go_wp2_with fail
        refine (setOf_any hq0 hq1).mono ?_; rintro e w_s ⟨a_s, n_s, c_s, rfl, o_s, e_s⟩
        have i_s := o_s.ints
        replace hf := hf.ext e_s
        replace hg := hg.ext e_s
        replace f_v := f_v.ext e_s
        replace he := he.trans e_s
        clear o_s e_s
        go_wp2_with fail
        refine (HasQuorum_v f_v i_s HH.out).mono ?_; rintro e w_ ⟨rfl, e1⟩
        replace hf := hf.ext e1
        replace hg := hg.ext e1
        replace f_v := f_v.ext e1
        replace i_s := i_s.ext e1
        replace he := he.trans e1
        clear e1
        go_wp2_with fail
        refine (HasQuorum_v hf i_s HQ1.out).mono ?_; rintro e w_ ⟨rfl, e1⟩
        replace hf := hf.ext e1
        replace hg := hg.ext e1
        replace f_v := f_v.ext e1
        replace i_s := i_s.ext e1
        replace he := he.trans e1
        clear e1
        cases q1
        · skip
          go_wp2_with fail
          go_roundw
          case rel => exact ⟨k + 1, by omega, by go_num, he⟩
          case measure => simp [intOf]; omega
        · skip
          go_wp2_with fail
          refine (HasQuorum_v hg i_s HQ2.out).mono ?_; rintro e w_ ⟨rfl, e1⟩
          replace hf := hf.ext e1
          replace hg := hg.ext e1
          replace f_v := f_v.ext e1
          replace i_s := i_s.ext e1
          replace he := he.trans e1
          clear e1
          go_wp2_with fail
          go_roundw
          case rel => exact ⟨k + 1, by omega, by go_num, he⟩
          case measure => simp [intOf]; omega
      · obtain rfl : k = 4 := by omega
        go_wp2_with fail
        refine (FamilyBoth_v hg hf hk2).mono ?_; rintro e w_x ⟨a_x, n_x, c_x, rfl, f_x, e_x⟩
        replace f_v := f_v.ext e_x
        replace he := he.trans e_x
        clear e_x
        rw [hcomm.out] at f_x
        go_wp2_with fail
        refine (sameSets_v f_x f_v).mono ?_; rintro e w_ ⟨rfl, d_⟩
        replace he := he.trans d_.ext
        clear d_
        go_wp2_with fail
        go_ret
        exact ⟨rfl, HE.out.trans he⟩
end Go.Proofs.Ytfccceogmhjljaa
