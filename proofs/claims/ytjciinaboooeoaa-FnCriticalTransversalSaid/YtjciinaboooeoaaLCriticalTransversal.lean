/- The walk of laws.FnCriticalTransversal: it returns true. Condition: the argument is a slice of bytes. -/
import Derived.Test.YtjciinaboooeoaaRD
import Derived.Test.YtjciinaboooeoaaCG
namespace Go.Proofs.Ytjciinaboooeoaa
open Go.RowKit
set_option linter.unusedVariables false

theorem oneTo_len {t : List (List Int)} (h : ∀ s ∈ t, valid s = true) (k : Nat) : valid (oneTo [] (t.take k)) = true := by
  have e : t.take k = famL (masks (t.take k)) := (famL_masks fun s hs => h s (List.mem_of_mem_take hs)).symm
  have h2 := oneTo_mem (masks (t.take k)) 0 (by decide) (masks64 fun s hs => h s (List.mem_of_mem_take hs))
  rw [e]
  have h3 : oneTo [] (famL (masks (t.take k))) = mem (oneM 0 (masks (t.take k))) := h2.1
  rw [h3]; exact mem_valid h2.2
set_option maxRecDepth 20000 in
set_option maxHeartbeats 2000000 in
theorem FnCriticalTransversal_walk {a : Option Addr} {n c : Nat} {w : World} (h : Bytes w a n c) :
    Calls Try.prog 5 #[.slice a n c] w fun e w' => e = .returned (.bool true) ∧ Ext none w w' := by
  rcases Nat.lt_or_ge 1048576 n with hl | hl
  · have hlI : (1048576 : Int) < (n : Int) := by omega
    go_enter Try.func5, Try.ntmps5
    go_wp2_with fail
    go_ret
    exact ⟨rfl, Ext.refl _ _⟩
  have hlI : ¬ (1048576 : Int) < (n : Int) := by omega
  go_enter Try.func5, Try.ntmps5
  go_wp2_with fail
  refine (DrawCriticalMembers_any h).mono ?_; rintro e w_ ⟨a1, n1, c1, f, rfl, hf, hn, he⟩
  clear h
  have hsm := same_refl (critL f)
  go_wp2_with fail
  refine (CriticalMembers_any hf.1).mono ?_; rintro e w_u ⟨a_u, n_u, c_u, rfl, o_u, e_u⟩
  have i_u := o_u.ints
  replace hf := hf.ext e_u
  replace he := he.trans e_u
  clear o_u e_u
  go_wp2_with fail
  refine (sCriticalMembers_any hf.1).mono ?_; rintro e w_v ⟨a_v, n_v, c_v, rfl, o_v, e_v⟩
  have i_v := o_v.ints
  replace hf := hf.ext e_v
  replace i_u := i_u.ext e_v
  replace he := he.trans e_v
  clear o_v e_v
  go_wp2_with fail
  refine (sameInts_is i_u i_v hsm).mono ?_; rintro e w_ ⟨rfl, d_⟩
  replace hf := hf.ext d_.ext
  replace i_u := i_u.ext d_.ext
  replace he := he.trans d_.ext
  clear d_
  cases hv : famB f
  · skip
    go_wp2_with fail
    refine (sFamilyValid_is hf.1 hv).mono ?_; rintro e w_ ⟨rfl, d_⟩
    replace hf := hf.ext d_.ext
    replace i_u := i_u.ext d_.ext
    replace he := he.trans d_.ext
    clear d_
    go_wp2_with fail
    refine (sCriticalMembers_any hf.1).mono ?_; rintro e w_v2 ⟨a_v2, n_v2, c_v2, rfl, o_v2, e_v2⟩
    have i_v2 := o_v2.ints
    replace i_u := i_u.ext e_v2
    replace he := he.trans e_v2
    clear o_v2 e_v2
    go_wp2_with fail
    refine (sameInts_is i_u i_v2 hsm).mono ?_; rintro e w_ ⟨rfl, d_⟩
    replace he := he.trans d_.ext
    clear d_
    go_wp2_with fail
    go_ret
    exact ⟨rfl, he⟩
  · skip
    go_wp2_with fail
    refine (sFamilyValid_is hf.1 hv).mono ?_; rintro e w_ ⟨rfl, d_⟩
    replace hf := hf.ext d_.ext
    replace i_u := i_u.ext d_.ext
    replace he := he.trans d_.ext
    clear d_
    have hl := Lib.hid hf.len
    by_cases h0 : n1 = 0
    · subst h0
      go_wp2_with fail
      refine (sCriticalMembers_any hf.1).mono ?_; rintro e w_v2 ⟨a_v2, n_v2, c_v2, rfl, o_v2, e_v2⟩
      have i_v2 := o_v2.ints
      replace i_u := i_u.ext e_v2
      replace he := he.trans e_v2
      clear o_v2 e_v2
      go_wp2_with fail
      refine (sameInts_is i_u i_v2 hsm).mono ?_; rintro e w_ ⟨rfl, d_⟩
      replace he := he.trans d_.ext
      clear d_
      go_wp2_with fail
      go_ret
      exact ⟨rfl, he⟩
    · have hb : ((n1 : Int) == 0) = false := by rw [beq_eq_false_iff_ne]; omega
      have hT : okT f = true := by rw [okT_len hv, decide_eq_true_eq, hl.out]; omega
      have hct := Lib.hid (crit_trans hT)
      have hval := Lib.hid (fam_valid (transL_fam hT))
      clear h0
      go_wp2_with fail
      refine (FamilyTransversals_v hf hT).mono ?_; rintro e w_t ⟨a_t, n_t, c_t, rfl, f_t, e_t⟩
      replace i_u := i_u.ext e_t
      replace he := he.trans e_t
      clear e_t
      have hlt := Lib.hid f_t.len
      have hmt := f_t.max
      obtain ⟨T, hTT⟩ : ∃ T, T = transL f := ⟨_, rfl⟩
      rw [← hTT] at f_t hct hval hlt
      clear hTT hf hl
      go_wp2_with fail
      obtain ⟨wl, hwl⟩ : ∃ x, x = w_t := ⟨_, rfl⟩
      rw [← hwl] at f_t i_u he ⊢
      clear hwl
      have HFT := Lib.hid f_t.1
      go_loopw [7, 8] (fun v i wr => ∃ (k : Nat) (a2 : Option Addr) (n2 c2 : Nat), k ≤ n_t ∧ i = .int .i64 (k : Nat) ∧ v = .slice a2 n2 c2 ∧ Ints wr a2 n2 (oneTo [] (T.take k)) ∧ Ext none wl wr)
        (fun _ i _ => n_t - (intOf i).toNat)
      case atStart => exact ⟨0, _, _, _, by omega, rfl, rfl, (OwnI.made wl).ints, (Ext.refl _ _).alloc _⟩
      case round =>
        obtain ⟨k, a2, n2, c2, hk, rfl, rfl, hs, hx⟩ := hrel
        by_cases hlt2 : k < n_t
        · have hltI : (k : Int) < (n_t : Int) := by omega
          have hkl : k < T.length := by rw [hlt.out]; exact hlt2
          obtain ⟨b3, off3, a3, n3, c3, rfl, hc3, hi3⟩ := (HFT.out.ext hx).cell hlt2
          have hst := Lib.hid (oneTo_step T k hkl)
          have hl3 := Lib.hid hi3.len
          have hn3 : n3 ≤ 6 := by rw [← hi3.len]; exact valid_len (hval.out _ (getD_mem hkl))
          by_cases h1 : n3 = 1
          · subst h1
            go_wp2_with fail
            refine (SetUnion_any hs hi3).mono ?_; rintro e w4 ⟨a4, n4, c4, rfl, o4, e4⟩
            go_wp2_with fail
            go_roundw
            case rel => exact ⟨k + 1, _, _, _, by omega, by go_num, rfl, by rw [hst.out, if_pos hl3.out]; exact o4.ints, hx.trans e4⟩
            case measure => simp [intOf]; omega
          · have hb1 : ((n3 : Int) == 1) = false := by rw [beq_eq_false_iff_ne]; omega
            have hne1 := Lib.hid (show ¬ (T.getD k []).length = 1 from by rw [hl3.out]; exact h1)
            clear h1
            go_wp2_with fail
            go_roundw
            case rel => exact ⟨k + 1, _, _, _, by omega, by go_num, rfl, by rw [hst.out, if_neg hne1.out]; exact hs, hx⟩
            case measure => simp [intOf]; omega
        · obtain rfl : k = n_t := by omega
          have hfin := Lib.hid (show oneTo [] (T.take k) = critL f from by rw [List.take_of_length_le (by rw [hlt.out]; exact Nat.le_refl _)]; exact hct.out)
          rw [hfin.out] at hs
          go_wp2_with fail
          refine (sameInts_is hs (i_u.ext hx) hsm).mono ?_; rintro e w9 ⟨rfl, d9⟩
          go_wp2_with fail
          go_ret
          exact ⟨rfl, he.trans (hx.trans d9.ext)⟩
end Go.Proofs.Ytjciinaboooeoaa
