/- The walk of laws.FnMinimizeUpward: it returns true. Condition: the arguments are slices of bytes. -/
import Derived.Test.YtnlmcbilhfmenaaCG
namespace Go.Proofs.Ytnlmcbilhfmenaa
open Go.RowKit
set_option linter.unusedVariables false

set_option maxHeartbeats 2000000 in
theorem FnMinimizeUpward_walk {a : Option Addr} {n c : Nat} {a' : Option Addr} {n' c' : Nat} {w : World} (h : Bytes w a n c) (h' : Bytes w a' n' c') :
    Calls Try.prog 11 #[.slice a n c, .slice a' n' c'] w fun e w' => e = .returned (.bool true) ∧ Ext none w w' := by
  clear h'
  rcases Nat.lt_or_ge 1048576 n with hl | hl
  · have hlI : (1048576 : Int) < (n : Int) := by omega
    go_enter Try.func11, Try.ntmps11
    go_wp2_with fail
    go_ret
    exact ⟨rfl, Ext.refl _ _⟩
  have hlI : ¬ (1048576 : Int) < (n : Int) := by omega
  rcases Nat.lt_or_ge 1048576 n' with hl' | hl'
  · have hlI' : (1048576 : Int) < (n' : Int) := by omega
    go_enter Try.func11, Try.ntmps11
    go_wp2_with fail
    go_ret
    exact ⟨rfl, Ext.refl _ _⟩
  have hlI' : ¬ (1048576 : Int) < (n' : Int) := by omega
  go_enter Try.func11, Try.ntmps11
  go_wp2_with fail
  refine (DrawFamilyMinimize_any h).mono ?_; rintro e w_ ⟨a1, n1, c1, f, rfl, hf, hn, he⟩
  clear h
  cases hk : okM f
  · skip
    go_wp2_with fail
    refine (sFamilyMinimize_v hf hk).mono ?_; rintro e w_u ⟨a_u, n_u, c_u, rfl, f_u, e_u⟩
    replace hf := hf.ext e_u
    replace he := he.trans e_u
    clear e_u
    go_wp2_with fail
    refine (FamilyMinimize_v hf hk).mono ?_; rintro e w_v ⟨a_v, n_v, c_v, rfl, f_v, e_v⟩
    replace hf := hf.ext e_v
    replace f_u := f_u.ext e_v
    replace he := he.trans e_v
    clear e_v
    go_wp2_with fail
    refine (sameSets_v f_v f_u).mono ?_; rintro e w_ ⟨rfl, d_⟩
    replace hf := hf.ext d_.ext
    replace f_u := f_u.ext d_.ext
    replace f_v := f_v.ext d_.ext
    replace he := he.trans d_.ext
    clear d_
    go_wp2_with fail
    refine (sameSets_v f_v f_u).mono ?_; rintro e w_ ⟨rfl, d_⟩
    replace he := he.trans d_.ext
    clear d_
    go_wp2_with fail
    go_ret
    exact ⟨rfl, he⟩
  · have hhas := Lib.hid (fun q : Int => minimizeL_has hk (setN_lt q))
    have hval := Lib.hid (minimizeL_fam hk)
    have hlen := Lib.hid (minimizeL_len hk)
    have hl := Lib.hid hf.len
    have hm := hf.max
    go_wp2_with fail
    refine (sFamilyMinimize_v hf hk).mono ?_; rintro e w_u ⟨a_u, n_u, c_u, rfl, f_u, e_u⟩
    replace hf := hf.ext e_u
    replace he := he.trans e_u
    clear e_u
    go_wp2_with fail
    refine (FamilyMinimize_v hf hk).mono ?_; rintro e w_v ⟨a_v, n_v, c_v, rfl, f_v, e_v⟩
    replace hf := hf.ext e_v
    replace f_u := f_u.ext e_v
    replace he := he.trans e_v
    clear e_v
    go_wp2_with fail
    refine (sameSets_v f_v f_u).mono ?_; rintro e w_ ⟨rfl, d_⟩
    replace hf := hf.ext d_.ext
    replace f_u := f_u.ext d_.ext
    replace f_v := f_v.ext d_.ext
    replace he := he.trans d_.ext
    clear d_
    go_wp2_with fail
    obtain ⟨wl, hwl⟩ : ∃ x, x = w_ := ⟨_, rfl⟩
    rw [← hwl] at hf f_v he ⊢
    clear hwl f_u
    go_loopw [10] (fun i wr => ∃ k : Nat, k ≤ 4 ∧ i = .int .i64 (k : Nat) ∧ Ext none wl wr)
      (fun i _ => 4 - (intOf i).toNat)
    case atStart => exact ⟨0, by omega, rfl, Ext.refl _ _⟩
    case round =>
      obtain ⟨k, hk4, rfl, hx⟩ := hrel
      replace hf := hf.ext hx
      replace f_v := f_v.ext hx
      have HE := Lib.hid he
      replace he := hx
      clear hx
      by_cases hlt : k < 4
      · have hltI : (k : Int) < 4 := by omega
        have hq0 : (0 : Int) ≤ (n' : Int) + (k : Int) * 13 := by omega
        have hq1 : (n' : Int) + (k : Int) * 13 ≤ 2000000 := by omega
        have HH := Lib.hid (hhas.out ((n' : Int) + (k : Int) * 13))
        go_wp2_with fail
        refine (setOf_any hq0 hq1).mono ?_; rintro e w_s ⟨a_s, n_s, c_s, rfl, o_s, e_s⟩
        have i_s := o_s.ints
        replace hf := hf.ext e_s
        replace f_v := f_v.ext e_s
        replace he := he.trans e_s
        clear o_s e_s
        obtain ⟨s, hs⟩ : ∃ s, s = mem (setN ((n' : Int) + (k : Int) * 13)) := ⟨_, rfl⟩
        rw [← hs] at i_s HH
        clear hs
        go_wp2_with fail
        obtain ⟨wo, hwo⟩ : ∃ x, x = w_s := ⟨_, rfl⟩
        rw [← hwo] at hf f_v i_s he ⊢
        clear hwo
        go_loop [12, 13] (fun c i => ∃ j : Nat, j ≤ n1 ∧ i = .int .i64 j ∧ c = .bool (anySub (f.take j) s))
          (fun _ i => n1 - (intOf i).toNat)
        case atStart => exact ⟨0, by omega, rfl, rfl⟩
        case round =>
          obtain ⟨j, hj, rfl, rfl⟩ := hrel
          by_cases hjt : j < n1
          · have hjtI : (j : Int) < (n1 : Int) := by omega
            obtain ⟨b, off, a2, n2, c2, rfl, hc, hi⟩ := hf.cell hjt
            have hst := Lib.hid (anySub_step f s j (by rw [hl.out]; exact hjt))
            cases hq : anySub (f.take j) s
            · obtain ⟨q, hqq⟩ : ∃ q, subsetL (f.getD j []) s = q := ⟨_, rfl⟩
              have HQ := Lib.hid hqq
              clear hqq
              go_wp2_with fail
              refine (SetSubset_is hi i_s HQ.out).mono ?_; rintro e w_ ⟨rfl, rfl⟩
              go_wp2_with fail
              go_round
              case rel => exact ⟨j + 1, by omega, by go_num, by rw [hst.out, hq, HQ.out]; rfl⟩
              case measure => simp [intOf]; omega
            · go_wp2_with fail
              go_round
              case rel => exact ⟨j + 1, by omega, by go_num, by rw [hst.out, hq]; rfl⟩
              case measure => simp [intOf]; omega
          · obtain rfl : j = n1 := by omega
            obtain ⟨q, hqq⟩ : ∃ q, anySub f s = q := ⟨_, rfl⟩
            have hfin := Lib.hid (show anySub (f.take j) s = q from by rw [List.take_of_length_le (by rw [hl.out]; exact Nat.le_refl _), hqq])
            have HQ := Lib.hid (HH.out.trans hqq)
            clear hqq
            rw [hfin.out]
            go_wp2_with fail
            refine (HasQuorum_v f_v i_s HQ.out).mono ?_; rintro e w_ ⟨rfl, e1⟩
            replace he := he.trans e1
            clear e1
            go_wp2_with fail
            go_roundw
            case rel => exact ⟨k + 1, by omega, by go_num, he⟩
            case measure => simp [intOf]; omega
      · obtain rfl : k = 4 := by omega
        have hlI : (n_v : Int) ≤ (n1 : Int) := by
          have := hlen.out; rw [f_v.len, hl.out] at this; omega
        go_wp2_with fail
        refine (FamilyValid_is f_v.1 hval.out).mono ?_; rintro e w9 ⟨rfl, e9⟩
        go_wp2_with fail
        go_ret
        exact ⟨rfl, HE.out.trans (he.trans e9)⟩
end Go.Proofs.Ytnlmcbilhfmenaa
