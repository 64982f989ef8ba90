/- The walk of laws.FnWeightsFamily: it returns true. Condition: the arguments are slices of bytes. -/
import Derived.Test.YtjciinaboooeoaaRD
import Derived.Test.YtjciinaboooeoaaCG
import Derived.Test.YtjciinaboooeoaaD3
import Derived.Test.YtjciinaboooeoaaC4
import Derived.Test.YtjciinaboooeoaaF8
import Derived.Test.YtjciinaboooeoaaRV
namespace Go.Proofs.Ytjciinaboooeoaa
open Go.RowKit
set_option linter.unusedVariables false

set_option maxHeartbeats 2000000 in
theorem FnWeightsFamily_walk {a : Option Addr} {n c : Nat} {a' : Option Addr} {n' c' : Nat} {w : World} (h : Bytes w a n c) (h' : Bytes w a' n' c') :
    Calls Try.prog 9 #[.slice a n c, .slice a' n' c'] w fun e w' => e = .returned (.bool true) ∧ Ext none w w' := by
  clear h'
  rcases Nat.lt_or_ge 1048576 n with hl | hl
  · have hlI : (1048576 : Int) < (n : Int) := by omega
    go_enter Try.func9, Try.ntmps9
    go_wp2_with fail
    go_ret
    exact ⟨rfl, Ext.refl _ _⟩
  have hlI : ¬ (1048576 : Int) < (n : Int) := by omega
  rcases Nat.lt_or_ge 1048576 n' with hl' | hl'
  · have hlI' : (1048576 : Int) < (n' : Int) := by omega
    go_enter Try.func9, Try.ntmps9
    go_wp2_with fail
    go_ret
    exact ⟨rfl, Ext.refl _ _⟩
  have hlI' : ¬ (1048576 : Int) < (n' : Int) := by omega
  go_enter Try.func9, Try.ntmps9
  go_wp2_with fail
  refine (DrawWeightsFamily_any h).mono ?_; rintro e w_ ⟨a1, n1, c1, ws, need, rfl, hi, hq0, hq14, he⟩
  clear h
  cases hk : okW ws need
  · skip
    go_wp2_with fail
    refine (sWeightsFamily_v hi hk).mono ?_; rintro e w_u ⟨a_u, n_u, c_u, rfl, f_u, e_u⟩
    replace hi := hi.ext e_u
    replace he := he.trans e_u
    clear e_u
    go_wp2_with fail
    refine (WeightsFamily_v hi hk).mono ?_; rintro e w_v ⟨a_v, n_v, c_v, rfl, f_v, e_v⟩
    replace hi := hi.ext e_v
    replace f_u := f_u.ext e_v
    replace he := he.trans e_v
    clear e_v
    go_wp2_with fail
    refine (sameSets_v f_v f_u).mono ?_; rintro e w_ ⟨rfl, d_⟩
    replace f_u := f_u.ext d_.ext
    replace f_v := f_v.ext d_.ext
    replace he := he.trans d_.ext
    clear d_
    go_wp2_with fail
    refine (sameSets_v f_v f_u).mono ?_; rintro e w_ ⟨rfl, d_⟩
    replace he := he.trans d_.ext
    clear d_
    go_wp2_with fail
    go_ret
    exact ⟨rfl, he⟩
  · have hhas := Lib.hid (fun q : Int => wFamL_has hk (setN_lt q))
    have hsum := Lib.hid (fun q : Int => wSumL_yes (okW_parts hk).1 (setN_lt q))
    have hval := Lib.hid (wFamL_fam hk)
    have hne := wFamL_ne hk
    go_wp2_with fail
    refine (sWeightsFamily_v hi hk).mono ?_; rintro e w_u ⟨a_u, n_u, c_u, rfl, f_u, e_u⟩
    replace hi := hi.ext e_u
    replace he := he.trans e_u
    clear e_u
    go_wp2_with fail
    refine (WeightsFamily_v hi hk).mono ?_; rintro e w_v ⟨a_v, n_v, c_v, rfl, f_v, e_v⟩
    replace hi := hi.ext e_v
    replace f_u := f_u.ext e_v
    replace he := he.trans e_v
    clear e_v
    go_wp2_with fail
    refine (sameSets_v f_v f_u).mono ?_; rintro e w_ ⟨rfl, d_⟩
    replace hi := hi.ext d_.ext
    replace f_v := f_v.ext d_.ext
    replace he := he.trans d_.ext
    clear d_
    have hpos : 0 < n_v := by
      have h1 := f_v.len
      have h2 : (wFamL ws need).length ≠ 0 := fun e => hne (List.eq_nil_of_length_eq_zero e)
      omega
    have HPOS := Lib.hid hpos
    clear hpos hne f_u
    go_wp2_with fail
    obtain ⟨wl, hwl⟩ : ∃ x, x = w_ := ⟨_, rfl⟩
    rw [← hwl] at hi f_v he ⊢
    clear hwl
    go_loopw [11] (fun i wr => ∃ k : Nat, k ≤ 4 ∧ i = .int .i64 (k : Nat) ∧ Ext none wl wr)
      (fun i _ => 4 - (intOf i).toNat)
    case atStart => exact ⟨0, by omega, rfl, Ext.refl _ _⟩
    case round =>
      obtain ⟨k, hk4, rfl, hx⟩ := hrel
      replace hi := hi.ext hx
      replace f_v := f_v.ext hx
      have HE := Lib.hid he
      replace he := hx
      clear hx
      by_cases hlt : k < 4
      · have hltI : (k : Int) < 4 := by omega
        have hq0 : (0 : Int) ≤ (n' : Int) + (k : Int) * 29 := by omega
        have hq1 : (n' : Int) + (k : Int) * 29 ≤ 2000000 := by omega
        have HH := Lib.hid (hhas.out ((n' : Int) + (k : Int) * 29))
        have HS := Lib.hid (hsum.out ((n' : Int) + (k : Int) * 29))
        go_wp2_with fail
        refine (setOf_any hq0 hq1).mono ?_; rintro e w_s ⟨a_s, n_s, c_s, rfl, o_s, e_s⟩
        have i_s := o_s.ints
        replace hi := hi.ext e_s
        replace f_v := f_v.ext e_s
        replace he := he.trans e_s
        clear o_s e_s
        obtain ⟨x, hxx⟩ : ∃ x, x = setN ((n' : Int) + (k : Int) * 29) := ⟨_, rfl⟩
        rw [← hxx] at i_s HH HS
        clear hxx
        obtain ⟨V, hV⟩ : ∃ V, sumW ws x = V := ⟨_, rfl⟩
        have HV := Lib.hid (HS.out.trans hV)
        by_cases hle : need ≤ V
        all_goals
          first
            | (have HQ := Lib.hid (show hasL (wFamL ws need) (mem x) = true from by rw [HH.out]; unfold enough; rw [hV, decide_eq_true hle]))
            | (have HQ := Lib.hid (show hasL (wFamL ws need) (mem x) = false from by rw [HH.out]; unfold enough; rw [hV, decide_eq_false hle]))
          clear hV
          go_wp2_with fail
          refine (HasQuorum_v f_v i_s HQ.out).mono ?_; rintro e w_ ⟨rfl, e1⟩
          replace hi := hi.ext e1
          replace i_s := i_s.ext e1
          replace he := he.trans e1
          clear e1
          go_wp2_with fail
          refine (WeightsSum_is hi i_s HV.out).mono ?_; rintro e w_ ⟨rfl, e1⟩
          replace he := he.trans e1
          clear e1
          go_wp2_with fail
          go_roundw
          case rel => exact ⟨k + 1, by omega, by go_num, he⟩
          case measure => simp [intOf]; omega
      · obtain rfl : k = 4 := by omega
        go_wp2_with fail
        refine (FamilyValid_is f_v.1 hval.out).mono ?_; rintro e w9 ⟨rfl, e9⟩
        go_wp2_with fail
        go_ret
        exact ⟨retB (decide_eq_true HPOS.out).symm, HE.out.trans (he.trans e9)⟩
end Go.Proofs.Ytjciinaboooeoaa
