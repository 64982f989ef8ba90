/- The walk of laws.FnWeightsMore: it returns true. Condition: the argument is a slice of bytes. -/
import Derived.Test.YtjciinaboooeoaaRD
import Derived.Test.YtjciinaboooeoaaCG
import Derived.Test.YtjciinaboooeoaaD3
import Derived.Test.YtjciinaboooeoaaC4
import Derived.Test.YtjciinaboooeoaaF8
import Derived.Test.YtjciinaboooeoaaRV
namespace Go.Proofs.Ytjciinaboooeoaa
open Go.RowKit
set_option linter.unusedVariables false

set_option maxHeartbeats 2000000 in
theorem FnWeightsMore_walk {a : Option Addr} {n c : Nat} {w : World} (h : Bytes w a n c) :
    Calls Try.prog 14 #[.slice a n c] w fun e w' => e = .returned (.bool true) ∧ Ext none w w' := by
  rcases Nat.lt_or_ge 1048576 n with hl | hl
  · have hlI : (1048576 : Int) < (n : Int) := by omega
    go_enter Try.func14, Try.ntmps14
    go_wp2_with fail
    go_ret
    exact ⟨rfl, Ext.refl _ _⟩
  have hlI : ¬ (1048576 : Int) < (n : Int) := by omega
  go_enter Try.func14, Try.ntmps14
  go_wp2_with fail
  refine (DrawWeightsFamily_any h).mono ?_; rintro e w_ ⟨a1, n1, c1, ws, need, rfl, hi, hq0, hq14, he⟩
  clear h
  cases hk : okW ws need
  · skip
    go_wp2_with fail
    refine (sWeightsFamily_v hi hk).mono ?_; rintro e w_u ⟨a_u, n_u, c_u, rfl, f_u, e_u⟩
    replace hi := hi.ext e_u
    replace he := he.trans e_u
    clear e_u
    go_wp2_with fail
    refine (WeightsFamily_v hi hk).mono ?_; rintro e w_v ⟨a_v, n_v, c_v, rfl, f_v, e_v⟩
    replace hi := hi.ext e_v
    replace f_u := f_u.ext e_v
    replace he := he.trans e_v
    clear e_v
    go_wp2_with fail
    refine (sameSets_v f_v f_u).mono ?_; rintro e w_ ⟨rfl, d_⟩
    replace f_u := f_u.ext d_.ext
    replace f_v := f_v.ext d_.ext
    replace he := he.trans d_.ext
    clear d_
    go_wp2_with fail
    refine (sameSets_v f_v f_u).mono ?_; rintro e w_ ⟨rfl, d_⟩
    replace he := he.trans d_.ext
    clear d_
    go_wp2_with fail
    go_ret
    exact ⟨rfl, he⟩
  · have hw := (okW_parts hk).1
    have hhas := Lib.hid (fun h2 i (hi : i < (wFamL ws (need + 1)).length) => more_has hk h2 hi)
    have hno := Lib.hid (fun h2 => more_no hk h2)
    have hfull := Lib.hid (show wSumL ws (mem 63) = sumW ws 63 from wSumL_yes hw (by decide))
    go_wp2_with fail
    refine (sWeightsFamily_v hi hk).mono ?_; rintro e w_u ⟨a_u, n_u, c_u, rfl, f_u, e_u⟩
    replace hi := hi.ext e_u
    replace he := he.trans e_u
    clear e_u
    go_wp2_with fail
    refine (WeightsFamily_v hi hk).mono ?_; rintro e w_v ⟨a_v, n_v, c_v, rfl, f_v, e_v⟩
    replace hi := hi.ext e_v
    replace f_u := f_u.ext e_v
    replace he := he.trans e_v
    clear e_v
    go_wp2_with fail
    refine (sameSets_v f_v f_u).mono ?_; rintro e w_ ⟨rfl, d_⟩
    replace hi := hi.ext d_.ext
    replace f_v := f_v.ext d_.ext
    replace he := he.trans d_.ext
    clear d_
    obtain ⟨q, hq⟩ : ∃ q, okW ws (need + 1) = q := ⟨_, rfl⟩
    have HQ := Lib.hid hq
    clear hq
    go_wp2_with fail
    refine (WeightsFamily_v hi HQ.out).mono ?_; rintro e w_x ⟨a_x, n_x, c_x, rfl, f_x, e_x⟩
    replace hi := hi.ext e_x
    replace f_v := f_v.ext e_x
    replace he := he.trans e_x
    clear e_x
    cases q
    · skip
      go_wp2_with fail
      refine (allMembers_any).mono ?_; rintro e w_m ⟨a_m, n_m, c_m, rfl, o_m, e_m⟩
      have i_m := o_m.ints
      replace hi := hi.ext e_m
      replace he := he.trans e_m
      clear o_m e_m
      have HF := Lib.hid (show wSumL ws (mem 63) = need from by rw [hfull.out, ← hno.out HQ.out])
      go_wp2_with fail
      refine (WeightsSum_is hi i_m HF.out).mono ?_; rintro e w_ ⟨rfl, e1⟩
      replace he := he.trans e1
      clear e1
      go_wp2_with fail
      go_ret
      exact ⟨rfl, he⟩
    · have hlx := Lib.hid f_x.len
      have hmx := f_x.max
      go_wp2_with fail
      obtain ⟨wl, hwl⟩ : ∃ x, x = w_x := ⟨_, rfl⟩
      rw [← hwl] at f_x f_v he ⊢
      clear hwl
      have HX := Lib.hid f_x
      have HV := Lib.hid f_v
      clear f_x f_v hi
      go_loopw [11] (fun i wr => ∃ k : Nat, k ≤ n_x ∧ i = .int .i64 (k : Nat) ∧ Ext none wl wr)
        (fun i _ => n_x - (intOf i).toNat)
      case atStart => exact ⟨0, by omega, rfl, Ext.refl _ _⟩
      case round =>
        obtain ⟨k, hk2, rfl, hx⟩ := hrel
        by_cases hlt : k < n_x
        · have hltI : (k : Int) < (n_x : Int) := by omega
          obtain ⟨b3, off3, a3, n3, c3, rfl, hc3, hi3⟩ := (HX.out.ext hx).cell hlt
          have HH := Lib.hid (hhas.out HQ.out k (by rw [hlx.out]; exact hlt))
          go_wp2_with fail
          refine (HasQuorum_v (HV.out.ext hx) hi3 HH.out).mono ?_; rintro e w4 ⟨rfl, e4⟩
          go_wp2_with fail
          go_roundw
          case rel => exact ⟨k + 1, by omega, by go_num, hx.trans e4⟩
          case measure => simp [intOf]; omega
        · obtain rfl : k = n_x := by omega
          go_wp2_with fail
          go_ret
          exact ⟨rfl, he.trans hx⟩
end Go.Proofs.Ytjciinaboooeoaa
