/- The walk of laws.FnMajorityMeets: it returns true. Condition: the argument is a slice of bytes. -/
import Derived.Test.YtjciinaboooeoaaRD
import Derived.Test.YtjciinaboooeoaaCG
import Derived.Test.YtjciinaboooeoaaD3
import Derived.Test.YtjciinaboooeoaaC4
import Derived.Test.YtjciinaboooeoaaF8
import Derived.Test.YtjciinaboooeoaaRV
namespace Go.Proofs.Ytjciinaboooeoaa
open Go.RowKit
set_option linter.unusedVariables false

set_option maxRecDepth 20000 in
set_option maxHeartbeats 2000000 in
theorem FnMajorityMeets_walk {a : Option Addr} {n c : Nat} {w : World} (h : Bytes w a n c) :
    Calls Try.prog 11 #[.slice a n c] w fun e w' => e = .returned (.bool true) ∧ Ext none w w' := by
  rcases Nat.lt_or_ge 1048576 n with hl | hl
  · have hlI : (1048576 : Int) < (n : Int) := by omega
    go_enter Try.func11, Try.ntmps11
    go_wp2_with fail
    go_ret
    exact ⟨rfl, Ext.refl _ _⟩
  have hlI : ¬ (1048576 : Int) < (n : Int) := by omega
  go_enter Try.func11, Try.ntmps11
  go_wp2_with fail
  refine (DrawWeightsFamily_any h).mono ?_; rintro e w_ ⟨a1, n1, c1, ws, need, rfl, hi, hq0, hq14, he⟩
  clear h
  cases hk : okW ws need
  · skip
    go_wp2_with fail
    refine (sWeightsFamily_v hi hk).mono ?_; rintro e w_u ⟨a_u, n_u, c_u, rfl, f_u, e_u⟩
    replace hi := hi.ext e_u
    replace he := he.trans e_u
    clear e_u
    go_wp2_with fail
    refine (WeightsFamily_v hi hk).mono ?_; rintro e w_v ⟨a_v, n_v, c_v, rfl, f_v, e_v⟩
    replace hi := hi.ext e_v
    replace f_u := f_u.ext e_v
    replace he := he.trans e_v
    clear e_v
    go_wp2_with fail
    refine (sameSets_v f_v f_u).mono ?_; rintro e w_ ⟨rfl, d_⟩
    replace f_u := f_u.ext d_.ext
    replace f_v := f_v.ext d_.ext
    replace he := he.trans d_.ext
    clear d_
    go_wp2_with fail
    refine (sameSets_v f_v f_u).mono ?_; rintro e w_ ⟨rfl, d_⟩
    replace he := he.trans d_.ext
    clear d_
    go_wp2_with fail
    go_ret
    exact ⟨rfl, he⟩
  · have hmb := majL_bd ws
    obtain ⟨M, hM⟩ : ∃ M, majL ws = M := ⟨_, rfl⟩
    have HM0 := Lib.hid hM
    have hmeet := Lib.hid (fun (h2 : ¬ need < M) i (hi : i < (wFamL ws need).length) k (hk2 : k < (wFamL ws need).length) => votes_meet hk hk (maj_twice hk (by rw [hM]; exact h2)) hi hk2)
    rw [hM] at hmb
    clear hM
    go_wp2_with fail
    refine (sWeightsFamily_v hi hk).mono ?_; rintro e w_u ⟨a_u, n_u, c_u, rfl, f_u, e_u⟩
    replace hi := hi.ext e_u
    replace he := he.trans e_u
    clear e_u
    go_wp2_with fail
    refine (WeightsFamily_v hi hk).mono ?_; rintro e w_v ⟨a_v, n_v, c_v, rfl, f_v, e_v⟩
    replace hi := hi.ext e_v
    replace f_u := f_u.ext e_v
    replace he := he.trans e_v
    clear e_v
    go_wp2_with fail
    refine (sameSets_v f_v f_u).mono ?_; rintro e w_ ⟨rfl, d_⟩
    replace hi := hi.ext d_.ext
    replace f_v := f_v.ext d_.ext
    replace he := he.trans d_.ext
    clear d_
    by_cases hlow : need < M
    · skip
      go_wp2_with fail
      refine (WeightsMajority_is hi HM0.out).mono ?_; rintro e w_ ⟨rfl, e1⟩
      replace he := he.trans e1
      clear e1
      go_wp2_with fail
      go_ret
      exact ⟨rfl, he⟩
    have HL := Lib.hid hlow
    go_wp2_with fail
    refine (WeightsMajority_is hi HM0.out).mono ?_; rintro e w_ ⟨rfl, e1⟩
    replace f_v := f_v.ext e1
    replace he := he.trans e1
    clear e1
    have hlv := Lib.hid f_v.len
    have hmv := f_v.max
    go_wp2_with fail
    obtain ⟨wl, hwl⟩ : ∃ x, x = w_ := ⟨_, rfl⟩
    rw [← hwl] at f_v he ⊢
    clear hwl
    have HV := Lib.hid f_v
    clear f_v hi
    go_loopw [9] (fun i wr => ∃ k : Nat, k ≤ n_v ∧ i = .int .i64 (k : Nat) ∧ Ext none wl wr)
      (fun i _ => n_v - (intOf i).toNat)
    case atStart => exact ⟨0, by omega, rfl, Ext.refl _ _⟩
    case round =>
      obtain ⟨k, hk2, rfl, hx⟩ := hrel
      by_cases hlt : k < n_v
      · have hltI : (k : Int) < (n_v : Int) := by omega
        go_wp2_with fail
        obtain ⟨wo, hwo⟩ : ∃ x, x = wr := ⟨_, rfl⟩
        rw [← hwo] at hx ⊢
        clear hwo
        go_loopw [10] (fun i wr => ∃ j : Nat, j ≤ k ∧ i = .int .i64 (j : Nat) ∧ Ext none wo wr)
          (fun i _ => k - (intOf i).toNat)
        case atStart => exact ⟨0, by omega, rfl, Ext.refl _ _⟩
        case round =>
          obtain ⟨j, hj, rfl, hy⟩ := hrel
          by_cases hjt : j < k
          · have hjtI : (j : Int) < (k : Int) := by omega
            have hjv : j < n_v := by omega
            have hjvI : (j : Int) < (n_v : Int) := by omega
            obtain ⟨b3, off3, a3, n3, c3, rfl, hc3, hi3⟩ := ((HV.out.ext hx).ext hy).cell hlt
            obtain ⟨a4, n4, c4, hc4, hi4⟩ := ((HV.out.ext hx).ext hy).1.cellAt (show j < n_v by omega)
            have HM := Lib.hid (hmeet.out HL.out k (by rw [hlv.out]; exact hlt) j (by rw [hlv.out]; omega))
            have hdr : Ext none wr wr.drew := (Ext.refl _ _).drew
            have i3 := Lib.hid (hi3.ext hdr)
            have i4 := Lib.hid (hi4.ext hdr)
            clear hi3 hi4
            go_wp2_with fail
            go_region_law (go_simp; go_at_call 20; refine (SetIntersect_any i3.out i4.out).mono ?_; rintro e w5 ⟨a5, n5, c5, rfl, o5, e5⟩; have hn5 : ((n5 : Int) == 0) = false := (by rw [beq_eq_false_iff_ne]; have h1 := o5.len; have h2 := HM.out; omega); have E5 := Lib.hid (hy.trans (hdr.trans e5)); clear o5 e5)
            all_goals
              go_wp2_with fail
              go_roundw
              case rel => exact ⟨j + 1, by omega, by go_num, E5.out⟩
              case measure => simp [intOf]; omega
          · obtain rfl : j = k := by omega
            go_wp2_with fail
            go_roundw
            case rel => exact ⟨j + 1, by omega, by go_num, hx.trans hy⟩
            case measure => simp [intOf]; omega
      · obtain rfl : k = n_v := by omega
        go_wp2_with fail
        go_ret
        exact ⟨rfl, he.trans hx⟩
end Go.Proofs.Ytjciinaboooeoaa
