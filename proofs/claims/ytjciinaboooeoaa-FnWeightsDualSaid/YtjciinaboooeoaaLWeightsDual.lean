/- The walk of laws.FnWeightsDual: it returns true. Condition: the argument is a slice of bytes. -/
import Derived.Test.YtjciinaboooeoaaRD
import Derived.Test.YtjciinaboooeoaaCG
import Derived.Test.YtjciinaboooeoaaD3
import Derived.Test.YtjciinaboooeoaaC4
import Derived.Test.YtjciinaboooeoaaF8
import Derived.Test.YtjciinaboooeoaaRV
namespace Go.Proofs.Ytjciinaboooeoaa
open Go.RowKit
set_option linter.unusedVariables false

set_option maxRecDepth 20000 in
set_option maxHeartbeats 2000000 in
theorem FnWeightsDual_walk {a : Option Addr} {n c : Nat} {w : World} (h : Bytes w a n c) :
    Calls Try.prog 13 #[.slice a n c] w fun e w' => e = .returned (.bool true) ∧ Ext none w w' := by
  rcases Nat.lt_or_ge 1048576 n with hl | hl
  · have hlI : (1048576 : Int) < (n : Int) := by omega
    go_enter Try.func13, Try.ntmps13
    go_wp2_with fail
    go_ret
    exact ⟨rfl, Ext.refl _ _⟩
  have hlI : ¬ (1048576 : Int) < (n : Int) := by omega
  go_enter Try.func13, Try.ntmps13
  go_wp2_with fail
  refine (DrawWeightsFamily_any h).mono ?_; rintro e w_ ⟨a1, n1, c1, ws, need, rfl, hi, hq0, hq14, he⟩
  clear h
  cases hk : okW ws need
  · skip
    go_wp2_with fail
    refine (sWeightsFamily_v hi hk).mono ?_; rintro e w_u ⟨a_u, n_u, c_u, rfl, f_u, e_u⟩
    replace hi := hi.ext e_u
    replace he := he.trans e_u
    clear e_u
    go_wp2_with fail
    refine (WeightsFamily_v hi hk).mono ?_; rintro e w_v ⟨a_v, n_v, c_v, rfl, f_v, e_v⟩
    replace hi := hi.ext e_v
    replace f_u := f_u.ext e_v
    replace he := he.trans e_v
    clear e_v
    go_wp2_with fail
    refine (sameSets_v f_v f_u).mono ?_; rintro e w_ ⟨rfl, d_⟩
    replace f_u := f_u.ext d_.ext
    replace f_v := f_v.ext d_.ext
    replace he := he.trans d_.ext
    clear d_
    go_wp2_with fail
    refine (sameSets_v f_v f_u).mono ?_; rintro e w_ ⟨rfl, d_⟩
    replace he := he.trans d_.ext
    clear d_
    go_wp2_with fail
    go_ret
    exact ⟨rfl, he⟩
  · have hw := (okW_parts hk).1
    have hk3 := dual_okW hk
    obtain ⟨S, hS⟩ : ∃ S, sumW ws 63 = S := ⟨_, rfl⟩
    have hSb := sumW_bd hw 63
    rw [hS] at hSb hk3
    have hmeet := Lib.hid (fun i (hi : i < (wFamL ws need).length) k (hk2 : k < (wFamL ws (S - need + 1)).length) => votes_meet hk hk3 (by rw [hS]; omega) hi hk2)
    have hfull := Lib.hid (show wSumL ws (mem 63) = S from by rw [wSumL_yes hw (by decide), hS])
    have HK3 := Lib.hid hk3
    clear hS hk3
    go_wp2_with fail
    refine (sWeightsFamily_v hi hk).mono ?_; rintro e w_u ⟨a_u, n_u, c_u, rfl, f_u, e_u⟩
    replace hi := hi.ext e_u
    replace he := he.trans e_u
    clear e_u
    go_wp2_with fail
    refine (WeightsFamily_v hi hk).mono ?_; rintro e w_v ⟨a_v, n_v, c_v, rfl, f_v, e_v⟩
    replace hi := hi.ext e_v
    replace f_u := f_u.ext e_v
    replace he := he.trans e_v
    clear e_v
    go_wp2_with fail
    refine (sameSets_v f_v f_u).mono ?_; rintro e w_ ⟨rfl, d_⟩
    replace hi := hi.ext d_.ext
    replace f_v := f_v.ext d_.ext
    replace he := he.trans d_.ext
    clear d_
    go_wp2_with fail
    refine (allMembers_any).mono ?_; rintro e w_m ⟨a_m, n_m, c_m, rfl, o_m, e_m⟩
    have i_m := o_m.ints
    replace hi := hi.ext e_m
    replace f_v := f_v.ext e_m
    replace he := he.trans e_m
    clear o_m e_m
    go_wp2_with fail
    refine (WeightsSum_is hi i_m hfull.out).mono ?_; rintro e w_ ⟨rfl, e1⟩
    replace hi := hi.ext e1
    replace f_v := f_v.ext e1
    replace he := he.trans e1
    clear e1
    go_wp2_with fail
    refine (WeightsFamily_v hi HK3.out).mono ?_; rintro e w_x ⟨a_x, n_x, c_x, rfl, f_x, e_x⟩
    replace f_v := f_v.ext e_x
    replace he := he.trans e_x
    clear e_x
    have hlx := Lib.hid f_x.len
    have hmx := f_x.max
    have hlv := Lib.hid f_v.len
    have hmv := f_v.max
    go_wp2_with fail
    obtain ⟨wl, hwl⟩ : ∃ x, x = w_x := ⟨_, rfl⟩
    rw [← hwl] at f_v f_x he ⊢
    clear hwl
    have HV := Lib.hid f_v
    have HX := Lib.hid f_x
    clear f_v f_x hi
    go_loopw [12] (fun i wr => ∃ k : Nat, k ≤ n_v ∧ i = .int .i64 (k : Nat) ∧ Ext none wl wr)
      (fun i _ => n_v - (intOf i).toNat)
    case atStart => exact ⟨0, by omega, rfl, Ext.refl _ _⟩
    case round =>
      obtain ⟨k, hk2, rfl, hx⟩ := hrel
      by_cases hlt : k < n_v
      · have hltI : (k : Int) < (n_v : Int) := by omega
        go_wp2_with fail
        obtain ⟨wo, hwo⟩ : ∃ x, x = wr := ⟨_, rfl⟩
        rw [← hwo] at hx ⊢
        clear hwo
        go_loopw [13] (fun i wr => ∃ j : Nat, j ≤ n_x ∧ i = .int .i64 (j : Nat) ∧ Ext none wo wr)
          (fun i _ => n_x - (intOf i).toNat)
        case atStart => exact ⟨0, by omega, rfl, Ext.refl _ _⟩
        case round =>
          obtain ⟨j, hj, rfl, hy⟩ := hrel
          by_cases hjt : j < n_x
          · have hjtI : (j : Int) < (n_x : Int) := by omega
            obtain ⟨b3, off3, a3, n3, c3, rfl, hc3, hi3⟩ := ((HV.out.ext hx).ext hy).cell hlt
            obtain ⟨b5, off5, a4, n4, c4, rfl, hc4, hi4⟩ := ((HX.out.ext hx).ext hy).cell hjt
            -- (show ∃ a4 n4 c4, wr.cell? ⟨b5, off5 + j, none⟩ = some (.slice a4 n4 c4) ∧ Ints wr a4 n4 ((wFamL ws (S - need + 1)).getD j []) from ..)
            have HM := Lib.hid (hmeet.out k (by rw [hlv.out]; exact hlt) j (by rw [hlx.out]; exact hjt))
            have hdr : Ext none wr wr.drew := (Ext.refl _ _).drew
            have i3 := Lib.hid (hi3.ext hdr)
            have i4 := Lib.hid (hi4.ext hdr)
            clear hi3 hi4
            go_wp2_with fail
            go_region_law (go_simp; go_at_call 20; refine (SetIntersect_any i3.out i4.out).mono ?_; rintro e w5 ⟨a5, n5, c5, rfl, o5, e5⟩; have hn5 : ((n5 : Int) == 0) = false := (by rw [beq_eq_false_iff_ne]; have h1 := o5.len; have h2 := HM.out; omega); have E5 := Lib.hid (hy.trans (hdr.trans e5)); clear o5 e5)
            all_goals
              go_wp2_with fail
              go_roundw
              case rel => exact ⟨j + 1, by omega, by go_num, E5.out⟩
              case measure => simp [intOf]; omega
          · obtain rfl : j = n_x := by omega
            go_wp2_with fail
            go_roundw
            case rel => exact ⟨k + 1, by omega, by go_num, hx.trans hy⟩
            case measure => simp [intOf]; omega
      · obtain rfl : k = n_v := by omega
        go_wp2_with fail
        go_ret
        exact ⟨rfl, he.trans hx⟩
end Go.Proofs.Ytjciinaboooeoaa
