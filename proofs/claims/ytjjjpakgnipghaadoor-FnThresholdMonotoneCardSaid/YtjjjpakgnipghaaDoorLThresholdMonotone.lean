/- The walk of laws.FnThresholdMonotone: it returns true. Condition: the arguments are slices of bytes. -/
import Derived.Test.YtjjjpakgnipghaaDoorK2
import Derived.Test.YtjjjpakgnipghaaDoorRJ
import Derived.Test.YtjjjpakgnipghaaDoorD6
namespace Go.Proofs.YtjjjpakgnipghaaDoor
open Go.RowKit
set_option linter.unusedVariables false

set_option maxRecDepth 20000 in
set_option maxHeartbeats 2000000 in
theorem FnThresholdMonotone_walk {a : Option Addr} {n c : Nat} {a' : Option Addr} {n' c' : Nat} {w : World} (h : Bytes w a n c) (h' : Bytes w a' n' c') :
    Calls Tryd.prog 3 #[.slice a n c, .slice a' n' c'] w fun e w' => e = .returned (.bool true) ∧ Ext none w w' := by
  clear h'
  rcases Nat.lt_or_ge 1048576 n with hl | hl
  · have hlI : (1048576 : Int) < (n : Int) := by omega
    go_enter Tryd.func3, Tryd.ntmps3
    go_wp2_with fail
    go_ret
    exact ⟨rfl, Ext.refl _ _⟩
  have hlI : ¬ (1048576 : Int) < (n : Int) := by omega
  rcases Nat.lt_or_ge 1048576 n' with hl' | hl'
  · have hlI' : (1048576 : Int) < (n' : Int) := by omega
    go_enter Tryd.func3, Tryd.ntmps3
    go_wp2_with fail
    go_ret
    exact ⟨rfl, Ext.refl _ _⟩
  have hlI' : ¬ (1048576 : Int) < (n' : Int) := by omega
  go_enter Tryd.func3, Tryd.ntmps3
  go_wp2_with fail
  refine (DrawExprThreshold_any h).mono ?_; rintro e w_ ⟨k, a1, n1, c1, xs, rfl, hk0, hk7, ia, he⟩
  clear h
  cases hq : okTh k xs
  · have hno := Lib.hid (show bs (thrL k xs) = { data := #[] } from by rw [thr_no hq]; rfl)
    have HQ := Lib.hid hq
    clear hq
    go_wp2_with fail
    refine (sExprThreshold_is ia HQ.out).mono ?_; rintro e w_ ⟨rfl, e1⟩
    replace ia := ia.ext e1
    replace he := he.trans e1
    clear e1
    go_wp2_with fail
    refine (ExprThreshold_is ia HQ.out).mono ?_; rintro e w_ ⟨rfl, e1⟩
    replace he := he.trans e1
    clear e1
    rw [hno.out]
    go_wp2_with fail
    go_ret
    exact ⟨rfl, he⟩
  · have HQ := Lib.hid hq
    obtain ⟨D, hD⟩ : ∃ D, D = bs (thrL k xs) := ⟨_, rfl⟩
    have hb : byt D = thrL k xs := by rw [hD, byt_bs]
    have hD9 : D.size ≤ 9223372036854775807 := by rw [hD, bs_size, thr_yes hq]; have := thr_len hq; omega
    have HD := Lib.hid hD
    have HB := Lib.hid hb
    clear hq hD hb
    go_wp2_with fail
    refine (sExprThreshold_is ia HQ.out).mono ?_; rintro e w_ ⟨rfl, e1⟩
    replace ia := ia.ext e1
    replace he := he.trans e1
    clear e1
    go_wp2_with fail
    refine (ExprThreshold_is ia HQ.out).mono ?_; rintro e w_ ⟨rfl, e1⟩
    replace ia := ia.ext e1
    replace he := he.trans e1
    clear e1
    rw [← HD.out]
    go_wp2_with fail
    refine (setOf_any (by omega) (by omega)).mono ?_; rintro e w_z ⟨a_z, n_z, c_z, rfl, o_z, e_z⟩
    have i_z := o_z.ints
    replace ia := ia.ext e_z
    replace he := he.trans e_z
    clear o_z e_z
    have HV := Lib.hid (mem_valid (setN_lt (n' : Int)))
    obtain ⟨t, ht⟩ : ∃ t, t = mem (setN (n' : Int)) := ⟨_, rfl⟩
    rw [← ht] at i_z HV
    clear ht
    go_wp2_with fail
    obtain ⟨wl, hwl⟩ : ∃ x, x = w_z := ⟨_, rfl⟩
    rw [← hwl] at ia i_z he ⊢
    clear hwl
    have IA := Lib.hid ia
    have IZ := Lib.hid i_z
    clear ia i_z
    go_loopw [12] (fun i wr => ∃ j : Int, 1 ≤ j ∧ j ≤ 8 ∧ i = .int .i64 j ∧ Ext none wl wr)
      (fun i _ => (k + 1 - intOf i).toNat)
    case atStart => exact ⟨1, by omega, by omega, rfl, Ext.refl _ _⟩
    case round =>
      obtain ⟨j, hj1, hj8, rfl, hx⟩ := hrel
      by_cases hjk : j ≤ k
      · have hq2 := okTh_low HQ.out hj1 hjk
        have HQ2 := Lib.hid hq2
        obtain ⟨G, hG⟩ : ∃ G, G = bs (thrL j xs) := ⟨_, rfl⟩
        have hbG : byt G = thrL j xs := by rw [hG, byt_bs]
        have hG9 : G.size ≤ 9223372036854775807 := by rw [hG, bs_size, thr_yes hq2]; have := thr_len hq2; omega
        have HG := Lib.hid hG
        have hmono := Lib.hid (show satisfiedE (byt D) t = true → satisfiedE (byt G) t = true from fun hs => by
          rw [HB.out] at hs; rw [hbG]; exact thr_mono HQ.out hj1 hjk HV.out hs)
        clear hq2 hG hbG
        go_wp2_with fail
        refine (ExprThreshold_is (IA.out.ext hx) HQ2.out).mono ?_; rintro e w4 ⟨rfl, e4⟩
        rw [← HG.out]
        have hx4 := hx.trans e4
        clear hx e4
        cases hs : satisfiedE (byt D) t
        · have HS := Lib.hid hs
          clear hs
          go_wp2_with fail
          refine (ExprSatisfied_is hD9 (IZ.out.ext hx4) HS.out).mono ?_; rintro e w5 ⟨rfl, e5⟩
          have hx5 := hx4.trans e5
          go_wp2_with fail
          go_roundw
          case rel => exact ⟨j + 1, by omega, by omega, by go_num, hx5⟩
          case measure => simp [intOf]; omega
        · have HS2 := Lib.hid (hmono.out hs)
          have HS := Lib.hid hs
          clear hs
          go_wp2_with fail
          refine (ExprSatisfied_is hD9 (IZ.out.ext hx4) HS.out).mono ?_; rintro e w5 ⟨rfl, e5⟩
          have hx5 := hx4.trans e5
          go_wp2_with fail
          refine (ExprSatisfied_is hG9 (IZ.out.ext hx5) HS2.out).mono ?_; rintro e w6 ⟨rfl, e6⟩
          have hx6 := hx5.trans e6
          go_wp2_with fail
          go_roundw
          case rel => exact ⟨j + 1, by omega, by omega, by go_num, hx6⟩
          case measure => simp [intOf]; omega
      · go_wp2_with fail
        go_ret
        exact ⟨rfl, he.trans hx⟩
end Go.Proofs.YtjjjpakgnipghaaDoor
