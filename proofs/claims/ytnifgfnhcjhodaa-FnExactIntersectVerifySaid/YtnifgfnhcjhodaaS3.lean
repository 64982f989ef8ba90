/- The weighted votes of package spec. Conditions: each lemma's own. -/
import Derived.Test.YtnifgfnhcjhodaaS2
import Derived.Test.YtnifgfnhcjhodaaPM
namespace Go.Proofs.Ytnifgfnhcjhodaa
open Go.RowKit
set_option linter.unusedVariables false


set_option maxHeartbeats 1000000 in
theorem sWeightsValid_any {a : Option Addr} {n cp : Nat} {xs : List Int} {w : World} (h : Ints w a n xs) :
    Calls Try.prog 92 #[.slice a n cp] w fun e w' => e = .returned (.bool (valW xs)) ∧ w = w' := by
  have hm := h.max
  go_enter Try.func92, Try.ntmps92
  go_wp2_with fail
  go_loop [3] (fun i => ∃ k : Nat, k ≤ n ∧ i = .int .i64 k ∧ allV (xs.take k) = true)
    (fun i => n - (intOf i).toNat)
  case atStart => exact ⟨0, by omega, rfl, rfl⟩
  case round =>
    obtain ⟨k, hk, rfl, hv⟩ := hrel
    have hV := Lib.hid hv
    clear hv
    by_cases hlt : k < n
    · obtain ⟨b, off, rfl, hc⟩ := h.cell hlt
      have hl : k < xs.length := by rw [h.len]; exact hlt
      have hst := Lib.hid (allV_step xs k hl hV.out)
      obtain ⟨x, hxx⟩ : ∃ x, x = xs.getD k 0 := ⟨_, rfl⟩
      rw [← hxx] at hc
      have HX := Lib.hid hxx
      clear hxx
      go_wp2_with fail
      refine (l6In_any).mono ?_; rintro e w_ ⟨rfl, rfl⟩
      cases hi : inB x 0 9
      · have hno := Lib.hid (show valW xs = false from by
          unfold valW; rw [allV_no (k := k + 1) (by rw [hst.out, ← HX.out]; exact hi)]; rfl)
        go_wp2_with fail
        go_ret
        exact ⟨by rw [hno.out]; rfl, rfl⟩
      · go_wp2_with fail
        go_round
        case rel => exact ⟨k + 1, by omega, by go_num, by rw [hst.out, ← HX.out]; exact hi⟩
        case measure => simp [intOf]; omega
    · obtain rfl : k = n := by omega
      have hfin := Lib.hid (show xs.take k = xs from List.take_of_length_le (by rw [h.len]; omega))
      have hv := hV.out
      rw [hfin.out] at hv
      have HV := Lib.hid (show inB k 1 6 = valW xs from by
        unfold valW inB; rw [hv, h.len, Bool.true_and, Bool.eq_iff_iff]
        simp only [Bool.and_eq_true, decide_eq_true_eq]; omega)
      clear hv
      go_wp2_with fail
      refine (l6In_any).mono ?_; rintro e w_ ⟨rfl, rfl⟩
      go_wp2_with fail
      go_ret
      exact ⟨by rw [← HV.out]; rfl, rfl⟩



set_option maxHeartbeats 1000000 in
theorem l4Sum_any {a : Option Addr} {n cp : Nat} {ws : List Int} {b : Option Addr} {m cq : Nat} {s : List Int} {w : World} (h : Ints w a n ws) (hs : Ints w b m s) (hw : valW ws = true) (hv : valid s = true) :
    Calls Try.prog 93 #[.slice a n cp, .slice b m cq] w fun e w' => e = .returned (.int .i64 (sumW ws (mask s))) ∧ w = w' := by
  have hfin := Lib.hid (sumS_valid hw hv)
  have hall := Lib.hid (valW_all hw)
  have hn6 := (valW_len hw).2
  rw [h.len] at hn6
  have hm6 := valid_len hv
  rw [hs.len] at hm6
  have HV := Lib.hid hv
  clear hw hv
  go_enter Try.func93, Try.ntmps93
  go_wp2_with fail
  go_loop [5, 6] (fun q i => ∃ k : Nat, k ≤ m ∧ i = .int .i64 k ∧ q = .int .i64 (sumS ws (s.take k)))
    (fun _ i => m - (intOf i).toNat)
  case atStart => exact ⟨0, by omega, rfl, rfl⟩
  case round =>
    obtain ⟨k, hk, rfl, rfl⟩ := hrel
    have hb := sumS_bd hall.out (s.take k)
    have htl : (s.take k).length ≤ k := List.length_take_le _ _
    by_cases hlt : k < m
    · obtain ⟨b1, off, rfl, hc⟩ := hs.cell hlt
      have hl : k < s.length := by rw [hs.len]; exact hlt
      have hst := Lib.hid (sumS_step ws s k hl)
      have hg := valid_get HV.out k hl
      obtain ⟨x, hxx⟩ : ∃ x, x = s.getD k 0 := ⟨_, rfl⟩
      rw [← hxx] at hc hg
      have HX := Lib.hid hxx
      clear hxx
      obtain ⟨q, hqq⟩ : ∃ q, q = sumS ws (s.take k) := ⟨_, rfl⟩
      rw [← hqq] at hb ⊢
      have HQ := Lib.hid hqq
      clear hqq
      have hq2 : q ≤ 54 := by omega
      obtain ⟨j, hj⟩ := Int.eq_ofNat_of_zero_le (show 0 ≤ x - 1 by omega)
      obtain rfl : x = (j : Int) + 1 := by omega
      clear hj htl
      by_cases hle : j < n
      · obtain ⟨b2, off2, rfl, hc2⟩ := h.cell hle
        have hgv := allV_get hall.out j
        obtain ⟨y, hyy⟩ : ∃ y, y = ws.getD j 0 := ⟨_, rfl⟩
        rw [← hyy] at hc2 hgv
        have HY := Lib.hid hyy
        clear hyy
        have hleI : (j : Int) + 1 ≤ (n : Int) := by omega
        have hend := Lib.hid (show sumS ws (s.take (k + 1)) = q + y from by
          rw [hst.out, ← HX.out, ← HQ.out, if_pos (by rw [h.len]; exact hleI), HY.out]; simp)
        go_wp2_with fail
        go_round
        case rel => exact ⟨k + 1, by omega, by go_num, by rw [hend.out]⟩
        case measure => simp [intOf]; omega
      · have hleI : ¬ (j : Int) + 1 ≤ (n : Int) := by omega
        have hend := Lib.hid (show sumS ws (s.take (k + 1)) = q from by
          rw [hst.out, ← HX.out, ← HQ.out, if_neg (by rw [h.len]; exact hleI)]; simp)
        go_wp2_with fail
        go_round
        case rel => exact ⟨k + 1, by omega, by go_num, by rw [hend.out]⟩
        case measure => simp [intOf]; omega
    · obtain rfl : k = m := by omega
      have ht := Lib.hid (show s.take k = s from List.take_of_length_le (by rw [hs.len]; omega))
      go_wp2_with fail
      go_ret
      exact ⟨by rw [← hfin.out, ht.out]; rfl, rfl⟩



end Go.Proofs.Ytnifgfnhcjhodaa
