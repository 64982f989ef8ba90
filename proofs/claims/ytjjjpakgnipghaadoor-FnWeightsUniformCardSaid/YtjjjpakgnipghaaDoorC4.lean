/- The weighted votes of package impl. Conditions: each lemma's own. -/
import Derived.Test.YtjjjpakgnipghaaDoorPB
import Derived.Test.YtjjjpakgnipghaaDoorPM
namespace Go.Proofs.YtjjjpakgnipghaaDoor
open Go.RowKit
set_option linter.unusedVariables false


set_option maxHeartbeats 1000000 in
theorem WeightsValid_any {a : Option Addr} {n cp : Nat} {xs : List Int} {w : World} (h : Ints w a n xs) :
    Calls Tryd.prog 45 #[.slice a n cp] w fun e w' => e = .returned (.bool (valW xs)) ∧ w = w' := by
  have hm := h.max
  go_enter Tryd.func45, Tryd.ntmps45
  go_wp2_with fail
  go_loop [7] (fun i => ∃ k : Nat, k ≤ n ∧ i = .int .i64 k ∧ allV (xs.take k) = true)
    (fun i => n - (intOf i).toNat)
  case atStart => exact ⟨0, by omega, rfl, rfl⟩
  case round =>
    obtain ⟨k, hk, rfl, hv⟩ := hrel
    have hV := Lib.hid hv
    clear hv
    by_cases hlt : k < n
    · obtain ⟨b, off, rfl, hc⟩ := h.cell hlt
      have hl : k < xs.length := by rw [h.len]; exact hlt
      have hst := Lib.hid (allV_step xs k hl hV.out)
      obtain ⟨x, hxx⟩ : ∃ x, x = xs.getD k 0 := ⟨_, rfl⟩
      rw [← hxx] at hc
      have HX := Lib.hid hxx
      clear hxx
      by_cases hx0 : x < 0
      · have hno := Lib.hid (show valW xs = false from by
          unfold valW; rw [allV_no (k := k + 1) (by rw [hst.out, ← HX.out]; simp only [okV, Bool.and_eq_false_iff, decide_eq_false_iff_not]; omega)]; rfl)
        go_wp2_with fail
        go_ret
        exact ⟨by rw [hno.out]; rfl, rfl⟩
      · by_cases hx9 : 9 < x
        · have hno := Lib.hid (show valW xs = false from by
            unfold valW; rw [allV_no (k := k + 1) (by rw [hst.out, ← HX.out]; simp only [okV, Bool.and_eq_false_iff, decide_eq_false_iff_not]; omega)]; rfl)
          go_wp2_with fail
          go_ret
          exact ⟨by rw [hno.out]; rfl, rfl⟩
        · go_wp2_with fail
          go_round
          case rel => exact ⟨k + 1, by omega, by go_num, by rw [hst.out, ← HX.out]; simp only [okV, Bool.and_eq_true, decide_eq_true_eq]; omega⟩
          case measure => simp [intOf]; omega
    · obtain rfl : k = n := by omega
      have hfin := Lib.hid (show xs.take k = xs from List.take_of_length_le (by rw [h.len]; omega))
      have hv := hV.out
      rw [hfin.out] at hv
      have HV := Lib.hid (show valW xs = (decide (1 ≤ k) && decide (k ≤ 6)) from by unfold valW; rw [hv, h.len]; rfl)
      clear hv
      rcases (show k < 1 ∨ (1 ≤ k ∧ k ≤ 6) ∨ 6 < k from by omega) with h1 | ⟨h1, h6⟩ | h6
      all_goals
        go_wp2_with fail
        go_ret
        exact ⟨congrArg (fun b => Ending.returned (.bool b)) (by rw [HV.out, Bool.eq_iff_iff]; first | (simp; done) | (simp; omega)), rfl⟩



set_option maxHeartbeats 1000000 in
theorem boxSum_any {c : Nat} {a : Option Addr} {n cp : Nat} {xs : List Int} {w : World} (h : Ints w a n xs) (hc : c < 64) (hv : valW xs = true) :
    Calls Tryd.prog 46 #[.agg #[.int .u64 c, .slice a n cp]] w fun e w' => e = .returned (.int .i64 (sumW xs c)) ∧ Ext none w w' := by
  have hall := Lib.hid (valW_all hv)
  have hlen := (valW_len hv).2
  rw [h.len] at hlen
  clear hv
  have h' := h.ext ((Ext.refl none w).alloc (.cells #[.int .u64 c, .slice a n cp] 77))
  go_enter Tryd.func46, Tryd.ntmps46
  go_wp2_with fail
  go_loop [3, 9] (fun s i => ∃ k : Nat, k ≤ n ∧ i = .int .i64 k ∧ s = .int .i64 (sumTo xs c k))
    (fun _ i => n - (intOf i).toNat)
  case atStart => exact ⟨0, by omega, rfl, rfl⟩
  case round =>
    obtain ⟨k, hk, rfl, rfl⟩ := hrel
    have hb := sumTo_bd hall.out c k
    by_cases hlt : k < n
    · obtain ⟨b, off, rfl, hcell⟩ := h'.cell hlt
      have hg := allV_get hall.out k
      obtain ⟨x, hxx⟩ : ∃ x, x = xs.getD k 0 := ⟨_, rfl⟩
      rw [← hxx] at hcell hg
      obtain ⟨s, hss⟩ : ∃ s, s = sumTo xs c k := ⟨_, rfl⟩
      rw [← hss] at hb ⊢
      have hst := Lib.hid (show sumTo xs c (k + 1) = s + (if has c ((k : Int) + 1) then x else 0) from by rw [hss, hxx]; rfl)
      clear hxx hss
      go_wp2_with (go_at_call 55; refine (has_any hc).mono ?_; rintro e w' ⟨rfl, rfl⟩)
      · have hh : has c ((k : Int) + 1) = true := by assumption
        go_round
        case rel => exact ⟨k + 1, by omega, by go_num, by rw [hst.out, hh]; rfl⟩
        case measure => simp [intOf]; omega
      · have hh : has c ((k : Int) + 1) = false := by assumption
        go_round
        case rel => exact ⟨k + 1, by omega, by go_num, by rw [hst.out, hh]; simp⟩
        case measure => simp [intOf]; omega
    · obtain rfl : k = n := by omega
      have hl := Lib.hid h.len
      go_wp2_with fail
      go_ret
      exact ⟨by unfold sumW; rw [hl.out]; rfl, (Ext.refl _ _).alloc _⟩



end Go.Proofs.YtjjjpakgnipghaaDoor
