/- The member sets of package spec: what each function of l1_memberset.go computes. Conditions: each lemma's own. -/
import Derived.Test.YtnifgfnhcjhodaaDoorPW
import Derived.Test.YtnifgfnhcjhodaaDoorPM
namespace Go.Proofs.YtnifgfnhcjhodaaDoor
open Go.RowKit
set_option linter.unusedVariables false

def inB (n lo hi : Int) : Bool := decide (lo ≤ n) && decide (n ≤ hi)


set_option maxHeartbeats 400000 in
theorem l6In_any {n lo hi : Int} {w : World} :
    Calls Tryd.prog 48 #[.int .i64 n, .int .i64 lo, .int .i64 hi] w fun e w' => e = .returned (.bool (inB n lo hi)) ∧ w = w' := by
  unfold inB
  by_cases h1 : lo ≤ n <;> by_cases h2 : n ≤ hi
  all_goals
    go_enter Tryd.func48, Tryd.ntmps48
    go_wp2_with fail
    go_ret
    exact ⟨by simp [h1, h2], rfl⟩



set_option maxHeartbeats 1000000 in
theorem sSetValid_any {a : Option Addr} {n cp : Nat} {xs : List Int} {w : World} (h : Ints w a n xs) :
    Calls Tryd.prog 34 #[.slice a n cp] w fun e w' => e = .returned (.bool (valid xs)) ∧ Dr w w' := by
  have hm := h.max
  go_enter Tryd.func34, Tryd.ntmps34
  go_wp2_with fail
  go_loopw [3] (fun i wr => ∃ k : Nat, k ≤ n ∧ i = .int .i64 k ∧ valid (xs.take k) = true ∧ Dr w wr)
    (fun i _ => n - (intOf i).toNat)
  case atStart => exact ⟨0, by omega, rfl, rfl, Dr.refl _⟩
  case round =>
    obtain ⟨k, hk, rfl, hv, hw⟩ := hrel
    replace h := h.ext hw.ext
    have hV := Lib.hid hv
    clear hv
    by_cases hlt : k < n
    · have hltI : (k : Int) < (n : Int) := by omega
      obtain ⟨b, off, rfl, hc⟩ := h.cell hlt
      have hl : k < xs.length := by rw [h.len]; exact hlt
      have hst := Lib.hid (valid_step xs k hl hV.out)
      obtain ⟨x, hxx⟩ : ∃ x, x = xs.getD k 0 := ⟨_, rfl⟩
      rw [← hxx] at hc
      have HX := Lib.hid hxx
      clear hxx
      cases hi : inB x 1 6
      · have hno := Lib.hid (show valid xs = false from valid_no (k := k + 1) (by rw [hst.out]; unfold stepOk; rw [← HX.out, show isM x = inB x 1 6 from rfl, hi]; rfl))
        go_wp2_with fail
        go_quiet ((go_at_call 48; exact quietS (l6In_any)))
        go_wp2_with fail
        go_ret
        exact ⟨by rw [hno.out]; rfl, hw.drewN _⟩
      · have h12 : 1 ≤ x ∧ x ≤ 6 := by simpa [inB] using hi
        obtain ⟨h1, h2⟩ := h12
        by_cases h0 : 0 < k
        · have hc0 := h.cellAt (k := k - 1) (by omega)
          obtain ⟨y, hyy⟩ : ∃ y, y = xs.getD (k - 1) 0 := ⟨_, rfl⟩
          rw [← hyy] at hc0
          have HY := Lib.hid hyy
          clear hyy
          by_cases hyx : y < x
          · have hok := Lib.hid (show valid (xs.take (k + 1)) = true from by
              rw [hst.out]; unfold stepOk; rw [← HX.out, ← HY.out, show isM x = inB x 1 6 from rfl, hi]; simp [hyx])
            go_wp2_with fail
            go_quiet ((go_at_call 48; exact quietS (l6In_any)))
            go_wp2_with fail
            go_roundw
            case rel => exact ⟨k + 1, by omega, by go_num, hok.out, hw.drewN _⟩
            case measure => simp [intOf]; omega
          · have hno := Lib.hid (show valid xs = false from valid_no (k := k + 1) (by
              rw [hst.out]; unfold stepOk; rw [← HX.out, ← HY.out, show isM x = inB x 1 6 from rfl, hi]; simp [hyx]; omega))
            go_wp2_with fail
            go_quiet ((go_at_call 48; exact quietS (l6In_any)))
            go_wp2_with fail
            go_ret
            exact ⟨by rw [hno.out]; rfl, hw.drewN _⟩
        · have hok := Lib.hid (show valid (xs.take (k + 1)) = true from by
              rw [hst.out]; unfold stepOk; rw [← HX.out, show isM x = inB x 1 6 from rfl, hi]; simp; omega)
          go_wp2_with fail
          go_quiet ((go_at_call 48; exact quietS (l6In_any)))
          go_wp2_with fail
          go_roundw
          case rel => exact ⟨k + 1, by omega, by go_num, hok.out, hw.drewN _⟩
          case measure => simp [intOf]; omega
    · obtain rfl : k = n := by omega
      have hfin := Lib.hid (show xs.take k = xs from List.take_of_length_le (by rw [h.len]; omega))
      go_wp2_with fail
      go_ret
      have hv := hV.out
      rw [hfin.out] at hv
      exact ⟨by rw [hv]; rfl, hw⟩



set_option maxHeartbeats 400000 in
theorem l1Contains_any {a : Option Addr} {n cp : Nat} {xs : List Int} {m : Int} {w : World} (h : Ints w a n xs) :
    Calls Tryd.prog 37 #[.slice a n cp, .int .i64 m] w fun e w' => e = .returned (.bool (cont xs m)) ∧ w = w' := by
  have hm := h.max
  go_enter Tryd.func37, Tryd.ntmps37
  go_wp2_with fail
  go_loop [5] (fun i => ∃ k : Nat, k ≤ n ∧ i = .int .i64 k ∧ cont (xs.take k) m = false)
    (fun i => n - (intOf i).toNat)
  case atStart => exact ⟨0, by omega, rfl, rfl⟩
  case round =>
    obtain ⟨k, hk, rfl, hv⟩ := hrel
    have hV := Lib.hid hv
    clear hv
    by_cases hlt : k < n
    · obtain ⟨b, off, rfl, hc⟩ := h.cell hlt
      have hl : k < xs.length := by rw [h.len]; exact hlt
      have hst := Lib.hid (show cont (xs.take (k + 1)) m = (xs.getD k 0 == m) from by rw [take_snoc xs k hl, cont_snoc, hV.out]; rfl)
      obtain ⟨x, hxx⟩ : ∃ x, x = xs.getD k 0 := ⟨_, rfl⟩
      rw [← hxx] at hc
      have HX := Lib.hid hxx
      clear hxx
      cases hi : (x == m)
      · go_wp2_with fail
        go_round
        case rel => exact ⟨k + 1, by omega, by go_num, by rw [hst.out, ← HX.out]; exact hi⟩
        case measure => simp [intOf]; omega
      · have hin := Lib.hid (show cont xs m = true from cont_take (k := k + 1) (by rw [hst.out, ← HX.out]; exact hi))
        go_wp2_with fail
        go_ret
        exact ⟨by rw [hin.out]; rfl, rfl⟩
    · obtain rfl : k = n := by omega
      have hfin := Lib.hid (show xs.take k = xs from List.take_of_length_le (by rw [h.len]; omega))
      go_wp2_with fail
      go_ret
      have hv := hV.out
      rw [hfin.out] at hv
      exact ⟨by rw [hv]; rfl, rfl⟩



set_option maxHeartbeats 400000 in
theorem l1Subset_any {a : Option Addr} {n cp : Nat} {xs : List Int} {b : Option Addr} {m cq : Nat} {ys : List Int} {w : World} (h : Ints w a n xs) (hy : Ints w b m ys) :
    Calls Tryd.prog 36 #[.slice a n cp, .slice b m cq] w fun e w' => e = .returned (.bool (subB xs ys)) ∧ w = w' := by
  have hm := h.max
  go_enter Tryd.func36, Tryd.ntmps36
  go_wp2_with fail
  go_loop [5] (fun i => ∃ k : Nat, k ≤ n ∧ i = .int .i64 k ∧ subB (xs.take k) ys = true)
    (fun i => n - (intOf i).toNat)
  case atStart => exact ⟨0, by omega, rfl, rfl⟩
  case round =>
    obtain ⟨k, hk, rfl, hv⟩ := hrel
    have hV := Lib.hid hv
    clear hv
    by_cases hlt : k < n
    · obtain ⟨b, off, rfl, hc⟩ := h.cell hlt
      have hl : k < xs.length := by rw [h.len]; exact hlt
      have hst := Lib.hid (show subB (xs.take (k + 1)) ys = cont ys (xs.getD k 0) from by rw [take_snoc xs k hl, subB_snoc, hV.out]; rfl)
      obtain ⟨x, hxx⟩ : ∃ x, x = xs.getD k 0 := ⟨_, rfl⟩
      rw [← hxx] at hc
      have HX := Lib.hid hxx
      clear hxx
      go_wp2_with fail
      refine (l1Contains_any hy).mono ?_; rintro e w' ⟨rfl, rfl⟩
      cases ht : cont ys x
      · have hin := Lib.hid (show subB xs ys = false from subB_no hl (by rw [← HX.out]; exact ht))
        go_wp2_with fail
        go_ret
        exact ⟨by rw [hin.out]; rfl, rfl⟩
      · go_wp2_with fail
        go_round
        case rel => exact ⟨k + 1, by omega, by go_num, by rw [hst.out, ← HX.out]; exact ht⟩
        case measure => simp [intOf]; omega
    · obtain rfl : k = n := by omega
      have hfin := Lib.hid (show xs.take k = xs from List.take_of_length_le (by rw [h.len]; omega))
      go_wp2_with fail
      go_ret
      have hv := hV.out
      rw [hfin.out] at hv
      exact ⟨by rw [hv]; rfl, rfl⟩



end Go.Proofs.YtnifgfnhcjhodaaDoor
