/- The member sets of package spec: what each function of l1_memberset.go computes. Conditions: each lemma's own. -/
import Derived.Test.YtnifgfnhcjhodaaPW
import Derived.Test.YtnifgfnhcjhodaaPM
namespace Go.Proofs.Ytnifgfnhcjhodaa
open Go.RowKit
set_option linter.unusedVariables false

def inB (n lo hi : Int) : Bool := decide (lo ≤ n) && decide (n ≤ hi)


set_option maxHeartbeats 400000 in
theorem l6In_any {n lo hi : Int} {w : World} :
    Calls Try.prog 55 #[.int .i64 n, .int .i64 lo, .int .i64 hi] w fun e w' => e = .returned (.bool (inB n lo hi)) ∧ w = w' := by
  unfold inB
  by_cases h1 : lo ≤ n <;> by_cases h2 : n ≤ hi
  all_goals
    go_enter Try.func55, Try.ntmps55
    go_wp2_with fail
    go_ret
    exact ⟨by simp [h1, h2], rfl⟩



set_option maxHeartbeats 1000000 in
theorem sSetValid_any {a : Option Addr} {n cp : Nat} {xs : List Int} {w : World} (h : Ints w a n xs) :
    Calls Try.prog 35 #[.slice a n cp] w fun e w' => e = .returned (.bool (valid xs)) ∧ Dr w w' := by
  have hm := h.max
  go_enter Try.func35, Try.ntmps35
  go_wp2_with fail
  go_loopw [3] (fun i wr => ∃ k : Nat, k ≤ n ∧ i = .int .i64 k ∧ valid (xs.take k) = true ∧ Dr w wr)
    (fun i _ => n - (intOf i).toNat)
  case atStart => exact ⟨0, by omega, rfl, rfl, Dr.refl _⟩
  case round =>
    obtain ⟨k, hk, rfl, hv, hw⟩ := hrel
    replace h := h.ext hw.ext
    have hV := Lib.hid hv
    clear hv
    by_cases hlt : k < n
    · have hltI : (k : Int) < (n : Int) := by omega
      obtain ⟨b, off, rfl, hc⟩ := h.cell hlt
      have hl : k < xs.length := by rw [h.len]; exact hlt
      have hst := Lib.hid (valid_step xs k hl hV.out)
      obtain ⟨x, hxx⟩ : ∃ x, x = xs.getD k 0 := ⟨_, rfl⟩
      rw [← hxx] at hc
      have HX := Lib.hid hxx
      clear hxx
      cases hi : inB x 1 6
      · have hno := Lib.hid (show valid xs = false from valid_no (k := k + 1) (by rw [hst.out]; unfold stepOk; rw [← HX.out, show isM x = inB x 1 6 from rfl, hi]; rfl))
        go_wp2_with fail
        go_quiet ((go_at_call 55; exact quietS (l6In_any)))
        go_wp2_with fail
        go_ret
        exact ⟨by rw [hno.out]; rfl, hw.drewN _⟩
      · have h12 : 1 ≤ x ∧ x ≤ 6 := by simpa [inB] using hi
        obtain ⟨h1, h2⟩ := h12
        by_cases h0 : 0 < k
        · have hc0 := h.cellAt (k := k - 1) (by omega)
          obtain ⟨y, hyy⟩ : ∃ y, y = xs.getD (k - 1) 0 := ⟨_, rfl⟩
          rw [← hyy] at hc0
          have HY := Lib.hid hyy
          clear hyy
          by_cases hyx : y < x
          · have hok := Lib.hid (show valid (xs.take (k + 1)) = true from by
              rw [hst.out]; unfold stepOk; rw [← HX.out, ← HY.out, show isM x = inB x 1 6 from rfl, hi]; simp [hyx])
            go_wp2_with fail
            go_quiet ((go_at_call 55; exact quietS (l6In_any)))
            go_wp2_with fail
            go_roundw
            case rel => exact ⟨k + 1, by omega, by go_num, hok.out, hw.drewN _⟩
            case measure => simp [intOf]; omega
          · have hno := Lib.hid (show valid xs = false from valid_no (k := k + 1) (by
              rw [hst.out]; unfold stepOk; rw [← HX.out, ← HY.out, show isM x = inB x 1 6 from rfl, hi]; simp [hyx]; omega))
            go_wp2_with fail
            go_quiet ((go_at_call 55; exact quietS (l6In_any)))
            go_wp2_with fail
            go_ret
            exact ⟨by rw [hno.out]; rfl, hw.drewN _⟩
        · have hok := Lib.hid (show valid (xs.take (k + 1)) = true from by
              rw [hst.out]; unfold stepOk; rw [← HX.out, show isM x = inB x 1 6 from rfl, hi]; simp; omega)
          go_wp2_with fail
          go_quiet ((go_at_call 55; exact quietS (l6In_any)))
          go_wp2_with fail
          go_roundw
          case rel => exact ⟨k + 1, by omega, by go_num, hok.out, hw.drewN _⟩
          case measure => simp [intOf]; omega
    · obtain rfl : k = n := by omega
      have hfin := Lib.hid (show xs.take k = xs from List.take_of_length_le (by rw [h.len]; omega))
      go_wp2_with fail
      go_ret
      have hv := hV.out
      rw [hfin.out] at hv
      exact ⟨by rw [hv]; rfl, hw⟩



set_option maxHeartbeats 400000 in
theorem l1Contains_any {a : Option Addr} {n cp : Nat} {xs : List Int} {m : Int} {w : World} (h : Ints w a n xs) :
    Calls Try.prog 45 #[.slice a n cp, .int .i64 m] w fun e w' => e = .returned (.bool (cont xs m)) ∧ w = w' := by
  have hm := h.max
  go_enter Try.func45, Try.ntmps45
  go_wp2_with fail
  go_loop [5] (fun i => ∃ k : Nat, k ≤ n ∧ i = .int .i64 k ∧ cont (xs.take k) m = false)
    (fun i => n - (intOf i).toNat)
  case atStart => exact ⟨0, by omega, rfl, rfl⟩
  case round =>
    obtain ⟨k, hk, rfl, hv⟩ := hrel
    have hV := Lib.hid hv
    clear hv
    by_cases hlt : k < n
    · obtain ⟨b, off, rfl, hc⟩ := h.cell hlt
      have hl : k < xs.length := by rw [h.len]; exact hlt
      have hst := Lib.hid (show cont (xs.take (k + 1)) m = (xs.getD k 0 == m) from by rw [take_snoc xs k hl, cont_snoc, hV.out]; rfl)
      obtain ⟨x, hxx⟩ : ∃ x, x = xs.getD k 0 := ⟨_, rfl⟩
      rw [← hxx] at hc
      have HX := Lib.hid hxx
      clear hxx
      cases hi : (x == m)
      · go_wp2_with fail
        go_round
        case rel => exact ⟨k + 1, by omega, by go_num, by rw [hst.out, ← HX.out]; exact hi⟩
        case measure => simp [intOf]; omega
      · have hin := Lib.hid (show cont xs m = true from cont_take (k := k + 1) (by rw [hst.out, ← HX.out]; exact hi))
        go_wp2_with fail
        go_ret
        exact ⟨by rw [hin.out]; rfl, rfl⟩
    · obtain rfl : k = n := by omega
      have hfin := Lib.hid (show xs.take k = xs from List.take_of_length_le (by rw [h.len]; omega))
      go_wp2_with fail
      go_ret
      have hv := hV.out
      rw [hfin.out] at hv
      exact ⟨by rw [hv]; rfl, rfl⟩



set_option maxHeartbeats 400000 in
theorem l1Subset_any {a : Option Addr} {n cp : Nat} {xs : List Int} {b : Option Addr} {m cq : Nat} {ys : List Int} {w : World} (h : Ints w a n xs) (hy : Ints w b m ys) :
    Calls Try.prog 37 #[.slice a n cp, .slice b m cq] w fun e w' => e = .returned (.bool (subB xs ys)) ∧ w = w' := by
  have hm := h.max
  go_enter Try.func37, Try.ntmps37
  go_wp2_with fail
  go_loop [5] (fun i => ∃ k : Nat, k ≤ n ∧ i = .int .i64 k ∧ subB (xs.take k) ys = true)
    (fun i => n - (intOf i).toNat)
  case atStart => exact ⟨0, by omega, rfl, rfl⟩
  case round =>
    obtain ⟨k, hk, rfl, hv⟩ := hrel
    have hV := Lib.hid hv
    clear hv
    by_cases hlt : k < n
    · obtain ⟨b, off, rfl, hc⟩ := h.cell hlt
      have hl : k < xs.length := by rw [h.len]; exact hlt
      have hst := Lib.hid (show subB (xs.take (k + 1)) ys = cont ys (xs.getD k 0) from by rw [take_snoc xs k hl, subB_snoc, hV.out]; rfl)
      obtain ⟨x, hxx⟩ : ∃ x, x = xs.getD k 0 := ⟨_, rfl⟩
      rw [← hxx] at hc
      have HX := Lib.hid hxx
      clear hxx
      go_wp2_with fail
      refine (l1Contains_any hy).mono ?_; rintro e w' ⟨rfl, rfl⟩
      cases ht : cont ys x
      · have hin := Lib.hid (show subB xs ys = false from subB_no hl (by rw [← HX.out]; exact ht))
        go_wp2_with fail
        go_ret
        exact ⟨by rw [hin.out]; rfl, rfl⟩
      · go_wp2_with fail
        go_round
        case rel => exact ⟨k + 1, by omega, by go_num, by rw [hst.out, ← HX.out]; exact ht⟩
        case measure => simp [intOf]; omega
    · obtain rfl : k = n := by omega
      have hfin := Lib.hid (show xs.take k = xs from List.take_of_length_le (by rw [h.len]; omega))
      go_wp2_with fail
      go_ret
      have hv := hV.out
      rw [hfin.out] at hv
      exact ⟨by rw [hv]; rfl, rfl⟩



set_option maxHeartbeats 1000000 in
theorem l1Intersect_any {a : Option Addr} {n cp : Nat} {xs : List Int} {b : Option Addr} {m cq : Nat} {ys : List Int} {w : World} (h : Ints w a n xs) (hy : Ints w b m ys) (hn : n < 1000000) :
    Calls Try.prog 30 #[.slice a n cp, .slice b m cq] w (RI w none (intB xs ys)) := by
  go_enter Try.func30, Try.ntmps30
  go_wp2_with fail
  go_loopw [5, 6] (fun v i wr => ∃ (k : Nat) (a2 : Option Addr) (n2 c2 : Nat), k ≤ n ∧ i = .int .i64 k ∧ v = .slice a2 n2 c2 ∧ n2 ≤ k ∧ OwnI wr w.heap.size a2 n2 c2 (intB (xs.take k) ys) ∧ Ext none w wr)
    (fun _ i _ => n - (intOf i).toNat)
  case atStart => exact ⟨0, _, 0, 0, by omega, rfl, rfl, by omega, OwnI.made w, (Ext.refl _ _).alloc _⟩
  case round =>
    obtain ⟨k, a2, n2, c2, hk, rfl, rfl, hn2, ho, hx⟩ := hrel
    replace h := h.ext hx
    replace hy := hy.ext hx
    by_cases hlt : k < n
    · obtain ⟨b, off, rfl, hc⟩ := h.cell hlt
      have hl : k < xs.length := by rw [h.len]; exact hlt
      have hst := Lib.hid (intB_step xs ys k hl)
      obtain ⟨x, hxx⟩ : ∃ x, x = xs.getD k 0 := ⟨_, rfl⟩
      rw [← hxx] at hc
      have HX := Lib.hid hxx
      clear hxx
      go_wp2_with fail
      refine (l1Contains_any hy).mono ?_; rintro e w' ⟨rfl, rfl⟩
      cases ht : cont ys x
      · go_wp2_with fail
        go_roundw
        case rel => exact ⟨k + 1, a2, n2, c2, by omega, by go_num, rfl, by omega, by rw [hst.out, ← HX.out, ht]; exact ho, hx⟩
        case measure => simp [intOf]; omega
      · go_wp2_with (at_builtin; refine app_int _ rfl _ _ rfl w.heap.size a2 n2 c2 _ ho _ rfl rfl (by omega) hx.size ?_; intro g c' w1 hown1 hg1)
        go_roundw
        case rel => exact ⟨k + 1, _, _, _, by omega, by go_num, rfl, by omega, by rw [hst.out, ← HX.out, ht]; exact hown1, hx.grown hg1 (fun j hj => .inl (ho.block j hj))⟩
        case measure => simp [intOf]; omega
    · obtain rfl : k = n := by omega
      have hfin := Lib.hid (show xs.take k = xs from List.take_of_length_le (by rw [h.len]; omega))
      go_wp2_with fail
      go_ret
      rw [hfin.out] at ho
      exact ⟨_, _, _, rfl, ho, hx⟩

end Go.Proofs.Ytnifgfnhcjhodaa
