/- The member sets of package impl, second part: readSet and the exported functions of l1_memberset.go. Conditions: each lemma's own. -/
import Derived.Test.YtnlmcbilhfmenaaC1
namespace Go.Proofs.Ytnlmcbilhfmenaa
open Go.RowKit
set_option linter.unusedVariables false

theorem mask_or_lt {c : Nat} {m : Int} (hc : c < 64) (h1 : 1 ≤ m) (h2 : m ≤ 6) : c ||| bit m < 64 := by
  refine or_lt hc ?_
  have hm : m = 1 ∨ m = 2 ∨ m = 3 ∨ m = 4 ∨ m = 5 ∨ m = 6 := by omega
  rcases hm with rfl | rfl | rfl | rfl | rfl | rfl <;> decide

set_option maxHeartbeats 1000000 in
theorem readSet_any {a : Option Addr} {n cp : Nat} {xs : List Int} {w : World} (h : Ints w a n xs) :
    Calls Try.prog 66 #[.slice a n cp] w fun e w' => e = .returned (.tuple #[.int .u64 (rdC xs : Nat), .bool (valid xs)]) ∧ w = w' := by
  have hm := h.max
  go_enter Try.func66, Try.ntmps66
  go_wp2_with fail
  go_loop [4, 9] (fun c i => ∃ k : Nat, k ≤ n ∧ i = .int .i64 k ∧ valid (xs.take k) = true ∧ c = .int .u64 (mask (xs.take k) : Nat))
    (fun _ i => n - (intOf i).toNat)
  case atStart => exact ⟨0, by omega, rfl, rfl, rfl⟩
  case round =>
    obtain ⟨k, hk, rfl, hv, rfl⟩ := hrel
    have hV := Lib.hid hv
    clear hv
    by_cases hlt : k < n
    · obtain ⟨b, off, rfl, hc⟩ := h.cell hlt
      have hl : k < xs.length := by rw [h.len]; exact hlt
      have hst := Lib.hid (valid_step xs k hl hV.out)
      have hmk := Lib.hid (show mask (xs.take (k + 1)) = mask (xs.take k) ||| bit (xs.getD k 0) from by rw [take_snoc xs k hl, mask_snoc])
      have hm64 := mask_lt hV.out
      obtain ⟨x, hxx⟩ : ∃ x, x = xs.getD k 0 := ⟨_, rfl⟩
      rw [← hxx] at hc
      have HX := Lib.hid hxx
      clear hxx
      cases hi : isM x
      · have hno := Lib.hid (show valid xs = false from valid_no (k := k + 1) (by rw [hst.out]; unfold stepOk; rw [← HX.out, hi]; rfl))
        go_wp2_with (go_at_call 89; refine (isMember_any).mono ?_; rintro e w' ⟨rfl, rfl⟩)
        go_ret2
        exact ⟨by unfold rdC; rw [hno.out]; rfl, rfl⟩
      · have h12 : 1 ≤ x ∧ x ≤ 6 := by simpa [isM] using hi
        obtain ⟨h1, h2⟩ := h12
        by_cases h0 : 0 < k
        · have hc0 := h.cellAt (k := k - 1) (by omega)
          obtain ⟨y, hyy⟩ : ∃ y, y = xs.getD (k - 1) 0 := ⟨_, rfl⟩
          rw [← hyy] at hc0
          have HY := Lib.hid hyy
          clear hyy
          by_cases hyx : y < x
          · have hok := Lib.hid (show valid (xs.take (k + 1)) = true from by
              rw [hst.out]; unfold stepOk; rw [← HX.out, ← HY.out, hi]; simp [hyx])
            go_wp2_with (first
              | (go_at_call 89; refine (isMember_any).mono ?_; rintro e w' ⟨rfl, rfl⟩)
              | (go_at_call 90; refine (with_any h1 h2 hm64).mono ?_; rintro e w' ⟨rfl, rfl⟩))
            go_round
            case rel => exact ⟨k + 1, by omega, by go_num, hok.out, by rw [hmk.out, HX.out]⟩
            case measure => simp [intOf]; omega
          · have hno := Lib.hid (show valid xs = false from valid_no (k := k + 1) (by
              rw [hst.out]; unfold stepOk; rw [← HX.out, ← HY.out, hi]; simp [hyx]; omega))
            go_wp2_with (go_at_call 89; refine (isMember_any).mono ?_; rintro e w' ⟨rfl, rfl⟩)
            go_ret2
            exact ⟨by unfold rdC; rw [hno.out]; rfl, rfl⟩
        · have hok := Lib.hid (show valid (xs.take (k + 1)) = true from by
              rw [hst.out]; unfold stepOk; rw [← HX.out, hi]; simp; omega)
          go_wp2_with (first
              | (go_at_call 89; refine (isMember_any).mono ?_; rintro e w' ⟨rfl, rfl⟩)
              | (go_at_call 90; refine (with_any h1 h2 hm64).mono ?_; rintro e w' ⟨rfl, rfl⟩))
          go_round
          case rel => exact ⟨k + 1, by omega, by go_num, hok.out, by rw [hmk.out, HX.out]⟩
          case measure => simp [intOf]; omega
    · obtain rfl : k = n := by omega
      have hfin := Lib.hid (show xs.take k = xs from List.take_of_length_le (by rw [h.len]; omega))
      go_wp2_with fail
      go_ret2
      have hv := hV.out
      rw [hfin.out] at hv
      exact ⟨by unfold rdC; rw [hv, hfin.out]; rfl, rfl⟩

theorem rdC_yes {xs : List Int} (h : valid xs = true) : rdC xs = mask xs := by unfold rdC; rw [h]; rfl

set_option maxHeartbeats 400000 in
theorem SetValid_any {a : Option Addr} {n cp : Nat} {xs : List Int} {w : World} (h : Ints w a n xs) :
    Calls Try.prog 40 #[.slice a n cp] w fun e w' => e = .returned (.bool (valid xs)) ∧ w = w' := by
  go_enter Try.func40, Try.ntmps40
  go_wp2_with (go_at_call 66; refine (readSet_any h).mono ?_; rintro e w' ⟨rfl, rfl⟩)
  go_ret
  exact ⟨rfl, rfl⟩

set_option maxHeartbeats 400000 in
theorem SetContains_any {a : Option Addr} {n cp : Nat} {xs : List Int} {m : Int} {w : World} (h : Ints w a n xs) :
    Calls Try.prog 38 #[.slice a n cp, .int .i64 m] w fun e w' => e = .returned (.bool (containsL xs m)) ∧ w = w' := by
  have hc := rdC_lt xs
  cases hv : valid xs
  all_goals
    go_enter Try.func38, Try.ntmps38
    go_wp2_with (first
      | (go_at_call 66; refine (readSet_any h).mono ?_; rintro e w' ⟨rfl, rfl⟩)
      | (go_at_call 74; refine (has_any hc).mono ?_; rintro e w' ⟨rfl, rfl⟩))
    go_ret
    exact ⟨by simp [containsL, hv, rdC], rfl⟩

theorem bits_or (x y : Nat) (hx : x < 64) (hy : y < 64) : bits BinOp.or IntKind.u64 (↑x) (↑y) = ((x ||| y : Nat) : Int) := u64_or_nat x y (by omega) (by omega)
theorem bits_and (x y : Nat) (hx : x < 64) (hy : y < 64) : bits BinOp.and IntKind.u64 (↑x) (↑y) = ((x &&& y : Nat) : Int) := u64_and_nat x y (by omega) (by omega)
theorem bits_dif (x y : Nat) (hx : x < 64) (hy : y < 64) : bits BinOp.andNot IntKind.u64 (↑x) (↑y) = ((dif x y : Nat) : Int) := by
  rw [u64_andNot_nat x y (by omega) (by omega)]
  have : ∀ c < 64, ∀ d < 64, ((c &&& (18446744073709551615 - d) : Nat)) = dif c d := by decide +kernel
  rw [this x hx y hy]
theorem combinedUnion_lt (x y : Nat) (hx : x < 64) (hy : y < 64) : x ||| y < 64 := or_lt hx hy
theorem combinedIntersect_lt (x y : Nat) (hx : x < 64) (hy : y < 64) : x &&& y < 64 := and_lt hx
theorem combinedMinus_lt (x y : Nat) (hx : x < 64) (hy : y < 64) : dif x y < 64 := dif_lt hx


set_option maxHeartbeats 400000 in
theorem SetUnion_closure {x y : Nat} {w : World} (hx : x < 64) (hy : y < 64) : Calls Try.prog 73 #[.int .u64 x, .int .u64 y] w fun e w' => e = .returned (.int .u64 ((x ||| y : Nat) : Int)) ∧ w = w' := by
  have K := Lib.hid (bits_or x y hx hy)
  go_enter Try.func73, Try.ntmps73
  go_wp2_with fail
  go_ret
  exact ⟨congrArg (fun x => Ending.returned (.int .u64 x)) K.out, rfl⟩

set_option maxHeartbeats 1000000 in
theorem combinedUnion_any {a : Option Addr} {n cp : Nat} {xs : List Int} {b : Option Addr} {m cq : Nat} {ys : List Int} {w : World} (hx : Ints w a n xs) (hy : Ints w b m ys) :
    Calls Try.prog 69 #[.slice a n cp, .slice b m cq, .func (.func 73) #[] #[]] w (RI w none (unionL xs ys)) := by
  have h1 := rdC_lt xs
  have h2 := rdC_lt ys
  cases hv : valid xs <;> cases hu : valid ys
  case true.true =>
    have e := Lib.hid (show unionL xs ys = mem ((fun x y : Nat => (x ||| y : Nat)) (rdC xs) (rdC ys)) from by unfold unionL; rw [hv, hu, rdC_yes hv, rdC_yes hu]; rfl)
    have h3 := combinedUnion_lt _ _ h1 h2
    go_enter Try.func69, Try.ntmps69
    go_wp2_with fail
    refine (readSet_any hx).mono ?_; rintro e w' ⟨rfl, rfl⟩
    go_wp2_with fail
    refine (readSet_any hy).mono ?_; rintro e w' ⟨rfl, rfl⟩
    go_wp2_with fail
    refine (SetUnion_closure h1 h2).mono ?_; rintro e w' ⟨rfl, rfl⟩
    go_wp2_with fail
    refine (members_any h3).mono ?_; rintro e w' ⟨a1, n1, c1, rfl, ho, hx⟩
    go_wp2_with fail
    go_ret
    exact ⟨a1, n1, c1, rfl, by rw [e.out]; exact ho, hx⟩
  all_goals
    have e := Lib.hid (show unionL xs ys = [] from by unfold unionL; rw [hv, hu]; rfl)
    go_enter Try.func69, Try.ntmps69
    go_wp2_with fail
    refine (readSet_any hx).mono ?_; rintro e w' ⟨rfl, rfl⟩
    go_wp2_with fail
    refine (readSet_any hy).mono ?_; rintro e w' ⟨rfl, rfl⟩
    go_wp2_with fail
    go_ret
    exact ⟨none, 0, 0, rfl, by rw [e.out]; exact OwnI.nil _ _, Ext.refl _ _⟩

set_option maxHeartbeats 400000 in
theorem SetUnion_any {a : Option Addr} {n cp : Nat} {xs : List Int} {b : Option Addr} {m cq : Nat} {ys : List Int} {w : World} (hx : Ints w a n xs) (hy : Ints w b m ys) :
    Calls Try.prog 34 #[.slice a n cp, .slice b m cq] w (RI w none (unionL xs ys)) := by
  go_enter Try.func34, Try.ntmps34
  go_wp2_with fail
  refine (combinedUnion_any hx hy).mono ?_; rintro e w' ⟨a1, n1, c1, rfl, ho, hx⟩
  go_wp2_with fail
  go_ret
  exact ⟨a1, n1, c1, rfl, ho, hx⟩


set_option maxHeartbeats 400000 in
theorem SetIntersect_closure {x y : Nat} {w : World} (hx : x < 64) (hy : y < 64) : Calls Try.prog 78 #[.int .u64 x, .int .u64 y] w fun e w' => e = .returned (.int .u64 ((x &&& y : Nat) : Int)) ∧ w = w' := by
  have K := Lib.hid (bits_and x y hx hy)
  go_enter Try.func78, Try.ntmps78
  go_wp2_with fail
  go_ret
  exact ⟨congrArg (fun x => Ending.returned (.int .u64 x)) K.out, rfl⟩

set_option maxHeartbeats 1000000 in
theorem combinedIntersect_any {a : Option Addr} {n cp : Nat} {xs : List Int} {b : Option Addr} {m cq : Nat} {ys : List Int} {w : World} (hx : Ints w a n xs) (hy : Ints w b m ys) :
    Calls Try.prog 69 #[.slice a n cp, .slice b m cq, .func (.func 78) #[] #[]] w (RI w none (interL xs ys)) := by
  have h1 := rdC_lt xs
  have h2 := rdC_lt ys
  cases hv : valid xs <;> cases hu : valid ys
  case true.true =>
    have e := Lib.hid (show interL xs ys = mem ((fun x y : Nat => (x &&& y : Nat)) (rdC xs) (rdC ys)) from by unfold interL; rw [hv, hu, rdC_yes hv, rdC_yes hu]; rfl)
    have h3 := combinedIntersect_lt _ _ h1 h2
    go_enter Try.func69, Try.ntmps69
    go_wp2_with fail
    refine (readSet_any hx).mono ?_; rintro e w' ⟨rfl, rfl⟩
    go_wp2_with fail
    refine (readSet_any hy).mono ?_; rintro e w' ⟨rfl, rfl⟩
    go_wp2_with fail
    refine (SetIntersect_closure h1 h2).mono ?_; rintro e w' ⟨rfl, rfl⟩
    go_wp2_with fail
    refine (members_any h3).mono ?_; rintro e w' ⟨a1, n1, c1, rfl, ho, hx⟩
    go_wp2_with fail
    go_ret
    exact ⟨a1, n1, c1, rfl, by rw [e.out]; exact ho, hx⟩
  all_goals
    have e := Lib.hid (show interL xs ys = [] from by unfold interL; rw [hv, hu]; rfl)
    go_enter Try.func69, Try.ntmps69
    go_wp2_with fail
    refine (readSet_any hx).mono ?_; rintro e w' ⟨rfl, rfl⟩
    go_wp2_with fail
    refine (readSet_any hy).mono ?_; rintro e w' ⟨rfl, rfl⟩
    go_wp2_with fail
    go_ret
    exact ⟨none, 0, 0, rfl, by rw [e.out]; exact OwnI.nil _ _, Ext.refl _ _⟩

set_option maxHeartbeats 400000 in
theorem SetIntersect_any {a : Option Addr} {n cp : Nat} {xs : List Int} {b : Option Addr} {m cq : Nat} {ys : List Int} {w : World} (hx : Ints w a n xs) (hy : Ints w b m ys) :
    Calls Try.prog 43 #[.slice a n cp, .slice b m cq] w (RI w none (interL xs ys)) := by
  go_enter Try.func43, Try.ntmps43
  go_wp2_with fail
  refine (combinedIntersect_any hx hy).mono ?_; rintro e w' ⟨a1, n1, c1, rfl, ho, hx⟩
  go_wp2_with fail
  go_ret
  exact ⟨a1, n1, c1, rfl, ho, hx⟩


set_option maxHeartbeats 400000 in
theorem SetMinus_closure {x y : Nat} {w : World} (hx : x < 64) (hy : y < 64) : Calls Try.prog 70 #[.int .u64 x, .int .u64 y] w fun e w' => e = .returned (.int .u64 ((dif x y : Nat) : Int)) ∧ w = w' := by
  have K := Lib.hid (bits_dif x y hx hy)
  go_enter Try.func70, Try.ntmps70
  go_wp2_with fail
  go_ret
  exact ⟨congrArg (fun x => Ending.returned (.int .u64 x)) K.out, rfl⟩

set_option maxHeartbeats 1000000 in
theorem combinedMinus_any {a : Option Addr} {n cp : Nat} {xs : List Int} {b : Option Addr} {m cq : Nat} {ys : List Int} {w : World} (hx : Ints w a n xs) (hy : Ints w b m ys) :
    Calls Try.prog 69 #[.slice a n cp, .slice b m cq, .func (.func 70) #[] #[]] w (RI w none (minusL xs ys)) := by
  have h1 := rdC_lt xs
  have h2 := rdC_lt ys
  cases hv : valid xs <;> cases hu : valid ys
  case true.true =>
    have e := Lib.hid (show minusL xs ys = mem ((fun x y : Nat => (dif x y : Nat)) (rdC xs) (rdC ys)) from by unfold minusL; rw [hv, hu, rdC_yes hv, rdC_yes hu]; rfl)
    have h3 := combinedMinus_lt _ _ h1 h2
    go_enter Try.func69, Try.ntmps69
    go_wp2_with fail
    refine (readSet_any hx).mono ?_; rintro e w' ⟨rfl, rfl⟩
    go_wp2_with fail
    refine (readSet_any hy).mono ?_; rintro e w' ⟨rfl, rfl⟩
    go_wp2_with fail
    refine (SetMinus_closure h1 h2).mono ?_; rintro e w' ⟨rfl, rfl⟩
    go_wp2_with fail
    refine (members_any h3).mono ?_; rintro e w' ⟨a1, n1, c1, rfl, ho, hx⟩
    go_wp2_with fail
    go_ret
    exact ⟨a1, n1, c1, rfl, by rw [e.out]; exact ho, hx⟩
  all_goals
    have e := Lib.hid (show minusL xs ys = [] from by unfold minusL; rw [hv, hu]; rfl)
    go_enter Try.func69, Try.ntmps69
    go_wp2_with fail
    refine (readSet_any hx).mono ?_; rintro e w' ⟨rfl, rfl⟩
    go_wp2_with fail
    refine (readSet_any hy).mono ?_; rintro e w' ⟨rfl, rfl⟩
    go_wp2_with fail
    go_ret
    exact ⟨none, 0, 0, rfl, by rw [e.out]; exact OwnI.nil _ _, Ext.refl _ _⟩

set_option maxHeartbeats 400000 in
theorem SetMinus_any {a : Option Addr} {n cp : Nat} {xs : List Int} {b : Option Addr} {m cq : Nat} {ys : List Int} {w : World} (hx : Ints w a n xs) (hy : Ints w b m ys) :
    Calls Try.prog 31 #[.slice a n cp, .slice b m cq] w (RI w none (minusL xs ys)) := by
  go_enter Try.func31, Try.ntmps31
  go_wp2_with fail
  refine (combinedMinus_any hx hy).mono ?_; rintro e w' ⟨a1, n1, c1, rfl, ho, hx⟩
  go_wp2_with fail
  go_ret
  exact ⟨a1, n1, c1, rfl, ho, hx⟩

end Go.Proofs.Ytnlmcbilhfmenaa
