/- XPB: several texts in one. Conditions: each lemma's own. -/
import Derived.Test.YtnifgfnhcjhodaaPW
import Derived.Test.YtnifgfnhcjhodaaPM
import Derived.Laws.BitsAllLaws


namespace Go.Proofs.Ytnifgfnhcjhodaa
open Go.RowKit
set_option linter.unusedVariables false

set_option maxHeartbeats 400000 in
theorem isMember_any {m : Int} {w : World} :
    Calls Try.prog 58 #[.int .i64 m] w fun e w' => e = .returned (.bool (isM m)) ∧ w = w' := by
  unfold isM
  by_cases h1 : 1 ≤ m <;> by_cases h2 : m ≤ 6
  all_goals
    go_enter Try.func58, Try.ntmps58
    go_wp2_with fail
    go_ret
    exact ⟨by simp [h1, h2], rfl⟩

set_option maxHeartbeats 400000 in
theorem with_any {c : Nat} {m : Int} {w : World} (h1 : 1 ≤ m) (h2 : m ≤ 6) (hc : c < 64) :
    Calls Try.prog 86 #[.int .u64 c, .int .i64 m] w fun e w' => e = .returned (.int .u64 ((c ||| bit m : Nat) : Int)) ∧ w = w' := by
  have key : bits BinOp.or IntKind.u64 (↑c) (IntKind.u64.wrap (2 ^ (m.toNat - 1))) = ((c ||| bit m : Nat) : Int) := by
    have hm : m = 1 ∨ m = 2 ∨ m = 3 ∨ m = 4 ∨ m = 5 ∨ m = 6 := by omega
    rcases hm with rfl | rfl | rfl | rfl | rfl | rfl
    all_goals
      have := u64_or_nat c
      first
        | exact (this 1 (by omega) (by decide))
        | exact (this 2 (by omega) (by decide))
        | exact (this 4 (by omega) (by decide))
        | exact (this 8 (by omega) (by decide))
        | exact (this 16 (by omega) (by decide))
        | exact (this 32 (by omega) (by decide))
  have K := Lib.hid key
  clear key
  go_enter Try.func86, Try.ntmps86
  go_wp2_with fail
  go_ret
  exact ⟨congrArg (fun x => Ending.returned (.int .u64 x)) K.out, rfl⟩

theorem has_bits (c : Nat) (m : Int) (h1 : 1 ≤ m) (h2 : m ≤ 6) (hc : c < 64) : (bits BinOp.and IntKind.u64 (↑c / 2 ^ (m.toNat - 1)) 1 == 1) = has c m := by
  have e : ((c : Int) / 2 ^ (m.toNat - 1)) = ((c / 2 ^ (m.toNat - 1) : Nat) : Int) := by simp
  have e2 := u64_and_nat (c / 2 ^ (m.toNat - 1)) 1 (by have := Nat.div_le_self c (2 ^ (m.toNat - 1)); omega) (by decide)
  rw [e]
  rw [show ((1 : Nat) : Int) = 1 from rfl] at e2
  rw [e2, nat_mask1]
  have : isM m = true := by simp [isM, h1, h2]
  unfold has
  rw [this, Nat.testBit_eq_decide_div_mod_eq]
  rw [Bool.eq_iff_iff]
  simp
  omega

set_option maxHeartbeats 400000 in
theorem has_any {c : Nat} {m : Int} {w : World} (hc : c < 64) :
    Calls Try.prog 44 #[.int .u64 c, .int .i64 m] w fun e w' => e = .returned (.bool (has c m)) ∧ w = w' := by
  by_cases h : 1 ≤ m ∧ m ≤ 6
  · obtain ⟨h1, h2⟩ := h
    have hm : isM m = true := by simp [isM, h1, h2]
    have K := Lib.hid (has_bits c m h1 h2 hc)
    go_enter Try.func44, Try.ntmps44
    go_wp2_with (go_at_call 58; refine (isMember_any).mono ?_; rintro e w' ⟨rfl, rfl⟩)
    go_ret
    exact ⟨congrArg (fun x => Ending.returned (.bool x)) K.out, rfl⟩
  · have hm : isM m = false := by
      simp only [isM, Bool.and_eq_false_iff, decide_eq_false_iff_not]; omega
    go_enter Try.func44, Try.ntmps44
    go_wp2_with (go_at_call 58; refine (isMember_any).mono ?_; rintro e w' ⟨rfl, rfl⟩)
    go_ret
    exact ⟨by simp [has, hm], rfl⟩

set_option maxHeartbeats 400000 in
theorem within_any {c d : Nat} {w : World} (hc : c < 64) (hd : d < 64) :
    Calls Try.prog 95 #[.int .u64 c, .int .u64 d] w fun e w' => e = .returned (.bool (sub c d)) ∧ w = w' := by
  have key : (bits BinOp.andNot IntKind.u64 (↑c) (↑d) == 0) = sub c d := by
    rw [u64_andNot_nat c d (by omega) (by omega)]
    have : ∀ c < 64, ∀ d < 64, ((c &&& (18446744073709551615 - d) : Nat) == 0) = sub c d := by decide +kernel
    rw [← this c hc d hd, Bool.eq_iff_iff]
    simp
  have K := Lib.hid key
  clear key
  go_enter Try.func95, Try.ntmps95
  go_wp2_with fail
  go_ret
  exact ⟨congrArg (fun x => Ending.returned (.bool x)) K.out, rfl⟩

set_option maxHeartbeats 1000000 in
theorem members_any {c : Nat} {w : World} (hc : c < 64) :
    Calls Try.prog 34 #[.int .u64 c] w (RI w none (mem c)) := by
  go_enter Try.func34, Try.ntmps34
  go_wp2_with fail
  go_loopw [3, 4] (fun v i wr => ∃ (k : Nat) (a : Option Addr) (n cp : Nat), k ≤ 6 ∧ i = .int .i64 ((k : Int) + 1) ∧ v = .slice a n cp ∧ OwnI wr w.heap.size a n cp (memTo c k) ∧ Ext none w wr)
    (fun _ i _ => 7 - (intOf i).toNat)
  case atStart => exact ⟨0, none, 0, 0, by omega, rfl, rfl, OwnI.nil _ _, Ext.refl _ _⟩
  case round =>
    obtain ⟨k, a, n, cp, hk, rfl, rfl, hown, hx⟩ := hrel
    by_cases hlt : k < 6
    · have hs := Lib.hid (memTo_step c k hlt)
      have hn : n ≤ 6 := by have := memTo_len c k; rw [hown.len] at this; exact this
      cases hh : has c ((k : Int) + 1)
      · go_wp2_with (go_at_call 44; refine (has_any hc).mono ?_; rintro e w' ⟨rfl, rfl⟩)
        go_roundw
        case rel => exact ⟨k + 1, a, n, cp, by omega, by go_num, rfl, by rw [hs.out, hh]; exact hown, hx⟩
        case measure => simp [intOf]; omega
      · go_wp2_with (first
          | (go_at_call 44; refine (has_any hc).mono ?_; rintro e w' ⟨rfl, rfl⟩)
          | (at_builtin; refine app_int _ rfl _ _ rfl w.heap.size a n cp _ hown _ rfl rfl (by omega) hx.size ?_; intro g c' w1 hown1 hg1))
        go_roundw
        case rel => exact ⟨k + 1, _, _, _, by omega, by go_num, rfl, by rw [hs.out, hh]; exact hown1, hx.grown hg1 (fun j hj => .inl (hown.block j hj))⟩
        case measure => simp [intOf]; omega
    · obtain rfl : k = 6 := by omega
      go_wp2_with fail
      go_ret
      exact ⟨a, n, cp, rfl, hown, hx⟩


theorem mask_or_lt {c : Nat} {m : Int} (hc : c < 64) (h1 : 1 ≤ m) (h2 : m ≤ 6) : c ||| bit m < 64 := by
  refine or_lt hc ?_
  have hm : m = 1 ∨ m = 2 ∨ m = 3 ∨ m = 4 ∨ m = 5 ∨ m = 6 := by omega
  rcases hm with rfl | rfl | rfl | rfl | rfl | rfl <;> decide

set_option maxHeartbeats 1000000 in
theorem readSet_any {a : Option Addr} {n cp : Nat} {xs : List Int} {w : World} (h : Ints w a n xs) :
    Calls Try.prog 56 #[.slice a n cp] w fun e w' => e = .returned (.tuple #[.int .u64 (rdC xs : Nat), .bool (valid xs)]) ∧ w = w' := by
  have hm := h.max
  go_enter Try.func56, Try.ntmps56
  go_wp2_with fail
  go_loop [4, 9] (fun c i => ∃ k : Nat, k ≤ n ∧ i = .int .i64 k ∧ valid (xs.take k) = true ∧ c = .int .u64 (mask (xs.take k) : Nat))
    (fun _ i => n - (intOf i).toNat)
  case atStart => exact ⟨0, by omega, rfl, rfl, rfl⟩
  case round =>
    obtain ⟨k, hk, rfl, hv, rfl⟩ := hrel
    have hV := Lib.hid hv
    clear hv
    by_cases hlt : k < n
    · obtain ⟨b, off, rfl, hc⟩ := h.cell hlt
      have hl : k < xs.length := by rw [h.len]; exact hlt
      have hst := Lib.hid (valid_step xs k hl hV.out)
      have hmk := Lib.hid (show mask (xs.take (k + 1)) = mask (xs.take k) ||| bit (xs.getD k 0) from by rw [take_snoc xs k hl, mask_snoc])
      have hm64 := mask_lt hV.out
      obtain ⟨x, hxx⟩ : ∃ x, x = xs.getD k 0 := ⟨_, rfl⟩
      rw [← hxx] at hc
      have HX := Lib.hid hxx
      clear hxx
      cases hi : isM x
      · have hno := Lib.hid (show valid xs = false from valid_no (k := k + 1) (by rw [hst.out]; unfold stepOk; rw [← HX.out, hi]; rfl))
        go_wp2_with (go_at_call 58; refine (isMember_any).mono ?_; rintro e w' ⟨rfl, rfl⟩)
        go_ret2
        exact ⟨by unfold rdC; rw [hno.out]; rfl, rfl⟩
      · have h12 : 1 ≤ x ∧ x ≤ 6 := by simpa [isM] using hi
        obtain ⟨h1, h2⟩ := h12
        by_cases h0 : 0 < k
        · have hc0 := h.cellAt (k := k - 1) (by omega)
          obtain ⟨y, hyy⟩ : ∃ y, y = xs.getD (k - 1) 0 := ⟨_, rfl⟩
          rw [← hyy] at hc0
          have HY := Lib.hid hyy
          clear hyy
          by_cases hyx : y < x
          · have hok := Lib.hid (show valid (xs.take (k + 1)) = true from by
              rw [hst.out]; unfold stepOk; rw [← HX.out, ← HY.out, hi]; simp [hyx])
            go_wp2_with (first
              | (go_at_call 58; refine (isMember_any).mono ?_; rintro e w' ⟨rfl, rfl⟩)
              | (go_at_call 86; refine (with_any h1 h2 hm64).mono ?_; rintro e w' ⟨rfl, rfl⟩))
            go_round
            case rel => exact ⟨k + 1, by omega, by go_num, hok.out, by rw [hmk.out, HX.out]⟩
            case measure => simp [intOf]; omega
          · have hno := Lib.hid (show valid xs = false from valid_no (k := k + 1) (by
              rw [hst.out]; unfold stepOk; rw [← HX.out, ← HY.out, hi]; simp [hyx]; omega))
            go_wp2_with (go_at_call 58; refine (isMember_any).mono ?_; rintro e w' ⟨rfl, rfl⟩)
            go_ret2
            exact ⟨by unfold rdC; rw [hno.out]; rfl, rfl⟩
        · have hok := Lib.hid (show valid (xs.take (k + 1)) = true from by
              rw [hst.out]; unfold stepOk; rw [← HX.out, hi]; simp; omega)
          go_wp2_with (first
              | (go_at_call 58; refine (isMember_any).mono ?_; rintro e w' ⟨rfl, rfl⟩)
              | (go_at_call 86; refine (with_any h1 h2 hm64).mono ?_; rintro e w' ⟨rfl, rfl⟩))
          go_round
          case rel => exact ⟨k + 1, by omega, by go_num, hok.out, by rw [hmk.out, HX.out]⟩
          case measure => simp [intOf]; omega
    · obtain rfl : k = n := by omega
      have hfin := Lib.hid (show xs.take k = xs from List.take_of_length_le (by rw [h.len]; omega))
      go_wp2_with fail
      go_ret2
      have hv := hV.out
      rw [hfin.out] at hv
      exact ⟨by unfold rdC; rw [hv, hfin.out]; rfl, rfl⟩

theorem rdC_yes {xs : List Int} (h : valid xs = true) : rdC xs = mask xs := by unfold rdC; rw [h]; rfl

theorem bits_or (x y : Nat) (hx : x < 64) (hy : y < 64) : bits BinOp.or IntKind.u64 (↑x) (↑y) = ((x ||| y : Nat) : Int) := u64_or_nat x y (by omega) (by omega)
theorem bits_and (x y : Nat) (hx : x < 64) (hy : y < 64) : bits BinOp.and IntKind.u64 (↑x) (↑y) = ((x &&& y : Nat) : Int) := u64_and_nat x y (by omega) (by omega)
theorem bits_dif (x y : Nat) (hx : x < 64) (hy : y < 64) : bits BinOp.andNot IntKind.u64 (↑x) (↑y) = ((dif x y : Nat) : Int) := by
  rw [u64_andNot_nat x y (by omega) (by omega)]
  have : ∀ c < 64, ∀ d < 64, ((c &&& (18446744073709551615 - d) : Nat)) = dif c d := by decide +kernel
  rw [this x hx y hy]
theorem combinedUnion_lt (x y : Nat) (hx : x < 64) (hy : y < 64) : x ||| y < 64 := or_lt hx hy
theorem combinedIntersect_lt (x y : Nat) (hx : x < 64) (hy : y < 64) : x &&& y < 64 := and_lt hx
theorem combinedMinus_lt (x y : Nat) (hx : x < 64) (hy : y < 64) : dif x y < 64 := dif_lt hx


set_option maxHeartbeats 400000 in
theorem SetIntersect_closure {x y : Nat} {w : World} (hx : x < 64) (hy : y < 64) : Calls Try.prog 39 #[.int .u64 x, .int .u64 y] w fun e w' => e = .returned (.int .u64 ((x &&& y : Nat) : Int)) ∧ w = w' := by
  have K := Lib.hid (bits_and x y hx hy)
  go_enter Try.func39, Try.ntmps39
  go_wp2_with fail
  go_ret
  exact ⟨congrArg (fun x => Ending.returned (.int .u64 x)) K.out, rfl⟩

set_option maxHeartbeats 1000000 in
theorem combinedIntersect_any {a : Option Addr} {n cp : Nat} {xs : List Int} {b : Option Addr} {m cq : Nat} {ys : List Int} {w : World} (hx : Ints w a n xs) (hy : Ints w b m ys) :
    Calls Try.prog 38 #[.slice a n cp, .slice b m cq, .func (.func 39) #[] #[]] w (RI w none (interL xs ys)) := by
  have h1 := rdC_lt xs
  have h2 := rdC_lt ys
  cases hv : valid xs <;> cases hu : valid ys
  case true.true =>
    have e := Lib.hid (show interL xs ys = mem ((fun x y : Nat => (x &&& y : Nat)) (rdC xs) (rdC ys)) from by unfold interL; rw [hv, hu, rdC_yes hv, rdC_yes hu]; rfl)
    have h3 := combinedIntersect_lt _ _ h1 h2
    go_enter Try.func38, Try.ntmps38
    go_wp2_with fail
    refine (readSet_any hx).mono ?_; rintro e w' ⟨rfl, rfl⟩
    go_wp2_with fail
    refine (readSet_any hy).mono ?_; rintro e w' ⟨rfl, rfl⟩
    go_wp2_with fail
    refine (SetIntersect_closure h1 h2).mono ?_; rintro e w' ⟨rfl, rfl⟩
    go_wp2_with fail
    refine (members_any h3).mono ?_; rintro e w' ⟨a1, n1, c1, rfl, ho, hx⟩
    go_wp2_with fail
    go_ret
    exact ⟨a1, n1, c1, rfl, by rw [e.out]; exact ho, hx⟩
  all_goals
    have e := Lib.hid (show interL xs ys = [] from by unfold interL; rw [hv, hu]; rfl)
    go_enter Try.func38, Try.ntmps38
    go_wp2_with fail
    refine (readSet_any hx).mono ?_; rintro e w' ⟨rfl, rfl⟩
    go_wp2_with fail
    refine (readSet_any hy).mono ?_; rintro e w' ⟨rfl, rfl⟩
    go_wp2_with fail
    go_ret
    exact ⟨none, 0, 0, rfl, by rw [e.out]; exact OwnI.nil _ _, Ext.refl _ _⟩

set_option maxHeartbeats 400000 in
theorem SetIntersect_any {a : Option Addr} {n cp : Nat} {xs : List Int} {b : Option Addr} {m cq : Nat} {ys : List Int} {w : World} (hx : Ints w a n xs) (hy : Ints w b m ys) :
    Calls Try.prog 13 #[.slice a n cp, .slice b m cq] w (RI w none (interL xs ys)) := by
  go_enter Try.func13, Try.ntmps13
  go_wp2_with fail
  refine (combinedIntersect_any hx hy).mono ?_; rintro e w' ⟨a1, n1, c1, rfl, ho, hx⟩
  go_wp2_with fail
  go_ret
  exact ⟨a1, n1, c1, rfl, ho, hx⟩


end Go.Proofs.Ytnifgfnhcjhodaa
