/- The member sets of package impl: what each function of l1_memberset.go computes. Conditions: each lemma's own. -/
import Derived.Test.YtnlmcbilhfmenaaW
import Derived.Test.YtnlmcbilhfmenaaM1
import Derived.Laws.BitsAllLaws
namespace Go.Proofs.Ytnlmcbilhfmenaa
open Go.RowKit

set_option maxHeartbeats 400000 in
theorem isMember_any {m : Int} {w : World} :
    Calls Try.prog 89 #[.int .i64 m] w fun e w' => e = .returned (.bool (isM m)) ∧ w = w' := by
  unfold isM
  by_cases h1 : 1 ≤ m <;> by_cases h2 : m ≤ 6
  all_goals
    go_enter Try.func89, Try.ntmps89
    go_wp2_with fail
    go_ret
    exact ⟨by simp [h1, h2], rfl⟩

set_option maxHeartbeats 400000 in
theorem with_any {c : Nat} {m : Int} {w : World} (h1 : 1 ≤ m) (h2 : m ≤ 6) (hc : c < 64) :
    Calls Try.prog 90 #[.int .u64 c, .int .i64 m] w fun e w' => e = .returned (.int .u64 ((c ||| bit m : Nat) : Int)) ∧ w = w' := by
  have key : bits BinOp.or IntKind.u64 (↑c) (IntKind.u64.wrap (2 ^ (m.toNat - 1))) = ((c ||| bit m : Nat) : Int) := by
    have hm : m = 1 ∨ m = 2 ∨ m = 3 ∨ m = 4 ∨ m = 5 ∨ m = 6 := by omega
    rcases hm with rfl | rfl | rfl | rfl | rfl | rfl
    all_goals
      have := u64_or_nat c
      first
        | exact (this 1 (by omega) (by decide))
        | exact (this 2 (by omega) (by decide))
        | exact (this 4 (by omega) (by decide))
        | exact (this 8 (by omega) (by decide))
        | exact (this 16 (by omega) (by decide))
        | exact (this 32 (by omega) (by decide))
  have K := Lib.hid key
  clear key
  go_enter Try.func90, Try.ntmps90
  go_wp2_with fail
  go_ret
  exact ⟨congrArg (fun x => Ending.returned (.int .u64 x)) K.out, rfl⟩

theorem has_bits (c : Nat) (m : Int) (h1 : 1 ≤ m) (h2 : m ≤ 6) (hc : c < 64) : (bits BinOp.and IntKind.u64 (↑c / 2 ^ (m.toNat - 1)) 1 == 1) = has c m := by
  have e : ((c : Int) / 2 ^ (m.toNat - 1)) = ((c / 2 ^ (m.toNat - 1) : Nat) : Int) := by simp
  have e2 := u64_and_nat (c / 2 ^ (m.toNat - 1)) 1 (by have := Nat.div_le_self c (2 ^ (m.toNat - 1)); omega) (by decide)
  rw [e]
  rw [show ((1 : Nat) : Int) = 1 from rfl] at e2
  rw [e2, nat_mask1]
  have : isM m = true := by simp [isM, h1, h2]
  unfold has
  rw [this, Nat.testBit_eq_decide_div_mod_eq]
  rw [Bool.eq_iff_iff]
  simp
  omega

set_option maxHeartbeats 400000 in
theorem has_any {c : Nat} {m : Int} {w : World} (hc : c < 64) :
    Calls Try.prog 74 #[.int .u64 c, .int .i64 m] w fun e w' => e = .returned (.bool (has c m)) ∧ w = w' := by
  by_cases h : 1 ≤ m ∧ m ≤ 6
  · obtain ⟨h1, h2⟩ := h
    have hm : isM m = true := by simp [isM, h1, h2]
    have K := Lib.hid (has_bits c m h1 h2 hc)
    go_enter Try.func74, Try.ntmps74
    go_wp2_with (go_at_call 89; refine (isMember_any).mono ?_; rintro e w' ⟨rfl, rfl⟩)
    go_ret
    exact ⟨congrArg (fun x => Ending.returned (.bool x)) K.out, rfl⟩
  · have hm : isM m = false := by
      simp only [isM, Bool.and_eq_false_iff, decide_eq_false_iff_not]; omega
    go_enter Try.func74, Try.ntmps74
    go_wp2_with (go_at_call 89; refine (isMember_any).mono ?_; rintro e w' ⟨rfl, rfl⟩)
    go_ret
    exact ⟨by simp [has, hm], rfl⟩

set_option maxHeartbeats 400000 in
theorem within_any {c d : Nat} {w : World} (hc : c < 64) (hd : d < 64) :
    Calls Try.prog 72 #[.int .u64 c, .int .u64 d] w fun e w' => e = .returned (.bool (sub c d)) ∧ w = w' := by
  have key : (bits BinOp.andNot IntKind.u64 (↑c) (↑d) == 0) = sub c d := by
    rw [u64_andNot_nat c d (by omega) (by omega)]
    have : ∀ c < 64, ∀ d < 64, ((c &&& (18446744073709551615 - d) : Nat) == 0) = sub c d := by decide +kernel
    rw [← this c hc d hd, Bool.eq_iff_iff]
    simp
  have K := Lib.hid key
  clear key
  go_enter Try.func72, Try.ntmps72
  go_wp2_with fail
  go_ret
  exact ⟨congrArg (fun x => Ending.returned (.bool x)) K.out, rfl⟩

set_option maxHeartbeats 1000000 in
theorem members_any {c : Nat} {w : World} (hc : c < 64) :
    Calls Try.prog 58 #[.int .u64 c] w (RI w none (mem c)) := by
  go_enter Try.func58, Try.ntmps58
  go_wp2_with fail
  go_loopw [3, 4] (fun v i wr => ∃ (k : Nat) (a : Option Addr) (n cp : Nat), k ≤ 6 ∧ i = .int .i64 ((k : Int) + 1) ∧ v = .slice a n cp ∧ OwnI wr w.heap.size a n cp (memTo c k) ∧ Ext none w wr)
    (fun _ i _ => 7 - (intOf i).toNat)
  case atStart => exact ⟨0, none, 0, 0, by omega, rfl, rfl, OwnI.nil _ _, Ext.refl _ _⟩
  case round =>
    obtain ⟨k, a, n, cp, hk, rfl, rfl, hown, hx⟩ := hrel
    by_cases hlt : k < 6
    · have hs := Lib.hid (memTo_step c k hlt)
      have hn : n ≤ 6 := by have := memTo_len c k; rw [hown.len] at this; exact this
      cases hh : has c ((k : Int) + 1)
      · go_wp2_with (go_at_call 74; refine (has_any hc).mono ?_; rintro e w' ⟨rfl, rfl⟩)
        go_roundw
        case rel => exact ⟨k + 1, a, n, cp, by omega, by go_num, rfl, by rw [hs.out, hh]; exact hown, hx⟩
        case measure => simp [intOf]; omega
      · go_wp2_with (first
          | (go_at_call 74; refine (has_any hc).mono ?_; rintro e w' ⟨rfl, rfl⟩)
          | (at_builtin; refine app_int _ rfl _ _ rfl w.heap.size a n cp _ hown _ rfl rfl (by omega) hx.size ?_; intro g c' w1 hown1 hg1))
        go_roundw
        case rel => exact ⟨k + 1, _, _, _, by omega, by go_num, rfl, by rw [hs.out, hh]; exact hown1, hx.grown hg1 (fun j hj => .inl (hown.block j hj))⟩
        case measure => simp [intOf]; omega
    · obtain rfl : k = 6 := by omega
      go_wp2_with fail
      go_ret
      exact ⟨a, n, cp, rfl, hown, hx⟩
end Go.Proofs.Ytnlmcbilhfmenaa
