/- The member sets of package spec, second part. Conditions: each lemma's own. -/
import Derived.Test.YtnifgfnhcjhodaaS1
namespace Go.Proofs.Ytnifgfnhcjhodaa
open Go.RowKit
set_option linter.unusedVariables false


set_option maxHeartbeats 400000 in
theorem l1Masks_any {w : World} : Calls Try.prog 66 #[] w fun e w' => e = .returned (.int .i64 64) ∧ w = w' := by
  go_enter Try.func66, Try.ntmps66
  go_wp2_with fail
  refine wp_loop_rounds 7 ?_
  iterate 7 (rw [rounds_succ]; go_wp2_with fail)
  go_ret
  exact ⟨rfl, rfl⟩



set_option maxHeartbeats 1000000 in
theorem l1OfMask_any {c : Nat} {w : World} (hc : c < 64) :
    Calls Try.prog 64 #[.int .i64 c] w (RI w none (mem c)) := by
  go_enter Try.func64, Try.ntmps64
  go_wp2_with fail
  go_loopw [0, 3, 4] (fun q v i wr => ∃ (k : Nat) (a : Option Addr) (n cp : Nat), k ≤ 6 ∧ i = .int .i64 ((k : Int) + 1) ∧ v = .slice a n cp ∧ q = .int .i64 ((c / 2 ^ k : Nat) : Int) ∧ OwnI wr w.heap.size a n cp (memTo c k) ∧ Ext none w wr)
    (fun _ _ i _ => 7 - (intOf i).toNat)
  case atStart => exact ⟨0, _, 0, 0, by omega, rfl, rfl, by simp, OwnI.made w, (Ext.refl _ _).alloc _⟩
  case round =>
    obtain ⟨k, a, n, cp, hk, rfl, rfl, rfl, hown, hx⟩ := hrel
    by_cases hlt : k < 6
    · have hs := Lib.hid (memTo_step c k hlt)
      have hn : n ≤ 6 := by have := memTo_len c k; rw [hown.len] at this; exact this
      have hh := memTo_half c k hlt
      have hdiv := Lib.hid (show c / 2 ^ (k + 1) = c / 2 ^ k / 2 from by rw [Nat.pow_succ, Nat.div_div_eq_div_mul])
      have hle : c / 2 ^ k ≤ c := Nat.div_le_self _ _
      obtain ⟨d, hd⟩ : ∃ d, d = c / 2 ^ k := ⟨_, rfl⟩
      rw [← hd] at hle hh ⊢
      have HD := Lib.hid hd
      clear hd
      by_cases hb : d % 2 = 1
      · rw [hb] at hh
        have HH := Lib.hid hh
        clear hh
        have hbI : ((d : Int) % 2 == 1) = true := by rw [beq_iff_eq]; omega
        go_wp2_with (at_builtin; refine app_int _ rfl _ _ rfl w.heap.size a n cp _ hown _ rfl rfl (by omega) hx.size ?_; intro g c' w1 hown1 hg1)
        go_roundw
        case rel => exact ⟨k + 1, _, _, _, by omega, by go_num, rfl, by rw [hdiv.out, ← HD.out]; go_num, by rw [hs.out, HH.out]; exact hown1, hx.grown hg1 (fun j hj => .inl (hown.block j hj))⟩
        case measure => simp [intOf]; omega
      · have HH := Lib.hid (show has c ((k : Int) + 1) = false from by rw [hh]; simp [hb])
        clear hh
        have hbI : ((d : Int) % 2 == 1) = false := by rw [beq_eq_false_iff_ne]; omega
        go_wp2_with fail
        go_roundw
        case rel => exact ⟨k + 1, a, n, cp, by omega, by go_num, rfl, by rw [hdiv.out, ← HD.out]; go_num, by rw [hs.out, HH.out]; exact hown, hx⟩
        case measure => simp [intOf]; omega
    · obtain rfl : k = 6 := by omega
      go_wp2_with fail
      go_ret
      exact ⟨a, n, cp, rfl, hown, hx⟩

end Go.Proofs.Ytnifgfnhcjhodaa
