/- The member sets of package impl, third part: SetSubset, SetMask, SetOfMask. Conditions: each lemma's own. -/
import Derived.Test.YtaphbgagpdodkaaC2
namespace Go.Proofs.Ytaphbgagpdodkaa
open Go.RowKit
set_option linter.unusedVariables false


set_option maxHeartbeats 400000 in
theorem SetOfMask_any {q : Int} {w : World} (hq1 : -9223372036854775808 ≤ q) (hq2 : q ≤ 9223372036854775807) :
    Calls Try.prog 46 #[.int .i64 q] w fun e w' => ∃ a n c, e = .returned (.tuple #[.slice a n c, .bool (okMask q)]) ∧ OwnI w' w.heap.size a n c (ofMaskL q) ∧ Ext none w w' := by
  by_cases h : 0 ≤ q ∧ q ≤ 63
  · obtain ⟨h1, h2⟩ := h
    obtain ⟨c, rfl⟩ := Int.eq_ofNat_of_zero_le h1
    have hc : c < 64 := by omega
    have e := Lib.hid (show okMask c = true from by simp [okMask]; omega)
    have e2 := Lib.hid (show ofMaskL c = mem c from by unfold ofMaskL; rw [e.out]; simp)
    go_enter Try.func46, Try.ntmps46
    go_wp2_with fail
    refine (members_any hc).mono ?_; rintro e w' ⟨a1, n1, c1, rfl, ho, hx⟩
    go_wp2_with fail
    go_ret2
    exact ⟨a1, n1, c1, by rw [e.out]; rfl, by rw [e2.out]; exact ho, hx⟩
  · have e := Lib.hid (show okMask q = false from by simp only [okMask, Bool.and_eq_false_iff, decide_eq_false_iff_not]; omega)
    by_cases h1 : q < 0
    · go_enter Try.func46, Try.ntmps46
      go_wp2_with fail
      go_ret2
      exact ⟨none, 0, 0, by rw [e.out]; rfl, by unfold ofMaskL; rw [e.out]; exact OwnI.nil _ _, Ext.refl _ _⟩
    · have h2 : 63 < q := by omega
      go_enter Try.func46, Try.ntmps46
      go_wp2_with fail
      go_ret2
      exact ⟨none, 0, 0, by rw [e.out]; rfl, by unfold ofMaskL; rw [e.out]; exact OwnI.nil _ _, Ext.refl _ _⟩

end Go.Proofs.Ytaphbgagpdodkaa
