/- The member sets of package impl, third part: SetSubset, SetMask, SetOfMask. Conditions: each lemma's own. -/
import Derived.Test.YtnlmcbilhfmenaaC2
namespace Go.Proofs.Ytnlmcbilhfmenaa
open Go.RowKit
set_option linter.unusedVariables false


set_option maxHeartbeats 400000 in
theorem SetSubset_any {a : Option Addr} {n cp : Nat} {xs : List Int} {b : Option Addr} {m cq : Nat} {ys : List Int} {w : World} (hx : Ints w a n xs) (hy : Ints w b m ys) :
    Calls Try.prog 33 #[.slice a n cp, .slice b m cq] w fun e w' => e = .returned (.bool (subsetL xs ys)) ∧ w = w' := by
  have h1 := rdC_lt xs
  have h2 := rdC_lt ys
  cases hv : valid xs <;> cases hu : valid ys
  all_goals
    have e := Lib.hid (show subsetL xs ys = (valid xs && valid ys && sub (rdC xs) (rdC ys)) from by unfold subsetL; cases h1 : valid xs <;> cases h2 : valid ys <;> simp [rdC, h1, h2])
    go_enter Try.func33, Try.ntmps33
    go_wp2_with fail
    refine (readSet_any hx).mono ?_; rintro e w' ⟨rfl, rfl⟩
    go_wp2_with fail
    refine (readSet_any hy).mono ?_; rintro e w' ⟨rfl, rfl⟩
    go_wp2_with (go_at_call 72; refine (within_any h1 h2).mono ?_; rintro e w' ⟨rfl, rfl⟩)
    go_ret
    exact ⟨by rw [e.out]; simp [hv, hu], rfl⟩



set_option maxHeartbeats 400000 in
theorem SetOfMask_any {q : Int} {w : World} (hq1 : -9223372036854775808 ≤ q) (hq2 : q ≤ 9223372036854775807) :
    Calls Try.prog 65 #[.int .i64 q] w fun e w' => ∃ a n c, e = .returned (.tuple #[.slice a n c, .bool (okMask q)]) ∧ OwnI w' w.heap.size a n c (ofMaskL q) ∧ Ext none w w' := by
  by_cases h : 0 ≤ q ∧ q ≤ 63
  · obtain ⟨h1, h2⟩ := h
    obtain ⟨c, rfl⟩ := Int.eq_ofNat_of_zero_le h1
    have hc : c < 64 := by omega
    have e := Lib.hid (show okMask c = true from by simp [okMask]; omega)
    have e2 := Lib.hid (show ofMaskL c = mem c from by unfold ofMaskL; rw [e.out]; simp)
    go_enter Try.func65, Try.ntmps65
    go_wp2_with fail
    refine (members_any hc).mono ?_; rintro e w' ⟨a1, n1, c1, rfl, ho, hx⟩
    go_wp2_with fail
    go_ret2
    exact ⟨a1, n1, c1, by rw [e.out]; rfl, by rw [e2.out]; exact ho, hx⟩
  · have e := Lib.hid (show okMask q = false from by simp only [okMask, Bool.and_eq_false_iff, decide_eq_false_iff_not]; omega)
    by_cases h1 : q < 0
    · go_enter Try.func65, Try.ntmps65
      go_wp2_with fail
      go_ret2
      exact ⟨none, 0, 0, by rw [e.out]; rfl, by unfold ofMaskL; rw [e.out]; exact OwnI.nil _ _, Ext.refl _ _⟩
    · have h2 : 63 < q := by omega
      go_enter Try.func65, Try.ntmps65
      go_wp2_with fail
      go_ret2
      exact ⟨none, 0, 0, by rw [e.out]; rfl, by unfold ofMaskL; rw [e.out]; exact OwnI.nil _ _, Ext.refl _ _⟩

end Go.Proofs.Ytnlmcbilhfmenaa
