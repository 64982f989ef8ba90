/- Drawing weights. Conditions: each lemma's own. -/
import Derived.Test.YtnifgfnhcjhodaaD2
import Derived.Test.YtnifgfnhcjhodaaPM
namespace Go.Proofs.Ytnifgfnhcjhodaa
open Go.RowKit
set_option linter.unusedVariables false


set_option maxHeartbeats 1000000 in
theorem l91Weights_any {rb k : Nat} {w : World} (h : Rd w rb k) (hk : k ≤ 900000) :
    Calls Try.prog 63 #[.pointer (some ⟨rb, 0, none⟩)] w (SetR w rb (k + 8)) := by
  have hrb := h.lt
  go_enter Try.func63, Try.ntmps63
  go_wp2_with fail
  have h' := h.ext ((Ext.refl none w).alloc (.cells #[] 3))
  refine (pick_any h' (by omega) (by omega) (by omega)).mono ?_; rintro e w1 ⟨x, rfl, hx0, hx1, hr1, he1⟩
  have ho1 := (OwnI.made w).ext he1 (fun j hj => by cases hj; exact hrb)
  have hE1 : Ext (some rb) w w1 := ((Ext.refl _ w).alloc _).trans he1
  obtain ⟨r0, rfl⟩ := Int.eq_ofNat_of_zero_le hx0
  have hr5 : r0 ≤ 5 := by omega
  clear hx0 hx1 h h'
  go_wp2_with fail
  go_loopw [3, 4] (fun v i wr => ∃ (r n c : Nat) (a : Option Addr) (xs : List Int), r ≤ 6 ∧ n + r ≤ 6 ∧ i = .int .i64 (r : Nat) ∧ v = .slice a n c ∧ OwnI wr w.heap.size a n c xs ∧ Rd wr rb (k + 7 - r) ∧ Ext (some rb) w wr)
    (fun _ i _ => (intOf i).toNat)
  case atStart => exact ⟨r0 + 1, 0, 0, _, [], by omega, by omega, by go_num, rfl, ho1, hr1.more (by omega), hE1⟩
  case round =>
    obtain ⟨r, n, c, a, xs, hr6, hnr, rfl, rfl, ho, hrd, hE⟩ := hrel
    by_cases h0 : 0 < r
    · go_wp2_with fail
      refine (pick_any hrd (by omega) (by omega) (by omega)).mono ?_; rintro e w2 ⟨y, rfl, hy0, hy1, hr2, he2⟩
      have ho2 := ho.ext he2 (fun j hj => by cases hj; exact hrb)
      have hE2 := hE.trans he2
      have hs := hE2.size
      clear ho hrd hE
      go_wp2_with (at_builtin; refine app_int _ rfl _ _ rfl w.heap.size a n c _ ho2 _ rfl rfl (by omega) hs ?_; intro g c' w5 ho5 hg5)
      go_roundw
      case rel => exact ⟨r - 1, n + 1, _, _, _, by omega, by omega, by go_num, rfl, ho5, (hr2.grown hg5 (fun j hj => Nat.lt_of_lt_of_le hrb (ho2.block j hj))).more (by omega), hE2.grown hg5 (fun j hj => .inl (ho2.block j hj))⟩
      case measure => simp [intOf]; omega
    · obtain rfl : r = 0 := by omega
      go_wp2_with fail
      refine (pick_any hrd (by omega) (by omega) (by omega)).mono ?_; rintro e w2 ⟨y, rfl, hy0, hy1, hr2, he2⟩
      have ho2 := ho.ext he2 (fun j hj => by cases hj; exact hrb)
      have hE2 := hE.trans he2
      have hs := hE2.size
      clear ho hrd hE
      by_cases hy : y = 0
      · subst hy
        go_wp2_with (at_builtin; refine app_int _ rfl _ _ rfl w.heap.size a n c _ ho2 _ rfl rfl (by omega) hs ?_; intro g c' w5 ho5 hg5)
        go_ret
        exact ⟨_, _, _, _, rfl, ho5, by omega, (hr2.grown hg5 (fun j hj => Nat.lt_of_lt_of_le hrb (ho2.block j hj))).more (by omega), hE2.grown hg5 (fun j hj => .inl (ho2.block j hj))⟩
      · have b0 : (y == 0) = false := by rw [beq_eq_false_iff_ne]; exact hy
        go_wp2_with fail
        go_ret
        exact ⟨_, _, _, _, rfl, ho2, by omega, hr2.more (by omega), hE2⟩


/-- What a function that draws one list leaves. -/
def OneR (w : World) (e : Ending) (w' : World) : Prop := ∃ a n c xs, e = .returned (.slice a n c) ∧ Ints w' a n xs ∧ Ext none w w'


end Go.Proofs.Ytnifgfnhcjhodaa
