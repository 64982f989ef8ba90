/- The quorum systems of package impl: FamilyTransversals, WeightsFamily. Conditions: each lemma's own. -/
import Derived.Test.YtjjjpakgnipghaaRB
import Derived.Test.YtjjjpakgnipghaaPI
import Derived.Test.YtjjjpakgnipghaaC4
import Derived.Test.YtjjjpakgnipghaaPQ
import Derived.Test.YtjjjpakgnipghaaSF
namespace Go.Proofs.Ytjjjpakgnipghaa
open Go.RowKit
set_option linter.unusedVariables false

set_option maxHeartbeats 400000 in
theorem meets_is {c d : Nat} {q : Bool} {w : World} (hc : c < 64) (hd : d < 64) (hq : decide (c &&& d ≠ 0) = q) :
    Calls Try.prog 108 #[.int .u64 c, .int .u64 d] w fun e w' => e = .returned (.bool q) ∧ w = w' := by
  have key : (bits BinOp.and IntKind.u64 (↑c) (↑d) != 0) = q := by
    rw [bits_and c d hc hd, ← hq]
    by_cases h : c &&& d = 0
    · rw [h]; rfl
    · have h2 : ((c &&& d : Nat) : Int) ≠ 0 := by omega
      rw [decide_eq_true h, bne_iff_ne]; exact h2
  have K := Lib.hid key
  clear key
  go_enter Try.func108, Try.ntmps108
  go_wp2_with fail
  go_ret
  exact ⟨congrArg (fun x => Ending.returned (.bool x)) K.out, rfl⟩
theorem hitsT_step (q : List Nat) (c k : Nat) (h : k < q.length) : hitsQ (q.take (k + 1)) c = (hitsQ (q.take k) c && decide (q.getD k 0 &&& c ≠ 0)) := by
  rw [snoc_take q 0 k h]; unfold hitsQ; rw [List.all_append]; simp
theorem hitsT_take {q : List Nat} {c k : Nat} (h : hitsQ (q.take k) c = false) : hitsQ q c = false := by
  cases hq : hitsQ q c
  · rfl
  · exfalso
    unfold hitsQ at *
    rw [List.all_eq_true] at hq
    have : (q.take k).all (fun x => decide (x &&& c ≠ 0)) = true := by
      rw [List.all_eq_true]; exact fun x hx => hq x (List.mem_of_mem_take hx)
    rw [this] at h; cases h

set_option maxHeartbeats 1000000 in
theorem transTest {p1 : Addr} {a : Option Addr} {n c x : Nat} {q : List Nat} {w : World} (hc : w.cell? p1 = some (.slice a n c)) (hq : Crs w a n q) (h64 : ∀ x ∈ q, x < 64) (hx : x < 64) :
    Calls Try.prog 107 #[.int .u64 (x : Nat), .pointer (some p1)] w fun e w' => e = .returned (.bool (hitsQ q x)) ∧ Ext none w w' := by
  have hl := Lib.hid hq.len
  have hm := hq.max
  have HQ := Lib.hid hq
  have H64 := Lib.hid h64
  clear hq h64
  go_enter Try.func107, Try.ntmps107
  go_wp2_with fail
  go_loop [8] (fun i => ∃ k : Nat, k ≤ n ∧ i = .int .i64 k ∧ hitsQ (q.take k) x = true)
    (fun i => n - (intOf i).toNat)
  case atStart => exact ⟨0, by omega, rfl, rfl⟩
  case round =>
    obtain ⟨k, hk, rfl, ht⟩ := hrel
    have HT := Lib.hid ht
    clear ht
    by_cases hlt : k < n
    · have hltI : (k : Int) < (n : Int) := by omega
      have hkl : k < q.length := by rw [hl.out]; exact hlt
      obtain ⟨b, off, rfl, hc1⟩ := HQ.out.cell hlt
      have hst := Lib.hid (hitsT_step q x k hkl)
      have hy := getD_lt H64.out hkl
      obtain ⟨y, hyy⟩ : ∃ y, y = q.getD k 0 := ⟨_, rfl⟩
      rw [← hyy] at hc1 hy hst
      clear hyy
      cases hd : decide (y &&& x ≠ 0)
      · have hno := Lib.hid (show hitsQ q x = false from hitsT_take (k := k + 1) (by rw [hst.out, hd, Bool.and_false]))
        go_wp2_with fail
        refine (meets_is hy hx hd).mono ?_; rintro e w_ ⟨rfl, rfl⟩
        go_wp2_with fail
        go_ret
        exact ⟨retB hno.out, Ext.refl _ _⟩
      · have hnx := Lib.hid (show hitsQ (q.take (k + 1)) x = true from by rw [hst.out, hd, HT.out]; rfl)
        go_wp2_with fail
        refine (meets_is hy hx hd).mono ?_; rintro e w_ ⟨rfl, rfl⟩
        go_wp2_with fail
        go_round
        case rel => exact ⟨k + 1, by omega, by go_num, hnx.out⟩
        case measure => simp [intOf]; omega
    · obtain rfl : k = n := by omega
      have hyes := Lib.hid (show hitsQ q x = true from by
        have := HT.out; rwa [List.take_of_length_le (by rw [hl.out]; exact Nat.le_refl _)] at this)
      go_wp2_with fail
      go_ret
      exact ⟨retB hyes.out, Ext.refl _ _⟩

set_option maxHeartbeats 1000000 in
theorem FamilyTransversals_any {a : Option Addr} {n cp : Nat} {f : List (List Int)} {w : World} (h : Fam w a n f) :
    Calls Try.prog 80 #[.slice a n cp] w (RGB w (transL f) (okT f)) := by
  cases hv : famB f
  · have hno := Lib.hid (show okT f = false from by unfold okT; rw [hv]; rfl)
    have hno2 := Lib.hid (transL_no hno.out)
    go_enter Try.func80, Try.ntmps80
    go_wp2_with fail
    refine (readFamily_is h hv).mono ?_; rintro e w1 ⟨a1, n1, c1, rfl, ho, he⟩
    go_wp2_with fail
    go_ret2
    exact ⟨_, _, _, by rw [hno.out]; rfl, by rw [hno2.out]; exact OwnG.nil _ _ _, he.alloc _⟩
  · have hrd : rdF f = masks f := by unfold rdF; rw [hv]; rfl
    have hlt64 := masks_lt hv
    have hl := h.len
    go_enter Try.func80, Try.ntmps80
    go_wp2_with fail
    refine (readFamily_is h hv).mono ?_; rintro e w1 ⟨a1, n1, c1, rfl, ho, he⟩
    rw [hrd] at ho
    have hl1 := ho.len
    rw [masks_len, hl] at hl1
    subst hl1
    have hcr := ho.crs
    clear ho h
    by_cases h0 : n = 0
    · have hno := Lib.hid (show okT f = false from by rw [okT_len hv, decide_eq_false_iff_not]; omega)
      have hno2 := Lib.hid (transL_no hno.out)
      subst h0
      go_wp2_with fail
      go_ret2
      exact ⟨_, _, _, by rw [hno.out]; rfl, by rw [hno2.out]; exact OwnG.nil _ _ _, he.alloc _⟩
    · have hne : ((n : Int) == 0) = false := by rw [beq_eq_false_iff_ne]; omega
      have hyes := Lib.hid (show okT f = true from by rw [okT_len hv, decide_eq_true_eq]; omega)
      have hyes2 := Lib.hid (show transL f = famL (minOf (hitsQ (masks f))) from transL_yes hyes.out)
      have hE := Lib.hid (he.alloc (.cells #[.slice a1 n c1] 65))
      have hT := Lib.hid (show ∀ x : Nat, x < 64 → ∀ W, Ext none (w1.alloc (.cells #[.slice a1 n c1] 65)) W → Calls Try.prog 107 #[.int .u64 (x : Nat), .pointer (some ⟨w1.heap.size, 0, none⟩)] W fun e W' => e = .returned (.bool (hitsQ (masks f) x)) ∧ Ext none W W' from
        fun x hx W hW => transTest (hW.cell (Boxed.new w1 _ _).cell) (hcr.ext (((Ext.refl _ _).alloc _).trans hW)) hlt64 hx)
      clear hcr he hl
      go_wp2_with fail
      refine (minWhereFamilyTransversals_any hT.out).mono ?_; rintro e w3 ⟨a3, n3, c3, rfl, o3, e3⟩
      have hn3 := Lib.hid (show n3 ≤ 900000 from by rw [← o3.len]; exact Nat.le_trans (List.length_filter_le _ _) (by simp))
      go_wp2_with fail
      refine (lists_any o3.crs (fun x hx => minOf_lt hx) hn3.out).mono ?_; rintro e w4 ⟨a4, n4, c4, rfl, o4, e4⟩
      go_wp2_with fail
      go_ret2
      exact ⟨a4, n4, c4, by rw [hyes.out]; rfl, by rw [hyes2.out]; exact o4.low (hE.out.trans e3).size, (hE.out.trans e3).trans e4⟩

/-! votes -/
end Go.Proofs.Ytjjjpakgnipghaa
