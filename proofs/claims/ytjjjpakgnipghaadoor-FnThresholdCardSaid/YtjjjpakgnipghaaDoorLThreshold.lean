/- The walk of laws.FnThreshold: it returns true. Condition: the arguments are slices of bytes. -/
import Derived.Test.YtjjjpakgnipghaaDoorK2
import Derived.Test.YtjjjpakgnipghaaDoorJ3
import Derived.Test.YtjjjpakgnipghaaDoorRJ
import Derived.Test.YtjjjpakgnipghaaDoorD6
namespace Go.Proofs.YtjjjpakgnipghaaDoor
open Go.RowKit
set_option linter.unusedVariables false

theorem ExprDepth_lit {s : ByteArray} {w : World} {q : Int} (hs : s.size ≤ 9223372036854775807) (hq : depL (byt s) = q) :
    Calls Tryd.prog 15 #[.string s] w fun e w' => e = .returned (.int .i64 q) ∧ Ext none w w' := by
  rw [← hq]; exact ExprDepth_any hs
theorem okTh_false {k : Int} {n : Nat} {xs : List Int} (h : okTh k xs = false) (hn : xs.length = n) (hv : valid xs = true) : k < 1 ∨ (n : Int) < k := by
  unfold okTh at h
  rw [hv, hn, Bool.true_and, Bool.and_eq_false_iff, decide_eq_false_iff_not, decide_eq_false_iff_not] at h
  omega
set_option maxRecDepth 20000 in
set_option maxHeartbeats 2000000 in
theorem FnThreshold_walk {a : Option Addr} {n c : Nat} {a' : Option Addr} {n' c' : Nat} {w : World} (h : Bytes w a n c) (h' : Bytes w a' n' c') :
    Calls Tryd.prog 4 #[.slice a n c, .slice a' n' c'] w fun e w' => e = .returned (.bool true) ∧ Ext none w w' := by
  clear h'
  rcases Nat.lt_or_ge 1048576 n with hl | hl
  · have hlI : (1048576 : Int) < (n : Int) := by omega
    go_enter Tryd.func4, Tryd.ntmps4
    go_wp2_with fail
    go_ret
    exact ⟨rfl, Ext.refl _ _⟩
  have hlI : ¬ (1048576 : Int) < (n : Int) := by omega
  rcases Nat.lt_or_ge 1048576 n' with hl' | hl'
  · have hlI' : (1048576 : Int) < (n' : Int) := by omega
    go_enter Tryd.func4, Tryd.ntmps4
    go_wp2_with fail
    go_ret
    exact ⟨rfl, Ext.refl _ _⟩
  have hlI' : ¬ (1048576 : Int) < (n' : Int) := by omega
  go_enter Tryd.func4, Tryd.ntmps4
  go_wp2_with fail
  refine (DrawExprThreshold_any h).mono ?_; rintro e w_ ⟨k, a1, n1, c1, xs, rfl, hk0, hk7, ia, he⟩
  clear h
  cases hq : okTh k xs
  · have hno := Lib.hid (show bs (thrL k xs) = { data := #[] } from by rw [thr_no hq]; rfl)
    have hl := ia.len
    cases hv : valid xs
    · have HQ := Lib.hid hq
      clear hq hl
      go_wp2_with fail
      refine (sExprThreshold_is ia HQ.out).mono ?_; rintro e w_ ⟨rfl, e1⟩
      replace ia := ia.ext e1
      replace he := he.trans e1
      clear e1
      go_wp2_with fail
      refine (ExprThreshold_is ia HQ.out).mono ?_; rintro e w_ ⟨rfl, e1⟩
      replace ia := ia.ext e1
      replace he := he.trans e1
      clear e1
      rw [hno.out]
      go_wp2_with fail
      refine (SetValid_lit ia hv).mono ?_; rintro e w9 ⟨rfl, e9⟩
      go_wp2_with fail
      go_ret
      exact ⟨rfl, he.trans e9⟩
    · have hor := okTh_false hq hl hv
      have HQ := Lib.hid hq
      clear hq hl
      by_cases h1 : k < 1
      · clear hor
        go_wp2_with fail
        refine (sExprThreshold_is ia HQ.out).mono ?_; rintro e w_ ⟨rfl, e1⟩
        replace ia := ia.ext e1
        replace he := he.trans e1
        clear e1
        go_wp2_with fail
        refine (ExprThreshold_is ia HQ.out).mono ?_; rintro e w_ ⟨rfl, e1⟩
        replace ia := ia.ext e1
        replace he := he.trans e1
        clear e1
        rw [hno.out]
        go_wp2_with fail
        refine (SetValid_lit ia hv).mono ?_; rintro e w9 ⟨rfl, e9⟩
        go_wp2_with fail
        go_ret
        exact ⟨rfl, he.trans e9⟩
      · have h2 : (n1 : Int) < k := by omega
        clear hor
        go_wp2_with fail
        refine (sExprThreshold_is ia HQ.out).mono ?_; rintro e w_ ⟨rfl, e1⟩
        replace ia := ia.ext e1
        replace he := he.trans e1
        clear e1
        go_wp2_with fail
        refine (ExprThreshold_is ia HQ.out).mono ?_; rintro e w_ ⟨rfl, e1⟩
        replace ia := ia.ext e1
        replace he := he.trans e1
        clear e1
        rw [hno.out]
        go_wp2_with fail
        refine (SetValid_lit ia hv).mono ?_; rintro e w9 ⟨rfl, e9⟩
        go_wp2_with fail
        go_ret
        exact ⟨rfl, he.trans e9⟩
  · have HQ := Lib.hid hq
    obtain ⟨D, hD⟩ : ∃ D, D = bs (thrL k xs) := ⟨_, rfl⟩
    have hb : byt D = thrL k xs := by rw [hD, byt_bs]
    have hD9 : D.size ≤ 9223372036854775807 := by rw [hD, bs_size, thr_yes hq]; have := thr_len hq; omega
    have HD := Lib.hid hD
    have HM := Lib.hid (show membersE (byt D) = xs from by rw [hb, thr_mem hq])
    have HP := Lib.hid (show depL (byt D) = 1 from by rw [hb, thr_dep hq])
    have HS := Lib.hid (show ∀ ts, valid ts = true → satisfiedE (byt D) ts = decide (k ≤ ((interL xs ts).length : Int)) from fun ts ht => by rw [hb]; exact thr_sat hq ht)
    clear hq hD hb
    go_wp2_with fail
    refine (sExprThreshold_is ia HQ.out).mono ?_; rintro e w_ ⟨rfl, e1⟩
    replace ia := ia.ext e1
    replace he := he.trans e1
    clear e1
    go_wp2_with fail
    refine (ExprThreshold_is ia HQ.out).mono ?_; rintro e w_ ⟨rfl, e1⟩
    replace ia := ia.ext e1
    replace he := he.trans e1
    clear e1
    rw [← HD.out]
    go_wp2_with fail
    refine (setOf_any (by omega) (by omega)).mono ?_; rintro e w_z ⟨a_z, n_z, c_z, rfl, o_z, e_z⟩
    have i_z := o_z.ints
    replace ia := ia.ext e_z
    replace he := he.trans e_z
    clear o_z e_z
    have HT := Lib.hid (HS.out _ (mem_valid (setN_lt (n' : Int))))
    obtain ⟨t, ht⟩ : ∃ t, t = mem (setN (n' : Int)) := ⟨_, rfl⟩
    rw [← ht] at i_z HT
    clear ht
    by_cases hc : k ≤ ((interL xs t).length : Int)
    · have HT2 := Lib.hid (HT.out.trans (decide_eq_true hc))
      go_wp2_with fail
      refine (ExprSatisfied_is hD9 i_z HT2.out).mono ?_; rintro e w_ ⟨rfl, e1⟩
      replace ia := ia.ext e1
      replace i_z := i_z.ext e1
      replace he := he.trans e1
      clear e1
      go_wp2_with fail
      refine (SetIntersect_any ia i_z).mono ?_; rintro e w8 ⟨a8, n8, c8, rfl, o8, e8⟩
      rw [o8.len] at hc
      replace ia := ia.ext e8
      replace he := he.trans e8
      clear o8 e8
      go_wp2_with fail
      refine (ExprMembers_any hD9).mono ?_; rintro e w9 ⟨a9, n9, c9, rfl, o9, e9⟩
      rw [HM.out] at o9
      replace ia := ia.ext e9
      replace he := he.trans e9
      go_wp2_with fail
      refine (sameInts_lit o9.ints ia (same_refl _)).mono ?_; rintro e w_ ⟨rfl, d_⟩
      replace he := he.trans d_.ext
      clear d_
      go_wp2_with fail
      refine (ExprDepth_lit hD9 HP.out).mono ?_; rintro e w_ ⟨rfl, e1⟩
      replace he := he.trans e1
      clear e1
      go_wp2_with fail
      go_ret
      exact ⟨rfl, he⟩
    · have HT2 := Lib.hid (HT.out.trans (decide_eq_false hc))
      go_wp2_with fail
      refine (ExprSatisfied_is hD9 i_z HT2.out).mono ?_; rintro e w_ ⟨rfl, e1⟩
      replace ia := ia.ext e1
      replace i_z := i_z.ext e1
      replace he := he.trans e1
      clear e1
      go_wp2_with fail
      refine (SetIntersect_any ia i_z).mono ?_; rintro e w8 ⟨a8, n8, c8, rfl, o8, e8⟩
      rw [o8.len] at hc
      have hcd : decide (k ≤ (n8 : Int)) = false := decide_eq_false (by omega)
      replace ia := ia.ext e8
      replace he := he.trans e8
      clear o8 e8
      go_wp2_with fail
      refine (ExprMembers_any hD9).mono ?_; rintro e w9 ⟨a9, n9, c9, rfl, o9, e9⟩
      rw [HM.out] at o9
      replace ia := ia.ext e9
      replace he := he.trans e9
      go_wp2_with fail
      refine (sameInts_lit o9.ints ia (same_refl _)).mono ?_; rintro e w_ ⟨rfl, d_⟩
      replace he := he.trans d_.ext
      clear d_
      go_wp2_with fail
      refine (ExprDepth_lit hD9 HP.out).mono ?_; rintro e w_ ⟨rfl, e1⟩
      replace he := he.trans e1
      clear e1
      go_wp2_with fail
      go_ret
      exact ⟨rfl, he⟩
end Go.Proofs.YtjjjpakgnipghaaDoor
