/- The walk of laws.FnWrap: it returns true. Condition: the argument is a slice of bytes. -/
import Derived.Test.YtaphbgagpdodkaaD6
import Derived.Test.YtaphbgagpdodkaaLM2
import Derived.Test.YtaphbgagpdodkaaS7
import Derived.Test.YtaphbgagpdodkaaC8
namespace Go.Proofs.Ytaphbgagpdodkaa
open Go.RowKit
set_option linter.unusedVariables false

set_option maxHeartbeats 2000000 in
theorem FnWrap_walk {a : Option Addr} {n c : Nat} {w : World} (h : Bytes w a n c) :
    Calls Try.prog 5 #[.slice a n c] w fun e w' => e = .returned (.bool true) ∧ Ext none w w' := by
  rcases Nat.lt_or_ge 1048576 n with hl | hl
  · have hlI : (1048576 : Int) < (n : Int) := by omega
    go_enter Try.func5, Try.ntmps5
    go_wp2_with fail
    go_ret
    exact ⟨rfl, Ext.refl _ _⟩
  have hlI : ¬ (1048576 : Int) < (n : Int) := by omega
  go_enter Try.func5, Try.ntmps5
  go_wp2_with fail
  refine (DrawExprSatisfied_any h).mono ?_; rintro e w_ ⟨s, a1, n1, c1, xs, rfl, hs, ia, he⟩
  clear h
  have hsz : s.size ≤ 9223372036854775807 := by omega
  go_wp2_with fail
  refine (ExprSatisfied_any hsz ia).mono ?_; rintro e w_ ⟨rfl, h1⟩
  replace ia := ia.ext h1
  replace he := he.trans h1
  clear h1
  go_wp2_with fail
  refine (sExprSatisfied_any hsz ia).mono ?_; rintro e w_ ⟨rfl, h1⟩
  replace ia := ia.ext h1
  replace he := he.trans h1
  clear h1
  cases hok : okE (byt s)
  · skip
    go_wp2_with fail
    refine (sExprValid_any hsz).mono ?_; rintro e w_ ⟨rfl, rfl⟩
    go_wp2_with fail
    refine (sExprSatisfied_any hsz ia).mono ?_; rintro e w_ ⟨rfl, h1⟩
    replace he := he.trans h1
    clear h1
    go_wp2_with fail
    go_ret
    exact ⟨rfl, he⟩
  · skip
    go_wp2_with fail
    refine (sExprValid_any hsz).mono ?_; rintro e w_ ⟨rfl, rfl⟩
    by_cases hl : s.size + 3 ≤ 40
    · have hz : ((⟨#[49, 40]⟩ : ByteArray) ++ s).size = s.size + 2 := by rw [cat_size]; show 2 + s.size = _; omega
      have hz2 : ((⟨#[49, 40]⟩ : ByteArray) ++ s).size ≤ 100 := by omega
      have hz3 : ((⟨#[49, 40]⟩ : ByteArray) ++ s ++ (⟨#[41]⟩ : ByteArray)).size ≤ 9223372036854775807 := by rw [cat_size, hz]; show s.size + 2 + 1 ≤ _; omega
      have hlaw := Lib.hid (show satisfiedE (byt ((⟨#[49, 40]⟩ : ByteArray) ++ s ++ (⟨#[41]⟩ : ByteArray))) xs = satisfiedE (byt s) xs from by
        rw [byt_cat, byt_cat]; exact wrap_law hok (by rw [byt_len]; exact hl) xs)
      clear hz
      go_wp2_with fail
      refine (ExprSatisfied_any hz3 ia).mono ?_; rintro e w_ ⟨rfl, h1⟩
      replace he := he.trans h1
      clear h1
      rw [hlaw.out]
      go_wp2_with fail
      go_ret
      exact ⟨rfl, he⟩
    · skip
      go_wp2_with fail
      refine (sExprSatisfied_any hsz ia).mono ?_; rintro e w_ ⟨rfl, h1⟩
      replace he := he.trans h1
      clear h1
      go_wp2_with fail
      go_ret
      exact ⟨rfl, he⟩
end Go.Proofs.Ytaphbgagpdodkaa
