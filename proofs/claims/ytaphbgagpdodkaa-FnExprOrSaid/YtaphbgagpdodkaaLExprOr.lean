/- The walk of laws.FnExprOr: it returns true. Condition: the arguments are slices of bytes. -/
import Derived.Test.YtaphbgagpdodkaaD6
import Derived.Test.YtaphbgagpdodkaaLM2
import Derived.Test.YtaphbgagpdodkaaS7
import Derived.Test.YtaphbgagpdodkaaC8
namespace Go.Proofs.Ytaphbgagpdodkaa
open Go.RowKit
set_option linter.unusedVariables false

theorem text_join (s : ByteArray) (a b c d : UInt8) : [a, b] ++ byt s ++ [44] ++ [c] ++ [d] = a :: b :: (byt s ++ 44 :: c :: [d]) := by simp
theorem join_size (p s d : ByteArray) (k : Nat) (hp : p.size = k) (hs : s.size ≤ 100) (hd : d.size = 1) (hk : k ≤ 2 := by decide) :
    (p ++ s).size ≤ 102 ∧ (p ++ s ++ (⟨#[44]⟩ : ByteArray)).size ≤ 103 ∧ (p ++ s ++ (⟨#[44]⟩ : ByteArray) ++ d).size ≤ 104 ∧ (p ++ s ++ (⟨#[44]⟩ : ByteArray) ++ d ++ (⟨#[41]⟩ : ByteArray)).size ≤ 9223372036854775807 := by
  have h1 : (⟨#[44]⟩ : ByteArray).size = 1 := rfl
  have h2 : (⟨#[41]⟩ : ByteArray).size = 1 := rfl
  simp only [cat_size, h1, h2]
  omega

set_option maxHeartbeats 2000000 in
theorem FnExprOr_walk {a : Option Addr} {n c : Nat} {a' : Option Addr} {n' c' : Nat} {w : World} (h : Bytes w a n c) (h' : Bytes w a' n' c') :
    Calls Try.prog 7 #[.slice a n c, .slice a' n' c'] w fun e w' => e = .returned (.bool true) ∧ Ext none w w' := by
  clear h'
  rcases Nat.lt_or_ge 1048576 n with hl | hl
  · have hlI : (1048576 : Int) < (n : Int) := by omega
    go_enter Try.func7, Try.ntmps7
    go_wp2_with fail
    go_ret
    exact ⟨rfl, Ext.refl _ _⟩
  have hlI : ¬ (1048576 : Int) < (n : Int) := by omega
  rcases Nat.lt_or_ge 1048576 n' with hl' | hl'
  · have hlI' : (1048576 : Int) < (n' : Int) := by omega
    go_enter Try.func7, Try.ntmps7
    go_wp2_with fail
    go_ret
    exact ⟨rfl, Ext.refl _ _⟩
  have hlI' : ¬ (1048576 : Int) < (n' : Int) := by omega
  go_enter Try.func7, Try.ntmps7
  go_wp2_with fail
  refine (DrawExprSatisfied_any h).mono ?_; rintro e w_ ⟨s, a1, n1, c1, xs, rfl, hs, ia, he⟩
  clear h
  have hsz : s.size ≤ 9223372036854775807 := by omega
  go_wp2_with fail
  refine (ExprSatisfied_any hsz ia).mono ?_; rintro e w_ ⟨rfl, h1⟩
  replace ia := ia.ext h1
  replace he := he.trans h1
  clear h1
  go_wp2_with fail
  refine (sExprSatisfied_any hsz ia).mono ?_; rintro e w_ ⟨rfl, h1⟩
  replace ia := ia.ext h1
  replace he := he.trans h1
  clear h1
  cases hok : okE (byt s)
  · skip
    go_wp2_with fail
    refine (sExprValid_any hsz).mono ?_; rintro e w_ ⟨rfl, rfl⟩
    go_wp2_with fail
    refine (sExprSatisfied_any hsz ia).mono ?_; rintro e w_ ⟨rfl, h1⟩
    replace he := he.trans h1
    clear h1
    go_wp2_with fail
    go_ret
    exact ⟨rfl, he⟩
  · skip
    go_wp2_with fail
    refine (sExprValid_any hsz).mono ?_; rintro e w_ ⟨rfl, rfl⟩
    cases hv : valid xs
    · skip
      go_wp2_with fail
      refine (sSetValid_any ia).mono ?_; rintro e w_ ⟨rfl, d_⟩
      replace ia := ia.ext d_.ext
      replace he := he.trans d_.ext
      clear d_
      go_wp2_with fail
      refine (sExprSatisfied_any hsz ia).mono ?_; rintro e w_ ⟨rfl, h1⟩
      replace he := he.trans h1
      clear h1
      go_wp2_with fail
      go_ret
      exact ⟨rfl, he⟩
    · skip
      go_wp2_with fail
      refine (sSetValid_any ia).mono ?_; rintro e w_ ⟨rfl, d_⟩
      replace ia := ia.ext d_.ext
      replace he := he.trans d_.ext
      clear d_
      by_cases hl : s.size + 5 ≤ 40
      · have hl' := Lib.hid (show (byt s).length + 5 ≤ 40 from by rw [byt_len]; exact hl)
        have hm : n' % 6 < 6 := Nat.mod_lt _ (by omega)
        obtain ⟨j, hj⟩ : ∃ j, j = n' % 6 := ⟨_, rfl⟩
        rw [← hj] at hm
        have e1 : (n' : Int) % 6 = (j : Int) := by omega
        clear hj
        have hj6 : j = 0 ∨ j = 1 ∨ j = 2 ∨ j = 3 ∨ j = 4 ∨ j = 5 := by omega
        clear hm
        rcases hj6 with rfl | rfl | rfl | rfl | rfl | rfl
        · have hlaw := Lib.hid (or_law (m := 1) hok hl'.out hv (by omega) (by omega))
          have t1 := Lib.hid (show byt ((⟨#[49, 40]⟩ : ByteArray) ++ s ++ (⟨#[44]⟩ : ByteArray) ++ (⟨#[49, 50, 51, 52, 53, 54]⟩ : ByteArray).extract 0 1 ++ (⟨#[41]⟩ : ByteArray)) = Fo.dg 1 :: 40 :: (byt s ++ 44 :: Fo.dg 1 :: [41]) from by
            rw [byt_cat, byt_cat, byt_cat, byt_cat, show byt ((⟨#[49, 50, 51, 52, 53, 54]⟩ : ByteArray).extract 0 1) = [Fo.dg 1] from by decide]; exact text_join s _ _ _ _)
          have t2 := Lib.hid (show byt ((⟨#[50, 40]⟩ : ByteArray) ++ s ++ (⟨#[44]⟩ : ByteArray) ++ (⟨#[49, 50, 51, 52, 53, 54]⟩ : ByteArray).extract 0 1 ++ (⟨#[41]⟩ : ByteArray)) = Fo.dg 2 :: 40 :: (byt s ++ 44 :: Fo.dg 1 :: [41]) from by
            rw [byt_cat, byt_cat, byt_cat, byt_cat, show byt ((⟨#[49, 50, 51, 52, 53, 54]⟩ : ByteArray).extract 0 1) = [Fo.dg 1] from by decide]; exact text_join s _ _ _ _)
          have z0 : ((⟨#[49, 50, 51, 52, 53, 54]⟩ : ByteArray).extract 0 1).size = 1 := by decide
          have z1 := join_size (⟨#[49, 40]⟩ : ByteArray) s _ 2 rfl hs z0
          have z2 := join_size (⟨#[50, 40]⟩ : ByteArray) s _ 2 rfl hs z0
          obtain ⟨z11, z12, z13, z14⟩ := z1
          obtain ⟨z21, z22, z23, z24⟩ := z2
          go_wp2_with fail
          refine (ExprSatisfied_any z14 ia).mono ?_; rintro e w_ ⟨rfl, h1⟩
          replace ia := ia.ext h1
          replace he := he.trans h1
          clear h1
          rw [t1.out, hlaw.out.1]
          cases hA : satisfiedE (byt s) xs
          · rw [Bool.false_or]
            go_wp2_with fail
            refine (SetContains_any ia).mono ?_; rintro e w_ ⟨rfl, rfl⟩
            go_wp2_with fail
            refine (ExprSatisfied_any z24 ia).mono ?_; rintro e w_ ⟨rfl, h1⟩
            replace ia := ia.ext h1
            replace he := he.trans h1
            clear h1
            rw [t2.out, hlaw.out.2, hA, Bool.false_and]
            go_wp2_with fail
            go_ret
            exact ⟨rfl, he⟩
          · rw [Bool.true_or]
            go_wp2_with fail
            refine (ExprSatisfied_any z24 ia).mono ?_; rintro e w_ ⟨rfl, h1⟩
            replace ia := ia.ext h1
            replace he := he.trans h1
            clear h1
            rw [t2.out, hlaw.out.2, hA, Bool.true_and]
            go_wp2_with fail
            refine (SetContains_any ia).mono ?_; rintro e w_ ⟨rfl, rfl⟩
            go_wp2_with fail
            go_ret
            exact ⟨rfl, he⟩
        · have hlaw := Lib.hid (or_law (m := 2) hok hl'.out hv (by omega) (by omega))
          have t1 := Lib.hid (show byt ((⟨#[49, 40]⟩ : ByteArray) ++ s ++ (⟨#[44]⟩ : ByteArray) ++ (⟨#[49, 50, 51, 52, 53, 54]⟩ : ByteArray).extract 1 2 ++ (⟨#[41]⟩ : ByteArray)) = Fo.dg 1 :: 40 :: (byt s ++ 44 :: Fo.dg 2 :: [41]) from by
            rw [byt_cat, byt_cat, byt_cat, byt_cat, show byt ((⟨#[49, 50, 51, 52, 53, 54]⟩ : ByteArray).extract 1 2) = [Fo.dg 2] from by decide]; exact text_join s _ _ _ _)
          have t2 := Lib.hid (show byt ((⟨#[50, 40]⟩ : ByteArray) ++ s ++ (⟨#[44]⟩ : ByteArray) ++ (⟨#[49, 50, 51, 52, 53, 54]⟩ : ByteArray).extract 1 2 ++ (⟨#[41]⟩ : ByteArray)) = Fo.dg 2 :: 40 :: (byt s ++ 44 :: Fo.dg 2 :: [41]) from by
            rw [byt_cat, byt_cat, byt_cat, byt_cat, show byt ((⟨#[49, 50, 51, 52, 53, 54]⟩ : ByteArray).extract 1 2) = [Fo.dg 2] from by decide]; exact text_join s _ _ _ _)
          have z0 : ((⟨#[49, 50, 51, 52, 53, 54]⟩ : ByteArray).extract 1 2).size = 1 := by decide
          have z1 := join_size (⟨#[49, 40]⟩ : ByteArray) s _ 2 rfl hs z0
          have z2 := join_size (⟨#[50, 40]⟩ : ByteArray) s _ 2 rfl hs z0
          obtain ⟨z11, z12, z13, z14⟩ := z1
          obtain ⟨z21, z22, z23, z24⟩ := z2
          go_wp2_with fail
          refine (ExprSatisfied_any z14 ia).mono ?_; rintro e w_ ⟨rfl, h1⟩
          replace ia := ia.ext h1
          replace he := he.trans h1
          clear h1
          rw [t1.out, hlaw.out.1]
          cases hA : satisfiedE (byt s) xs
          · rw [Bool.false_or]
            go_wp2_with fail
            refine (SetContains_any ia).mono ?_; rintro e w_ ⟨rfl, rfl⟩
            go_wp2_with fail
            refine (ExprSatisfied_any z24 ia).mono ?_; rintro e w_ ⟨rfl, h1⟩
            replace ia := ia.ext h1
            replace he := he.trans h1
            clear h1
            rw [t2.out, hlaw.out.2, hA, Bool.false_and]
            go_wp2_with fail
            go_ret
            exact ⟨rfl, he⟩
          · rw [Bool.true_or]
            go_wp2_with fail
            refine (ExprSatisfied_any z24 ia).mono ?_; rintro e w_ ⟨rfl, h1⟩
            replace ia := ia.ext h1
            replace he := he.trans h1
            clear h1
            rw [t2.out, hlaw.out.2, hA, Bool.true_and]
            go_wp2_with fail
            refine (SetContains_any ia).mono ?_; rintro e w_ ⟨rfl, rfl⟩
            go_wp2_with fail
            go_ret
            exact ⟨rfl, he⟩
        · have hlaw := Lib.hid (or_law (m := 3) hok hl'.out hv (by omega) (by omega))
          have t1 := Lib.hid (show byt ((⟨#[49, 40]⟩ : ByteArray) ++ s ++ (⟨#[44]⟩ : ByteArray) ++ (⟨#[49, 50, 51, 52, 53, 54]⟩ : ByteArray).extract 2 3 ++ (⟨#[41]⟩ : ByteArray)) = Fo.dg 1 :: 40 :: (byt s ++ 44 :: Fo.dg 3 :: [41]) from by
            rw [byt_cat, byt_cat, byt_cat, byt_cat, show byt ((⟨#[49, 50, 51, 52, 53, 54]⟩ : ByteArray).extract 2 3) = [Fo.dg 3] from by decide]; exact text_join s _ _ _ _)
          have t2 := Lib.hid (show byt ((⟨#[50, 40]⟩ : ByteArray) ++ s ++ (⟨#[44]⟩ : ByteArray) ++ (⟨#[49, 50, 51, 52, 53, 54]⟩ : ByteArray).extract 2 3 ++ (⟨#[41]⟩ : ByteArray)) = Fo.dg 2 :: 40 :: (byt s ++ 44 :: Fo.dg 3 :: [41]) from by
            rw [byt_cat, byt_cat, byt_cat, byt_cat, show byt ((⟨#[49, 50, 51, 52, 53, 54]⟩ : ByteArray).extract 2 3) = [Fo.dg 3] from by decide]; exact text_join s _ _ _ _)
          have z0 : ((⟨#[49, 50, 51, 52, 53, 54]⟩ : ByteArray).extract 2 3).size = 1 := by decide
          have z1 := join_size (⟨#[49, 40]⟩ : ByteArray) s _ 2 rfl hs z0
          have z2 := join_size (⟨#[50, 40]⟩ : ByteArray) s _ 2 rfl hs z0
          obtain ⟨z11, z12, z13, z14⟩ := z1
          obtain ⟨z21, z22, z23, z24⟩ := z2
          go_wp2_with fail
          refine (ExprSatisfied_any z14 ia).mono ?_; rintro e w_ ⟨rfl, h1⟩
          replace ia := ia.ext h1
          replace he := he.trans h1
          clear h1
          rw [t1.out, hlaw.out.1]
          cases hA : satisfiedE (byt s) xs
          · rw [Bool.false_or]
            go_wp2_with fail
            refine (SetContains_any ia).mono ?_; rintro e w_ ⟨rfl, rfl⟩
            go_wp2_with fail
            refine (ExprSatisfied_any z24 ia).mono ?_; rintro e w_ ⟨rfl, h1⟩
            replace ia := ia.ext h1
            replace he := he.trans h1
            clear h1
            rw [t2.out, hlaw.out.2, hA, Bool.false_and]
            go_wp2_with fail
            go_ret
            exact ⟨rfl, he⟩
          · rw [Bool.true_or]
            go_wp2_with fail
            refine (ExprSatisfied_any z24 ia).mono ?_; rintro e w_ ⟨rfl, h1⟩
            replace ia := ia.ext h1
            replace he := he.trans h1
            clear h1
            rw [t2.out, hlaw.out.2, hA, Bool.true_and]
            go_wp2_with fail
            refine (SetContains_any ia).mono ?_; rintro e w_ ⟨rfl, rfl⟩
            go_wp2_with fail
            go_ret
            exact ⟨rfl, he⟩
        · have hlaw := Lib.hid (or_law (m := 4) hok hl'.out hv (by omega) (by omega))
          have t1 := Lib.hid (show byt ((⟨#[49, 40]⟩ : ByteArray) ++ s ++ (⟨#[44]⟩ : ByteArray) ++ (⟨#[49, 50, 51, 52, 53, 54]⟩ : ByteArray).extract 3 4 ++ (⟨#[41]⟩ : ByteArray)) = Fo.dg 1 :: 40 :: (byt s ++ 44 :: Fo.dg 4 :: [41]) from by
            rw [byt_cat, byt_cat, byt_cat, byt_cat, show byt ((⟨#[49, 50, 51, 52, 53, 54]⟩ : ByteArray).extract 3 4) = [Fo.dg 4] from by decide]; exact text_join s _ _ _ _)
          have t2 := Lib.hid (show byt ((⟨#[50, 40]⟩ : ByteArray) ++ s ++ (⟨#[44]⟩ : ByteArray) ++ (⟨#[49, 50, 51, 52, 53, 54]⟩ : ByteArray).extract 3 4 ++ (⟨#[41]⟩ : ByteArray)) = Fo.dg 2 :: 40 :: (byt s ++ 44 :: Fo.dg 4 :: [41]) from by
            rw [byt_cat, byt_cat, byt_cat, byt_cat, show byt ((⟨#[49, 50, 51, 52, 53, 54]⟩ : ByteArray).extract 3 4) = [Fo.dg 4] from by decide]; exact text_join s _ _ _ _)
          have z0 : ((⟨#[49, 50, 51, 52, 53, 54]⟩ : ByteArray).extract 3 4).size = 1 := by decide
          have z1 := join_size (⟨#[49, 40]⟩ : ByteArray) s _ 2 rfl hs z0
          have z2 := join_size (⟨#[50, 40]⟩ : ByteArray) s _ 2 rfl hs z0
          obtain ⟨z11, z12, z13, z14⟩ := z1
          obtain ⟨z21, z22, z23, z24⟩ := z2
          go_wp2_with fail
          refine (ExprSatisfied_any z14 ia).mono ?_; rintro e w_ ⟨rfl, h1⟩
          replace ia := ia.ext h1
          replace he := he.trans h1
          clear h1
          rw [t1.out, hlaw.out.1]
          cases hA : satisfiedE (byt s) xs
          · rw [Bool.false_or]
            go_wp2_with fail
            refine (SetContains_any ia).mono ?_; rintro e w_ ⟨rfl, rfl⟩
            go_wp2_with fail
            refine (ExprSatisfied_any z24 ia).mono ?_; rintro e w_ ⟨rfl, h1⟩
            replace ia := ia.ext h1
            replace he := he.trans h1
            clear h1
            rw [t2.out, hlaw.out.2, hA, Bool.false_and]
            go_wp2_with fail
            go_ret
            exact ⟨rfl, he⟩
          · rw [Bool.true_or]
            go_wp2_with fail
            refine (ExprSatisfied_any z24 ia).mono ?_; rintro e w_ ⟨rfl, h1⟩
            replace ia := ia.ext h1
            replace he := he.trans h1
            clear h1
            rw [t2.out, hlaw.out.2, hA, Bool.true_and]
            go_wp2_with fail
            refine (SetContains_any ia).mono ?_; rintro e w_ ⟨rfl, rfl⟩
            go_wp2_with fail
            go_ret
            exact ⟨rfl, he⟩
        · have hlaw := Lib.hid (or_law (m := 5) hok hl'.out hv (by omega) (by omega))
          have t1 := Lib.hid (show byt ((⟨#[49, 40]⟩ : ByteArray) ++ s ++ (⟨#[44]⟩ : ByteArray) ++ (⟨#[49, 50, 51, 52, 53, 54]⟩ : ByteArray).extract 4 5 ++ (⟨#[41]⟩ : ByteArray)) = Fo.dg 1 :: 40 :: (byt s ++ 44 :: Fo.dg 5 :: [41]) from by
            rw [byt_cat, byt_cat, byt_cat, byt_cat, show byt ((⟨#[49, 50, 51, 52, 53, 54]⟩ : ByteArray).extract 4 5) = [Fo.dg 5] from by decide]; exact text_join s _ _ _ _)
          have t2 := Lib.hid (show byt ((⟨#[50, 40]⟩ : ByteArray) ++ s ++ (⟨#[44]⟩ : ByteArray) ++ (⟨#[49, 50, 51, 52, 53, 54]⟩ : ByteArray).extract 4 5 ++ (⟨#[41]⟩ : ByteArray)) = Fo.dg 2 :: 40 :: (byt s ++ 44 :: Fo.dg 5 :: [41]) from by
            rw [byt_cat, byt_cat, byt_cat, byt_cat, show byt ((⟨#[49, 50, 51, 52, 53, 54]⟩ : ByteArray).extract 4 5) = [Fo.dg 5] from by decide]; exact text_join s _ _ _ _)
          have z0 : ((⟨#[49, 50, 51, 52, 53, 54]⟩ : ByteArray).extract 4 5).size = 1 := by decide
          have z1 := join_size (⟨#[49, 40]⟩ : ByteArray) s _ 2 rfl hs z0
          have z2 := join_size (⟨#[50, 40]⟩ : ByteArray) s _ 2 rfl hs z0
          obtain ⟨z11, z12, z13, z14⟩ := z1
          obtain ⟨z21, z22, z23, z24⟩ := z2
          go_wp2_with fail
          refine (ExprSatisfied_any z14 ia).mono ?_; rintro e w_ ⟨rfl, h1⟩
          replace ia := ia.ext h1
          replace he := he.trans h1
          clear h1
          rw [t1.out, hlaw.out.1]
          cases hA : satisfiedE (byt s) xs
          · rw [Bool.false_or]
            go_wp2_with fail
            refine (SetContains_any ia).mono ?_; rintro e w_ ⟨rfl, rfl⟩
            go_wp2_with fail
            refine (ExprSatisfied_any z24 ia).mono ?_; rintro e w_ ⟨rfl, h1⟩
            replace ia := ia.ext h1
            replace he := he.trans h1
            clear h1
            rw [t2.out, hlaw.out.2, hA, Bool.false_and]
            go_wp2_with fail
            go_ret
            exact ⟨rfl, he⟩
          · rw [Bool.true_or]
            go_wp2_with fail
            refine (ExprSatisfied_any z24 ia).mono ?_; rintro e w_ ⟨rfl, h1⟩
            replace ia := ia.ext h1
            replace he := he.trans h1
            clear h1
            rw [t2.out, hlaw.out.2, hA, Bool.true_and]
            go_wp2_with fail
            refine (SetContains_any ia).mono ?_; rintro e w_ ⟨rfl, rfl⟩
            go_wp2_with fail
            go_ret
            exact ⟨rfl, he⟩
        · have hlaw := Lib.hid (or_law (m := 6) hok hl'.out hv (by omega) (by omega))
          have t1 := Lib.hid (show byt ((⟨#[49, 40]⟩ : ByteArray) ++ s ++ (⟨#[44]⟩ : ByteArray) ++ (⟨#[49, 50, 51, 52, 53, 54]⟩ : ByteArray).extract 5 6 ++ (⟨#[41]⟩ : ByteArray)) = Fo.dg 1 :: 40 :: (byt s ++ 44 :: Fo.dg 6 :: [41]) from by
            rw [byt_cat, byt_cat, byt_cat, byt_cat, show byt ((⟨#[49, 50, 51, 52, 53, 54]⟩ : ByteArray).extract 5 6) = [Fo.dg 6] from by decide]; exact text_join s _ _ _ _)
          have t2 := Lib.hid (show byt ((⟨#[50, 40]⟩ : ByteArray) ++ s ++ (⟨#[44]⟩ : ByteArray) ++ (⟨#[49, 50, 51, 52, 53, 54]⟩ : ByteArray).extract 5 6 ++ (⟨#[41]⟩ : ByteArray)) = Fo.dg 2 :: 40 :: (byt s ++ 44 :: Fo.dg 6 :: [41]) from by
            rw [byt_cat, byt_cat, byt_cat, byt_cat, show byt ((⟨#[49, 50, 51, 52, 53, 54]⟩ : ByteArray).extract 5 6) = [Fo.dg 6] from by decide]; exact text_join s _ _ _ _)
          have z0 : ((⟨#[49, 50, 51, 52, 53, 54]⟩ : ByteArray).extract 5 6).size = 1 := by decide
          have z1 := join_size (⟨#[49, 40]⟩ : ByteArray) s _ 2 rfl hs z0
          have z2 := join_size (⟨#[50, 40]⟩ : ByteArray) s _ 2 rfl hs z0
          obtain ⟨z11, z12, z13, z14⟩ := z1
          obtain ⟨z21, z22, z23, z24⟩ := z2
          go_wp2_with fail
          refine (ExprSatisfied_any z14 ia).mono ?_; rintro e w_ ⟨rfl, h1⟩
          replace ia := ia.ext h1
          replace he := he.trans h1
          clear h1
          rw [t1.out, hlaw.out.1]
          cases hA : satisfiedE (byt s) xs
          · rw [Bool.false_or]
            go_wp2_with fail
            refine (SetContains_any ia).mono ?_; rintro e w_ ⟨rfl, rfl⟩
            go_wp2_with fail
            refine (ExprSatisfied_any z24 ia).mono ?_; rintro e w_ ⟨rfl, h1⟩
            replace ia := ia.ext h1
            replace he := he.trans h1
            clear h1
            rw [t2.out, hlaw.out.2, hA, Bool.false_and]
            go_wp2_with fail
            go_ret
            exact ⟨rfl, he⟩
          · rw [Bool.true_or]
            go_wp2_with fail
            refine (ExprSatisfied_any z24 ia).mono ?_; rintro e w_ ⟨rfl, h1⟩
            replace ia := ia.ext h1
            replace he := he.trans h1
            clear h1
            rw [t2.out, hlaw.out.2, hA, Bool.true_and]
            go_wp2_with fail
            refine (SetContains_any ia).mono ?_; rintro e w_ ⟨rfl, rfl⟩
            go_wp2_with fail
            go_ret
            exact ⟨rfl, he⟩
      · skip
        go_wp2_with fail
        refine (sExprSatisfied_any hsz ia).mono ?_; rintro e w_ ⟨rfl, h1⟩
        replace he := he.trans h1
        clear h1
        go_wp2_with fail
        go_ret
        exact ⟨rfl, he⟩
end Go.Proofs.Ytaphbgagpdodkaa
