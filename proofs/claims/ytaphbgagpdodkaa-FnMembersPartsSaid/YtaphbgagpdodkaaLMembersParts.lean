/- The walk of laws.FnMembersParts: it returns true. Condition: the arguments are slices of bytes. -/
import Derived.Test.YtaphbgagpdodkaaD6
import Derived.Test.YtaphbgagpdodkaaLM2
import Derived.Test.YtaphbgagpdodkaaS7
import Derived.Test.YtaphbgagpdodkaaC8
namespace Go.Proofs.Ytaphbgagpdodkaa
open Go.RowKit
set_option linter.unusedVariables false

theorem text_join' (s : ByteArray) (a b c d : UInt8) : [a, b] ++ byt s ++ [44] ++ [c] ++ [d] = a :: b :: (byt s ++ 44 :: c :: [d]) := by simp
theorem join_size' (p s d : ByteArray) (k : Nat) (hp : p.size = k) (hs : s.size ≤ 100) (hd : d.size = 1) (hk : k ≤ 2 := by decide) :
    (p ++ s).size ≤ 102 ∧ (p ++ s ++ (⟨#[44]⟩ : ByteArray)).size ≤ 103 ∧ (p ++ s ++ (⟨#[44]⟩ : ByteArray) ++ d).size ≤ 104 ∧ (p ++ s ++ (⟨#[44]⟩ : ByteArray) ++ d ++ (⟨#[41]⟩ : ByteArray)).size ≤ 9223372036854775807 := by
  have h1 : (⟨#[44]⟩ : ByteArray).size = 1 := rfl
  have h2 : (⟨#[41]⟩ : ByteArray).size = 1 := rfl
  simp only [cat_size, h1, h2]
  omega

set_option maxHeartbeats 2000000 in
theorem FnMembersParts_walk {a : Option Addr} {n c : Nat} {a' : Option Addr} {n' c' : Nat} {w : World} (h : Bytes w a n c) (h' : Bytes w a' n' c') :
    Calls Try.prog 6 #[.slice a n c, .slice a' n' c'] w fun e w' => e = .returned (.bool true) ∧ Ext none w w' := by
  clear h'
  rcases Nat.lt_or_ge 1048576 n with hl | hl
  · have hlI : (1048576 : Int) < (n : Int) := by omega
    go_enter Try.func6, Try.ntmps6
    go_wp2_with fail
    go_ret
    exact ⟨rfl, Ext.refl _ _⟩
  have hlI : ¬ (1048576 : Int) < (n : Int) := by omega
  rcases Nat.lt_or_ge 1048576 n' with hl' | hl'
  · have hlI' : (1048576 : Int) < (n' : Int) := by omega
    go_enter Try.func6, Try.ntmps6
    go_wp2_with fail
    go_ret
    exact ⟨rfl, Ext.refl _ _⟩
  have hlI' : ¬ (1048576 : Int) < (n' : Int) := by omega
  go_enter Try.func6, Try.ntmps6
  go_wp2_with fail
  refine (DrawExprMembers_any h).mono ?_; rintro e w_ ⟨s, rfl, hs, he⟩
  clear h
  have hsz : s.size ≤ 9223372036854775807 := by omega
  go_wp2_with fail
  refine (ExprMembers_any hsz).mono ?_; rintro e w_u ⟨a_u, n_u, c_u, rfl, o_u, e_u⟩
  have i_u := o_u.ints
  replace he := he.trans e_u
  clear o_u e_u
  go_wp2_with fail
  refine (sExprMembers_any hsz).mono ?_; rintro e w_v ⟨a_v, n_v, c_v, rfl, o_v, e_v⟩
  have i_v := o_v.ints
  replace i_u := i_u.ext e_v
  replace he := he.trans e_v
  clear o_v e_v
  go_wp2_with fail
  refine (sameInts_any i_u i_v).mono ?_; rintro e w_ ⟨rfl, d_⟩
  replace i_u := i_u.ext d_.ext
  replace he := he.trans d_.ext
  clear d_
  have hsm := same_refl (membersE (byt s))
  cases hok : okE (byt s)
  · skip
    go_wp2_with fail
    refine (sExprValid_any hsz).mono ?_; rintro e w_ ⟨rfl, rfl⟩
    go_wp2_with fail
    refine (sExprMembers_any hsz).mono ?_; rintro e w_v2 ⟨a_v2, n_v2, c_v2, rfl, o_v2, e_v2⟩
    have i_v2 := o_v2.ints
    replace i_u := i_u.ext e_v2
    replace he := he.trans e_v2
    clear o_v2 e_v2
    go_wp2_with fail
    refine (sameInts_any i_u i_v2).mono ?_; rintro e w_ ⟨rfl, d_⟩
    replace he := he.trans d_.ext
    clear d_
    go_wp2_with fail
    go_ret
    exact ⟨rfl, he⟩
  · skip
    go_wp2_with fail
    refine (sExprValid_any hsz).mono ?_; rintro e w_ ⟨rfl, rfl⟩
    by_cases hl : s.size + 5 ≤ 40
    · have hl' := Lib.hid (show (byt s).length + 5 ≤ 40 from by rw [byt_len]; exact hl)
      have hm : n' % 6 < 6 := Nat.mod_lt _ (by omega)
      obtain ⟨j, hj⟩ : ∃ j, j = n' % 6 := ⟨_, rfl⟩
      rw [← hj] at hm
      have e1 : (n' : Int) % 6 = (j : Int) := by omega
      clear hj
      have hj6 : j = 0 ∨ j = 1 ∨ j = 2 ∨ j = 3 ∨ j = 4 ∨ j = 5 := by omega
      clear hm
      rcases hj6 with rfl | rfl | rfl | rfl | rfl | rfl
      · have hlaw := Lib.hid (parts_law (m := 1) hok hl'.out (by omega) (by omega))
        have t1 := Lib.hid (show byt ((⟨#[49, 40]⟩ : ByteArray) ++ s ++ (⟨#[44]⟩ : ByteArray) ++ (⟨#[49, 50, 51, 52, 53, 54]⟩ : ByteArray).extract 0 1 ++ (⟨#[41]⟩ : ByteArray)) = Fo.dg 1 :: 40 :: (byt s ++ 44 :: Fo.dg 1 :: [41]) from by
          rw [byt_cat, byt_cat, byt_cat, byt_cat, show byt ((⟨#[49, 50, 51, 52, 53, 54]⟩ : ByteArray).extract 0 1) = [Fo.dg 1] from by decide]; exact text_join' s _ _ _ _)
        have z0 : ((⟨#[49, 50, 51, 52, 53, 54]⟩ : ByteArray).extract 0 1).size = 1 := by decide
        have z1 := join_size' (⟨#[49, 40]⟩ : ByteArray) s _ 2 rfl hs z0
        obtain ⟨z11, z12, z13, z14⟩ := z1
        go_wp2_with fail
        refine (ExprMembers_any z14).mono ?_; rintro e w_x ⟨a_x, n_x, c_x, rfl, o_x, e_x⟩
        have i_x := o_x.ints
        replace i_u := i_u.ext e_x
        replace he := he.trans e_x
        clear o_x e_x
        rw [t1.out, hlaw.out] at i_x
        have hal : Ext none w_x (w_x.alloc (.cells #[.int .i64 1] 3)) := (Ext.refl _ _).alloc _
        have i_m := (OwnI.lit1 w_x 1).ints
        replace i_u := i_u.ext hal
        replace i_x := i_x.ext hal
        replace he := he.trans hal
        have HAL := Lib.hid hal
        clear hal
        have hs2 := same_refl (unionL (membersE (byt s)) [1])
        go_wp2_with fail
        refine (SetUnion_any i_u i_m).mono ?_; rintro e w_y ⟨a_y, n_y, c_y, rfl, o_y, e_y⟩
        have i_y := o_y.ints
        replace i_x := i_x.ext e_y
        replace he := he.trans e_y
        clear o_y e_y
        go_wp2_with fail
        refine (sameInts_any i_x i_y).mono ?_; rintro e w_ ⟨rfl, d_⟩
        replace he := he.trans d_.ext
        clear d_
        go_wp2_with fail
        go_ret
        exact ⟨rfl, he⟩
      · have hlaw := Lib.hid (parts_law (m := 2) hok hl'.out (by omega) (by omega))
        have t1 := Lib.hid (show byt ((⟨#[49, 40]⟩ : ByteArray) ++ s ++ (⟨#[44]⟩ : ByteArray) ++ (⟨#[49, 50, 51, 52, 53, 54]⟩ : ByteArray).extract 1 2 ++ (⟨#[41]⟩ : ByteArray)) = Fo.dg 1 :: 40 :: (byt s ++ 44 :: Fo.dg 2 :: [41]) from by
          rw [byt_cat, byt_cat, byt_cat, byt_cat, show byt ((⟨#[49, 50, 51, 52, 53, 54]⟩ : ByteArray).extract 1 2) = [Fo.dg 2] from by decide]; exact text_join' s _ _ _ _)
        have z0 : ((⟨#[49, 50, 51, 52, 53, 54]⟩ : ByteArray).extract 1 2).size = 1 := by decide
        have z1 := join_size' (⟨#[49, 40]⟩ : ByteArray) s _ 2 rfl hs z0
        obtain ⟨z11, z12, z13, z14⟩ := z1
        go_wp2_with fail
        refine (ExprMembers_any z14).mono ?_; rintro e w_x ⟨a_x, n_x, c_x, rfl, o_x, e_x⟩
        have i_x := o_x.ints
        replace i_u := i_u.ext e_x
        replace he := he.trans e_x
        clear o_x e_x
        rw [t1.out, hlaw.out] at i_x
        have hal : Ext none w_x (w_x.alloc (.cells #[.int .i64 2] 3)) := (Ext.refl _ _).alloc _
        have i_m := (OwnI.lit1 w_x 2).ints
        replace i_u := i_u.ext hal
        replace i_x := i_x.ext hal
        replace he := he.trans hal
        have HAL := Lib.hid hal
        clear hal
        have hs2 := same_refl (unionL (membersE (byt s)) [2])
        go_wp2_with fail
        refine (SetUnion_any i_u i_m).mono ?_; rintro e w_y ⟨a_y, n_y, c_y, rfl, o_y, e_y⟩
        have i_y := o_y.ints
        replace i_x := i_x.ext e_y
        replace he := he.trans e_y
        clear o_y e_y
        go_wp2_with fail
        refine (sameInts_any i_x i_y).mono ?_; rintro e w_ ⟨rfl, d_⟩
        replace he := he.trans d_.ext
        clear d_
        go_wp2_with fail
        go_ret
        exact ⟨rfl, he⟩
      · have hlaw := Lib.hid (parts_law (m := 3) hok hl'.out (by omega) (by omega))
        have t1 := Lib.hid (show byt ((⟨#[49, 40]⟩ : ByteArray) ++ s ++ (⟨#[44]⟩ : ByteArray) ++ (⟨#[49, 50, 51, 52, 53, 54]⟩ : ByteArray).extract 2 3 ++ (⟨#[41]⟩ : ByteArray)) = Fo.dg 1 :: 40 :: (byt s ++ 44 :: Fo.dg 3 :: [41]) from by
          rw [byt_cat, byt_cat, byt_cat, byt_cat, show byt ((⟨#[49, 50, 51, 52, 53, 54]⟩ : ByteArray).extract 2 3) = [Fo.dg 3] from by decide]; exact text_join' s _ _ _ _)
        have z0 : ((⟨#[49, 50, 51, 52, 53, 54]⟩ : ByteArray).extract 2 3).size = 1 := by decide
        have z1 := join_size' (⟨#[49, 40]⟩ : ByteArray) s _ 2 rfl hs z0
        obtain ⟨z11, z12, z13, z14⟩ := z1
        go_wp2_with fail
        refine (ExprMembers_any z14).mono ?_; rintro e w_x ⟨a_x, n_x, c_x, rfl, o_x, e_x⟩
        have i_x := o_x.ints
        replace i_u := i_u.ext e_x
        replace he := he.trans e_x
        clear o_x e_x
        rw [t1.out, hlaw.out] at i_x
        have hal : Ext none w_x (w_x.alloc (.cells #[.int .i64 3] 3)) := (Ext.refl _ _).alloc _
        have i_m := (OwnI.lit1 w_x 3).ints
        replace i_u := i_u.ext hal
        replace i_x := i_x.ext hal
        replace he := he.trans hal
        have HAL := Lib.hid hal
        clear hal
        have hs2 := same_refl (unionL (membersE (byt s)) [3])
        go_wp2_with fail
        refine (SetUnion_any i_u i_m).mono ?_; rintro e w_y ⟨a_y, n_y, c_y, rfl, o_y, e_y⟩
        have i_y := o_y.ints
        replace i_x := i_x.ext e_y
        replace he := he.trans e_y
        clear o_y e_y
        go_wp2_with fail
        refine (sameInts_any i_x i_y).mono ?_; rintro e w_ ⟨rfl, d_⟩
        replace he := he.trans d_.ext
        clear d_
        go_wp2_with fail
        go_ret
        exact ⟨rfl, he⟩
      · have hlaw := Lib.hid (parts_law (m := 4) hok hl'.out (by omega) (by omega))
        have t1 := Lib.hid (show byt ((⟨#[49, 40]⟩ : ByteArray) ++ s ++ (⟨#[44]⟩ : ByteArray) ++ (⟨#[49, 50, 51, 52, 53, 54]⟩ : ByteArray).extract 3 4 ++ (⟨#[41]⟩ : ByteArray)) = Fo.dg 1 :: 40 :: (byt s ++ 44 :: Fo.dg 4 :: [41]) from by
          rw [byt_cat, byt_cat, byt_cat, byt_cat, show byt ((⟨#[49, 50, 51, 52, 53, 54]⟩ : ByteArray).extract 3 4) = [Fo.dg 4] from by decide]; exact text_join' s _ _ _ _)
        have z0 : ((⟨#[49, 50, 51, 52, 53, 54]⟩ : ByteArray).extract 3 4).size = 1 := by decide
        have z1 := join_size' (⟨#[49, 40]⟩ : ByteArray) s _ 2 rfl hs z0
        obtain ⟨z11, z12, z13, z14⟩ := z1
        go_wp2_with fail
        refine (ExprMembers_any z14).mono ?_; rintro e w_x ⟨a_x, n_x, c_x, rfl, o_x, e_x⟩
        have i_x := o_x.ints
        replace i_u := i_u.ext e_x
        replace he := he.trans e_x
        clear o_x e_x
        rw [t1.out, hlaw.out] at i_x
        have hal : Ext none w_x (w_x.alloc (.cells #[.int .i64 4] 3)) := (Ext.refl _ _).alloc _
        have i_m := (OwnI.lit1 w_x 4).ints
        replace i_u := i_u.ext hal
        replace i_x := i_x.ext hal
        replace he := he.trans hal
        have HAL := Lib.hid hal
        clear hal
        have hs2 := same_refl (unionL (membersE (byt s)) [4])
        go_wp2_with fail
        refine (SetUnion_any i_u i_m).mono ?_; rintro e w_y ⟨a_y, n_y, c_y, rfl, o_y, e_y⟩
        have i_y := o_y.ints
        replace i_x := i_x.ext e_y
        replace he := he.trans e_y
        clear o_y e_y
        go_wp2_with fail
        refine (sameInts_any i_x i_y).mono ?_; rintro e w_ ⟨rfl, d_⟩
        replace he := he.trans d_.ext
        clear d_
        go_wp2_with fail
        go_ret
        exact ⟨rfl, he⟩
      · have hlaw := Lib.hid (parts_law (m := 5) hok hl'.out (by omega) (by omega))
        have t1 := Lib.hid (show byt ((⟨#[49, 40]⟩ : ByteArray) ++ s ++ (⟨#[44]⟩ : ByteArray) ++ (⟨#[49, 50, 51, 52, 53, 54]⟩ : ByteArray).extract 4 5 ++ (⟨#[41]⟩ : ByteArray)) = Fo.dg 1 :: 40 :: (byt s ++ 44 :: Fo.dg 5 :: [41]) from by
          rw [byt_cat, byt_cat, byt_cat, byt_cat, show byt ((⟨#[49, 50, 51, 52, 53, 54]⟩ : ByteArray).extract 4 5) = [Fo.dg 5] from by decide]; exact text_join' s _ _ _ _)
        have z0 : ((⟨#[49, 50, 51, 52, 53, 54]⟩ : ByteArray).extract 4 5).size = 1 := by decide
        have z1 := join_size' (⟨#[49, 40]⟩ : ByteArray) s _ 2 rfl hs z0
        obtain ⟨z11, z12, z13, z14⟩ := z1
        go_wp2_with fail
        refine (ExprMembers_any z14).mono ?_; rintro e w_x ⟨a_x, n_x, c_x, rfl, o_x, e_x⟩
        have i_x := o_x.ints
        replace i_u := i_u.ext e_x
        replace he := he.trans e_x
        clear o_x e_x
        rw [t1.out, hlaw.out] at i_x
        have hal : Ext none w_x (w_x.alloc (.cells #[.int .i64 5] 3)) := (Ext.refl _ _).alloc _
        have i_m := (OwnI.lit1 w_x 5).ints
        replace i_u := i_u.ext hal
        replace i_x := i_x.ext hal
        replace he := he.trans hal
        have HAL := Lib.hid hal
        clear hal
        have hs2 := same_refl (unionL (membersE (byt s)) [5])
        go_wp2_with fail
        refine (SetUnion_any i_u i_m).mono ?_; rintro e w_y ⟨a_y, n_y, c_y, rfl, o_y, e_y⟩
        have i_y := o_y.ints
        replace i_x := i_x.ext e_y
        replace he := he.trans e_y
        clear o_y e_y
        go_wp2_with fail
        refine (sameInts_any i_x i_y).mono ?_; rintro e w_ ⟨rfl, d_⟩
        replace he := he.trans d_.ext
        clear d_
        go_wp2_with fail
        go_ret
        exact ⟨rfl, he⟩
      · have hlaw := Lib.hid (parts_law (m := 6) hok hl'.out (by omega) (by omega))
        have t1 := Lib.hid (show byt ((⟨#[49, 40]⟩ : ByteArray) ++ s ++ (⟨#[44]⟩ : ByteArray) ++ (⟨#[49, 50, 51, 52, 53, 54]⟩ : ByteArray).extract 5 6 ++ (⟨#[41]⟩ : ByteArray)) = Fo.dg 1 :: 40 :: (byt s ++ 44 :: Fo.dg 6 :: [41]) from by
          rw [byt_cat, byt_cat, byt_cat, byt_cat, show byt ((⟨#[49, 50, 51, 52, 53, 54]⟩ : ByteArray).extract 5 6) = [Fo.dg 6] from by decide]; exact text_join' s _ _ _ _)
        have z0 : ((⟨#[49, 50, 51, 52, 53, 54]⟩ : ByteArray).extract 5 6).size = 1 := by decide
        have z1 := join_size' (⟨#[49, 40]⟩ : ByteArray) s _ 2 rfl hs z0
        obtain ⟨z11, z12, z13, z14⟩ := z1
        go_wp2_with fail
        refine (ExprMembers_any z14).mono ?_; rintro e w_x ⟨a_x, n_x, c_x, rfl, o_x, e_x⟩
        have i_x := o_x.ints
        replace i_u := i_u.ext e_x
        replace he := he.trans e_x
        clear o_x e_x
        rw [t1.out, hlaw.out] at i_x
        have hal : Ext none w_x (w_x.alloc (.cells #[.int .i64 6] 3)) := (Ext.refl _ _).alloc _
        have i_m := (OwnI.lit1 w_x 6).ints
        replace i_u := i_u.ext hal
        replace i_x := i_x.ext hal
        replace he := he.trans hal
        have HAL := Lib.hid hal
        clear hal
        have hs2 := same_refl (unionL (membersE (byt s)) [6])
        go_wp2_with fail
        refine (SetUnion_any i_u i_m).mono ?_; rintro e w_y ⟨a_y, n_y, c_y, rfl, o_y, e_y⟩
        have i_y := o_y.ints
        replace i_x := i_x.ext e_y
        replace he := he.trans e_y
        clear o_y e_y
        go_wp2_with fail
        refine (sameInts_any i_x i_y).mono ?_; rintro e w_ ⟨rfl, d_⟩
        replace he := he.trans d_.ext
        clear d_
        go_wp2_with fail
        go_ret
        exact ⟨rfl, he⟩
    · skip
      go_wp2_with fail
      refine (sExprMembers_any hsz).mono ?_; rintro e w_v2 ⟨a_v2, n_v2, c_v2, rfl, o_v2, e_v2⟩
      have i_v2 := o_v2.ints
      replace i_u := i_u.ext e_v2
      replace he := he.trans e_v2
      clear o_v2 e_v2
      go_wp2_with fail
      refine (sameInts_any i_u i_v2).mono ?_; rintro e w_ ⟨rfl, d_⟩
      replace he := he.trans d_.ext
      clear d_
      go_wp2_with fail
      go_ret
      exact ⟨rfl, he⟩
end Go.Proofs.Ytaphbgagpdodkaa
