/- The walk of laws.FnWeightsSum: it returns true. Condition: the arguments are slices of bytes. -/
import Derived.Test.YtpommccgiinhiaaD3
import Derived.Test.YtpommccgiinhiaaS3
import Derived.Test.YtpommccgiinhiaaC4
namespace Go.Proofs.Ytpommccgiinhiaa
open Go.RowKit
set_option linter.unusedVariables false

set_option maxHeartbeats 2000000 in
theorem FnWeightsSum_walk {a : Option Addr} {n c : Nat} {a' : Option Addr} {n' c' : Nat} {w : World} (h : Bytes w a n c) (h' : Bytes w a' n' c') :
    Calls Try.prog 8 #[.slice a n c, .slice a' n' c'] w fun e w' => e = .returned (.bool true) ∧ Ext none w w' := by
  clear h'
  rcases Nat.lt_or_ge 1048576 n with hl | hl
  · have hlI : (1048576 : Int) < (n : Int) := by omega
    go_enter Try.func8, Try.ntmps8
    go_wp2_with fail
    go_ret
    exact ⟨rfl, Ext.refl _ _⟩
  have hlI : ¬ (1048576 : Int) < (n : Int) := by omega
  rcases Nat.lt_or_ge 1048576 n' with hl' | hl'
  · have hlI' : (1048576 : Int) < (n' : Int) := by omega
    go_enter Try.func8, Try.ntmps8
    go_wp2_with fail
    go_ret
    exact ⟨rfl, Ext.refl _ _⟩
  have hlI' : ¬ (1048576 : Int) < (n' : Int) := by omega
  go_enter Try.func8, Try.ntmps8
  go_wp2_with fail
  refine (DrawWeightsSum_any h).mono ?_; rintro e w_ ⟨a1, n1, c1, xs, b1, m1, d1, ys, rfl, ia, ib, he⟩
  clear h
  have hbd := wSumL_bd xs ys
  by_cases hn : wSumL xs ys < 0
  · obtain ⟨q, hq⟩ : ∃ q, q = wSumL xs ys := ⟨_, rfl⟩
    rw [← hq] at hn hbd
    have HQ := Lib.hid hq.symm
    clear hq
    go_wp2_with fail
    refine (WeightsSum_any ia ib).mono ?_; rintro e w_ ⟨rfl, h1⟩
    replace ia := ia.ext h1
    replace ib := ib.ext h1
    replace he := he.trans h1
    clear h1
    rw [HQ.out]
    go_wp2_with fail
    refine (sWeightsSum_any ia ib).mono ?_; rintro e w_ ⟨rfl, d_⟩
    replace ia := ia.ext d_.ext
    replace ib := ib.ext d_.ext
    replace he := he.trans d_.ext
    clear d_
    rw [HQ.out]
    go_wp2_with fail
    refine (sWeightsSum_any ia ib).mono ?_; rintro e w_ ⟨rfl, d_⟩
    replace ia := ia.ext d_.ext
    replace ib := ib.ext d_.ext
    replace he := he.trans d_.ext
    clear d_
    rw [HQ.out]
    go_wp2_with fail
    go_ret
    exact ⟨rfl, he⟩
  · have hlaw := wSumL_law (w := xs) (s := ys) (by omega) (setN (n' : Int)) (setN_lt _)
    obtain ⟨_, _, hl1, hl2⟩ := hlaw
    have b1 := wSumL_bd xs (unionL ys (mem (setN (n' : Int))))
    have b2 := wSumL_bd xs (interL ys (mem (setN (n' : Int))))
    have b3 := wSumL_bd xs (mem (setN (n' : Int)))
    obtain ⟨p, hp⟩ : ∃ p, p = wSumL xs (unionL ys (mem (setN (n' : Int)))) := ⟨_, rfl⟩
    obtain ⟨q, hq⟩ : ∃ q, q = wSumL xs (interL ys (mem (setN (n' : Int)))) := ⟨_, rfl⟩
    obtain ⟨r, hr⟩ : ∃ r, r = wSumL xs ys := ⟨_, rfl⟩
    obtain ⟨s, hs⟩ : ∃ s, s = wSumL xs (mem (setN (n' : Int))) := ⟨_, rfl⟩
    rw [← hp, ← hq, ← hr, ← hs] at hl1
    rw [← hp] at b1
    rw [← hq] at b2
    rw [← hs] at b3
    rw [← hr] at hn hbd
    have HP := Lib.hid hp.symm
    have HQ := Lib.hid hq.symm
    have HR := Lib.hid hr.symm
    have HS := Lib.hid hs.symm
    have HL := Lib.hid hl1
    have HZ := Lib.hid hl2
    clear hp hq hr hs hl1 hl2
    go_wp2_with fail
    refine (WeightsSum_any ia ib).mono ?_; rintro e w_ ⟨rfl, h1⟩
    replace ia := ia.ext h1
    replace ib := ib.ext h1
    replace he := he.trans h1
    clear h1
    rw [HR.out]
    go_wp2_with fail
    refine (sWeightsSum_any ia ib).mono ?_; rintro e w_ ⟨rfl, d_⟩
    replace ia := ia.ext d_.ext
    replace ib := ib.ext d_.ext
    replace he := he.trans d_.ext
    clear d_
    rw [HR.out]
    go_wp2_with fail
    refine (setOf_any (by omega) (by omega)).mono ?_; rintro e w_z ⟨a_z, n_z, c_z, rfl, o_z, e_z⟩
    have i_z := o_z.ints
    replace ia := ia.ext e_z
    replace ib := ib.ext e_z
    replace he := he.trans e_z
    clear o_z e_z
    go_wp2_with fail
    refine (SetUnion_any ib i_z).mono ?_; rintro e w_u ⟨a_u, n_u, c_u, rfl, o_u, e_u⟩
    have i_u := o_u.ints
    replace ia := ia.ext e_u
    replace ib := ib.ext e_u
    replace i_z := i_z.ext e_u
    replace he := he.trans e_u
    clear o_u e_u
    go_wp2_with fail
    refine (WeightsSum_any ia i_u).mono ?_; rintro e w_ ⟨rfl, h1⟩
    replace ia := ia.ext h1
    replace ib := ib.ext h1
    replace i_z := i_z.ext h1
    replace he := he.trans h1
    clear h1
    rw [HP.out]
    go_wp2_with fail
    refine (SetIntersect_any ib i_z).mono ?_; rintro e w_v ⟨a_v, n_v, c_v, rfl, o_v, e_v⟩
    have i_v := o_v.ints
    replace ia := ia.ext e_v
    replace i_z := i_z.ext e_v
    replace he := he.trans e_v
    clear o_v e_v
    go_wp2_with fail
    refine (WeightsSum_any ia i_v).mono ?_; rintro e w_ ⟨rfl, h1⟩
    replace ia := ia.ext h1
    replace i_z := i_z.ext h1
    replace he := he.trans h1
    clear h1
    rw [HQ.out]
    go_wp2_with fail
    refine (WeightsSum_any ia i_z).mono ?_; rintro e w_ ⟨rfl, h1⟩
    replace ia := ia.ext h1
    replace he := he.trans h1
    clear h1
    rw [HS.out]
    have hb : (p + q == r + s) = true := by rw [beq_iff_eq]; exact HL.out
    go_wp2_with fail
    refine (WeightsSum_any ia (Ints.nil _ _)).mono ?_; rintro e w_ ⟨rfl, h1⟩
    rw [HZ.out]
    replace he := he.trans h1
    go_wp2_with fail
    go_ret
    exact ⟨rfl, he⟩
end Go.Proofs.Ytpommccgiinhiaa
