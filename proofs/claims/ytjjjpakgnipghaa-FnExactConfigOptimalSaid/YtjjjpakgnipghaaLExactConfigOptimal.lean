/- The walk of laws.FnExactConfigOptimal: it returns true. Condition: the arguments are what their types say. -/
import Derived.Test.YtjjjpakgnipghaaRK
import Derived.Test.YtjjjpakgnipghaaXR
namespace Go.Proofs.Ytjjjpakgnipghaa
open Go.RowKit
set_option linter.unusedVariables false

theorem small_optL {f : List (List Int)} : small (optL f) := by
  cases h : okT f
  · rw [optL_no h]; exact small_nil
  · rw [optL_yes h]
    have hb := okT_fam h
    refine ⟨by have := famB_len hb; omega, ?_⟩
    have h1 := sumLen_famL (masks f)
    have h2 := famB_len hb
    rw [masks_len, fam_of hb] at h1
    omega
set_option maxRecDepth 20000 in
set_option maxHeartbeats 4000000 in
theorem FnExactConfigOptimal_walk {a0 : Option Addr} {n0 c0 : Nat} {f0 : List (List Int)} {w : World} (hf0 : FamV w a0 n0 c0 f0) :
    Calls Try.prog 6 #[.slice a0 n0 c0] w fun e w' => e = .returned (.bool true) ∧ Ext none w w' := by
  have hsm := Lib.hid (small_transL f0)
  have hso := Lib.hid (small_optL (f := f0))
  obtain ⟨q, hq⟩ : ∃ q, okT f0 = q := ⟨_, rfl⟩
  have HQ := Lib.hid hq
  clear hq
  obtain ⟨s1, hS1⟩ : ∃ s1, s1 = sumLen (transL f0) := ⟨_, rfl⟩
  obtain ⟨s2, hS2⟩ : ∃ s2, s2 = sumLen (optL f0) := ⟨_, rfl⟩
  have hs1 : s1 ≤ 384 := by rw [hS1]; exact hsm.out.2
  have hs2 : s2 ≤ 384 := by rw [hS2]; exact hso.out.2
  have HS1 := Lib.hid hS1
  have HS2 := Lib.hid hS2
  clear hS1 hS2
  have HF0 := Lib.hid hf0.1
  have hn0 := Lib.hid hf0.1.len
  clear hf0
  go_enter Try.func6, Try.ntmps6
  go_wp2_with fail
  refine (szIntSS_any (left := 1048576) HF0.out (by omega)).mono ?_; rintro e w_ ⟨⟨ht0, rfl⟩ | ⟨ht0, rfl⟩, rfl⟩
  · skip
    have HT0 := Lib.hid (show tot f0 ≤ 1048576 from by omega)
    have hs0 := Lib.hid (show sumLen f0 ≤ 1048576 from by have := HT0.out; unfold tot at this; omega)
    have hn0I : n0 ≤ 1048576 := by have := hn0.out; have := HT0.out; unfold tot at this; omega
    obtain ⟨r0, hr0⟩ : ∃ r : Nat, r = 1048576 - tot f0 := ⟨_, rfl⟩
    rw [← hr0]
    have hr0b : r0 ≤ 1048576 := by omega
    clear hr0 ht0
    go_wp2_with fail
    refine (toIntSS_any (HF0.out) HT0.out).mono ?_; rintro e ws1 ⟨as1, ns1, cs1, rfl, os1, es1⟩
    go_wp2_with fail
    refine (sConfigOptimal_any (show FamV _ _ _ _ _ from os1.ownF.famV) HQ.out).mono ?_; rintro e wA ⟨aA, nA, cA, bA, mA, dA, rfl, u1, u2, eA⟩
    have hMW : Two _ _ _ _ ∧ Ext none wA (wA.alloc (.cells #[.slice aA nA cA, .slice bA mA dA] 45)) := ⟨Two.new wA (.slice aA nA cA) (.slice bA mA dA), (Ext.refl _ _).alloc _⟩
    have EA := Lib.hid ((es1.trans eA).trans hMW.2)
    have U1 := Lib.hid (u1.ext hMW.2)
    have U2 := Lib.hid (u2.ext hMW.2)
    have TW := Lib.hid hMW.1
    clear hMW u1 u2 es1 eA os1
    go_wp2_with fail
    obtain ⟨wB, hwB⟩ : ∃ x, x = wA.alloc (.cells #[.slice aA nA cA, .slice bA mA dA] 45) := ⟨_, rfl⟩
    rw [← hwB] at EA U1 U2 TW ⊢
    clear hwB
    refine (toIntSS_any (HF0.out.ext EA.out) HT0.out).mono ?_; rintro e wx2 ⟨ax2, nx2, cx2, rfl, ox2, ex2⟩
    have X0 := Lib.hid (ox2)
    have EX := Lib.hid (World.grownBy.trans (ex2) (World.grownBy.refl _ none))
    have hz0 := Lib.hid (show wB.heap.size ≤ wx2.heap.size from ex2.size)
    clear ox2 ex2
    go_wp2_with fail
    refine (ConfigOptimal_any (show FamV _ _ _ _ _ from X0.out.ownF.famV) HQ.out).mono ?_; rintro e wG ⟨aG, nG, cG, bG, mG, dG, mid, hi, rfl, o1, o2, hb1, hb2, hb3, eG⟩
    have hMG : Two _ _ _ _ ∧ Ext none wG (wG.alloc (.cells #[.slice aG nG cG, .slice bG mG dG] 45)) := ⟨Two.new wG (.slice aG nG cG) (.slice bG mG dG), (Ext.refl _ _).alloc _⟩
    have TG := Lib.hid hMG.1
    have G1 := Lib.hid (o1.ext0 hMG.2)
    have G2 := Lib.hid (o2.ext0 hMG.2)
    have X0 := Lib.hid ((X0.out.ext0 eG).ext0 hMG.2)
    have E := Lib.hid ((EX.out.trans eG).trans hMG.2)
    have hhi := Lib.hid (show hi ≤ wG.heap.size from hb3)
    have hlm := Lib.hid hb1
    have hmh := Lib.hid hb2
    have hxg := Lib.hid eG.size
    clear o1 o2 eG EX hMG hb1 hb2 hb3
    obtain ⟨hc0, hc1, _, _⟩ := two_cell TG.out
    obtain ⟨hc2, hc3, _, _⟩ := two_cell (TW.out.ext E.out)
    go_wp2_with fail
    obtain ⟨wC, hwC⟩ : ∃ x, x = wG.alloc (.cells #[.slice aG nG cG, .slice bG mG dG] 45) := ⟨_, rfl⟩
    rw [← hwC] at TG G1 G2 X0 E ⊢
    clear hwC hc0 hc1 hc2 hc3
    refine (eqConfig_is G1.out.fam G2.out.fam (U1.out.ext E.out) (U2.out.ext E.out)).mono ?_; rintro e wd ⟨rfl, dd⟩
    have X0 := Lib.hid (X0.out.ext0 dd)
    have G1 := Lib.hid (G1.out.ext0 dd)
    have G2 := Lib.hid (G2.out.ext0 dd)
    have TG := Lib.hid (TG.out.ext dd)
    have E := Lib.hid (E.out.trans dd)
    clear dd
    go_wp2_with fail
    refine (toIntSS_any (HF0.out.ext (EA.out.trans E.out)) HT0.out).mono ?_; rintro e wt ⟨at_, nt, ct, rfl, ot, et⟩
    have X0 := Lib.hid (X0.out.ext0 et)
    have G1 := Lib.hid (G1.out.ext0 et)
    have G2 := Lib.hid (G2.out.ext0 et)
    have TG := Lib.hid (TG.out.ext et)
    have E := Lib.hid (E.out.trans et)
    go_wp2_with fail
    refine (eqIntSS_is X0.out.fam ot.fam (sameF_refl f0)).mono ?_; rintro e wd ⟨rfl, dd⟩
    clear ot et
    have X0 := Lib.hid (X0.out.ext0 (dd.ext (r := none)))
    have G1 := Lib.hid (G1.out.ext0 (dd.ext (r := none)))
    have G2 := Lib.hid (G2.out.ext0 (dd.ext (r := none)))
    have TG := Lib.hid (TG.out.ext (dd.ext (r := none)))
    have E := Lib.hid (E.out.trans (dd.ext (r := none)))
    clear dd
    go_wp2_with fail
    refine (markIntSS_any X0.out (by omega) (by have := hs0.out; omega) hs0.out (by have := X0.out.len; have := hn0.out; omega)).mono ?_; rintro e wm ⟨rfl, om, gm⟩
    have G1 := Lib.hid (G1.out.chg gm (Nat.le_refl _))
    have G2 := Lib.hid (G2.out.chg gm hlm.out)
    have TG := Lib.hid (TG.out.chg gm (.inr hxg.out))
    have E := Lib.hid (gm.ext E.out (Nat.le_refl _))
    clear om gm X0
    have hk1 : ¬ ((1 : Int) + (sumLen f0 : Int) < 0) := by omega
    obtain ⟨hc0, hc1, _, _⟩ := two_cell TG.out
    obtain ⟨hc2, hc3, _, _⟩ := two_cell (TW.out.ext E.out)
    go_wp2_with fail
    refine (eqConfig_is G1.out.fam G2.out.fam (U1.out.ext E.out) (U2.out.ext E.out)).mono ?_; rintro e wd ⟨rfl, dd⟩
    clear hc0 hc1 hc2 hc3
    have G1 := Lib.hid (G1.out.ext0 dd)
    have G2 := Lib.hid (G2.out.ext0 dd)
    have TG := Lib.hid (TG.out.ext dd)
    have E := Lib.hid (E.out.trans dd)
    clear dd
    obtain ⟨hc0, hc1, _, _⟩ := two_cell TG.out
    have hsz9 := Lib.hid (Nat.le_of_lt (Nat.lt_of_le_of_lt hhi.out TG.out.lt))
    go_wp2_with fail
    refine (markConfig_any G1.out G2.out hlm.out hmh.out hsz9.out (by omega) (by omega) hsm.out hso.out).mono ?_; rintro e wm ⟨rfl, m1, m2, gm⟩
    have TG := Lib.hid (TG.out.chg gm (.inr hhi.out))
    have E := Lib.hid (gm.ext E.out hz0.out)
    have G1 := Lib.hid m1
    have G2 := Lib.hid m2
    clear m1 m2 gm hc0 hc1
    rw [← HS1.out, ← HS2.out]
    have hk2 : ¬ ((1 : Int) + (s1 : Int) + (s2 : Int) < 0) := by omega
    have hne : ((1 : Int) + (s1 : Int) + (s2 : Int) != (1 : Int) + (s1 : Int) + (s2 : Int)) = false := by simp
    obtain ⟨hc0, hc1, _, _⟩ := two_cell TG.out
    go_wp2_with fail
    refine (heldConfig_any G1.out G2.out (by omega) (by omega) hsm.out hso.out).mono ?_; rintro e wd ⟨rfl, dd⟩
    rw [← HS1.out, ← HS2.out]
    clear hc0 hc1
    have G1 := Lib.hid (G1.out.ext dd)
    have G2 := Lib.hid (G2.out.ext dd)
    have TG := Lib.hid (TG.out.ext dd)
    have E := Lib.hid (E.out.trans dd)
    clear dd
    go_wp2_with fail
    refine (toIntSS_any (HF0.out.ext (EA.out.trans E.out)) HT0.out).mono ?_; rintro e wy3 ⟨ay3, ny3, cy3, rfl, oy3, ey3⟩
    have G1 := Lib.hid (G1.out.ext ey3)
    have G2 := Lib.hid (G2.out.ext ey3)
    have TG := Lib.hid (TG.out.ext ey3)
    have E := Lib.hid (E.out.trans ey3)
    go_wp2_with fail
    refine (ConfigOptimal_any (show FamV _ _ _ _ _ from oy3.ownF.famV) HQ.out).mono ?_; rintro e wH ⟨aH, nH, cH, bH, mH, dH, mid2, hi2, rfl, o1, o2, hb1, hb2, hb3, eH⟩
    have G1 := Lib.hid (G1.out.ext eH)
    have G2 := Lib.hid (G2.out.ext eH)
    have TG := Lib.hid (TG.out.ext eH)
    have E := Lib.hid (E.out.trans eH)
    have hMH : Two _ _ _ _ ∧ Ext none wH (wH.alloc (.cells #[.slice aH nH cH, .slice bH mH dH] 45)) := ⟨Two.new wH (.slice aH nH cH) (.slice bH mH dH), (Ext.refl _ _).alloc _⟩
    have TH := Lib.hid hMH.1
    have H1 := Lib.hid (o1.fam.ext hMH.2)
    have H2 := Lib.hid (o2.fam.ext hMH.2)
    have G1 := Lib.hid (G1.out.ext hMH.2)
    have G2 := Lib.hid (G2.out.ext hMH.2)
    have TG := Lib.hid (TG.out.ext hMH.2)
    have E := Lib.hid (E.out.trans hMH.2)
    clear o1 o2 hb1 hb2 hb3 eH hMH oy3 ey3
    obtain ⟨hc0, hc1, _, _⟩ := two_cell TH.out
    obtain ⟨hc2, hc3, _, _⟩ := two_cell (TW.out.ext E.out)
    go_wp2_with fail
    obtain ⟨wI, hwI⟩ : ∃ x, x = wH.alloc (.cells #[.slice aH nH cH, .slice bH mH dH] 45) := ⟨_, rfl⟩
    rw [← hwI] at TG TH G1 G2 H1 H2 E ⊢
    clear hwI hc0 hc1 hc2 hc3
    refine (eqConfig_is H1.out H2.out (U1.out.ext E.out) (U2.out.ext E.out)).mono ?_; rintro e wd ⟨rfl, dd⟩
    have G1 := Lib.hid (G1.out.ext dd)
    have G2 := Lib.hid (G2.out.ext dd)
    have TG := Lib.hid (TG.out.ext dd)
    have E := Lib.hid (E.out.trans dd)
    clear dd H1 H2 TH
    obtain ⟨hc0, hc1, _, _⟩ := two_cell TG.out
    go_wp2_with fail
    refine (heldConfig_any G1.out G2.out (by omega) (by omega) hsm.out hso.out).mono ?_; rintro e wd ⟨rfl, dd⟩
    rw [← HS1.out, ← HS2.out]
    go_wp2_with fail
    go_ret
    exact ⟨rfl, EA.out.trans (E.out.trans dd)⟩
  · go_wp2_with fail
    go_ret
    exact ⟨rfl, Ext.refl _ _⟩
end Go.Proofs.Ytjjjpakgnipghaa
