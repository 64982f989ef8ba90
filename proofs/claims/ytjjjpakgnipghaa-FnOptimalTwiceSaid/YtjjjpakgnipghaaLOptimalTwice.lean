/- The walk of laws.FnOptimalTwice: it returns true. Condition: the argument is a slice of bytes. -/
import Derived.Test.YtjjjpakgnipghaaRK
namespace Go.Proofs.Ytjjjpakgnipghaa
open Go.RowKit
set_option linter.unusedVariables false

set_option maxRecDepth 20000 in
set_option maxHeartbeats 2000000 in
theorem FnOptimalTwice_walk {a : Option Addr} {n c : Nat} {w : World} (h : Bytes w a n c) :
    Calls Try.prog 7 #[.slice a n c] w fun e w' => e = .returned (.bool true) ∧ Ext none w w' := by
  rcases Nat.lt_or_ge 1048576 n with hl | hl
  · have hlI : (1048576 : Int) < (n : Int) := by omega
    go_enter Try.func7, Try.ntmps7
    go_wp2_with fail
    go_ret
    exact ⟨rfl, Ext.refl _ _⟩
  have hlI : ¬ (1048576 : Int) < (n : Int) := by omega
  go_enter Try.func7, Try.ntmps7
  go_wp2_with fail
  refine (DrawConfigOptimal_any h).mono ?_; rintro e w_ ⟨a1, n1, c1, f, rfl, hf, hn, he⟩
  clear h
  cases hk : okT f
  all_goals
    have HK := Lib.hid hk
    clear hk
    go_wp2_with fail
    refine (sConfigOptimal_any hf HK.out).mono ?_; rintro e wA ⟨aA, nA, cA, bA, mA, dA, rfl, u1, u2, eA⟩
    have hMW : Two _ _ _ _ ∧ Ext none wA (wA.alloc (.cells #[.slice aA nA cA, .slice bA mA dA] 45)) := ⟨Two.new wA (.slice aA nA cA) (.slice bA mA dA), (Ext.refl _ _).alloc _⟩
    have U1 := Lib.hid (u1.ext hMW.2)
    have U2 := Lib.hid (u2.ext hMW.2)
    have TW := Lib.hid hMW.1
    have hF := Lib.hid (hf.ext (eA.trans hMW.2))
    have HE := Lib.hid (he.trans (eA.trans hMW.2))
    clear u1 u2 eA hMW hf he
    go_wp2_with fail
    obtain ⟨wB, hwB⟩ : ∃ x, x = wA.alloc (.cells #[.slice aA nA cA, .slice bA mA dA] 45) := ⟨_, rfl⟩
    rw [← hwB] at U1 U2 TW hF HE ⊢
    clear hwB
    refine (ConfigOptimal_any hF.out HK.out).mono ?_; rintro e wG ⟨aG, nG, cG, bG, mG, dG, mid, hi, rfl, o1, o2, hb1, hb2, hb3, eG⟩
    have hMG : Two _ _ _ _ ∧ Ext none wG (wG.alloc (.cells #[.slice aG nG cG, .slice bG mG dG] 45)) := ⟨Two.new wG (.slice aG nG cG) (.slice bG mG dG), (Ext.refl _ _).alloc _⟩
    have TG := Lib.hid hMG.1
    have G1 := Lib.hid (o1.ext0 hMG.2).ownF.famV
    have G2 := Lib.hid (o2.ext0 hMG.2).ownF.famV
    have hF := Lib.hid ((hF.out.ext eG).ext hMG.2)
    have E := Lib.hid (eG.trans hMG.2)
    clear o1 o2 eG hMG hb1 hb2 hb3
    obtain ⟨hc0, hc1, _, _⟩ := two_cell TG.out
    obtain ⟨hc2, hc3, _, _⟩ := two_cell (TW.out.ext E.out)
    go_wp2_with fail
    obtain ⟨wC, hwC⟩ : ∃ x, x = wG.alloc (.cells #[.slice aG nG cG, .slice bG mG dG] 45) := ⟨_, rfl⟩
    rw [← hwC] at TG G1 G2 hF E ⊢
    clear hwC hc0 hc1 hc2 hc3
    refine (sameConfig_is G1.out.1 G2.out.1 (U1.out.ext E.out) (U2.out.ext E.out)).mono ?_; rintro e w1 ⟨rfl, e1⟩
    have G1 := Lib.hid (G1.out.ext e1)
    have G2 := Lib.hid (G2.out.ext e1)
    have hF := Lib.hid (hF.out.ext e1)
    have TG := Lib.hid (TG.out.ext e1)
    have E := Lib.hid (E.out.trans e1)
    clear e1
    obtain ⟨hc0, hc1, _, _⟩ := two_cell TG.out
    obtain ⟨hc2, hc3, _, _⟩ := two_cell (TW.out.ext E.out)
  · go_wp2_with fail
    refine (sameConfig_is G1.out.1 G2.out.1 (U1.out.ext E.out) (U2.out.ext E.out)).mono ?_; rintro e w1 ⟨rfl, e1⟩
    go_wp2_with fail
    go_ret
    exact ⟨rfl, HE.out.trans (E.out.trans e1)⟩
  · have htw := Lib.hid (trans_twice HK.out)
    have HK2 := Lib.hid (transL_okT HK.out)
    have hopt := Lib.hid (optL_yes HK2.out)
    clear hc2 hc3
    go_wp2_with fail
    refine (ConfigOptimal_any G1.out HK2.out).mono ?_; rintro e wD ⟨aD, nD, cD, bD, mD, dD, mid2, hi2, rfl, o1, o2, hb1, hb2, hb3, eD⟩
    rw [htw.out] at o1
    rw [hopt.out] at o2
    have hMD : Two _ _ _ _ ∧ Ext none wD (wD.alloc (.cells #[.slice aD nD cD, .slice bD mD dD] 45)) := ⟨Two.new wD (.slice aD nD cD) (.slice bD mD dD), (Ext.refl _ _).alloc _⟩
    have TD := Lib.hid hMD.1
    have D1 := Lib.hid (o1.ext0 hMD.2).fam
    have D2 := Lib.hid (o2.ext0 hMD.2).fam
    have hF := Lib.hid ((hF.out.ext eD).ext hMD.2)
    have G1 := Lib.hid ((G1.out.ext eD).ext hMD.2)
    have TG := Lib.hid ((TG.out.ext eD).ext hMD.2)
    have E := Lib.hid (E.out.trans (eD.trans hMD.2))
    clear o1 o2 eD hMD hb1 hb2 hb3 hc0 hc1
    obtain ⟨hc0, hc1, _, _⟩ := two_cell TD.out
    obtain ⟨hc2, hc3, _, _⟩ := two_cell TG.out
    go_wp2_with fail
    obtain ⟨wE, hwE⟩ : ∃ x, x = wD.alloc (.cells #[.slice aD nD cD, .slice bD mD dD] 45) := ⟨_, rfl⟩
    rw [← hwE] at TG TD D1 D2 hF G1 E ⊢
    clear hwE hc0 hc1 hc2 hc3
    refine (sameSets_is D1.out hF.out.1 (sameF_refl _)).mono ?_; rintro e w1 ⟨rfl, d1⟩
    obtain ⟨hc0, hc1, _, _⟩ := two_cell (TD.out.ext (d1.ext (r := none)))
    obtain ⟨hc2, hc3, _, _⟩ := two_cell (TG.out.ext (d1.ext (r := none)))
    have D2 := Lib.hid (D2.out.ext (d1.ext (r := none)))
    have G1 := Lib.hid (G1.out.ext (d1.ext (r := none)))
    have E := Lib.hid (E.out.trans (d1.ext (r := none)))
    clear d1
    go_wp2_with fail
    refine (sameSets_is D2.out G1.out.1 (sameF_refl _)).mono ?_; rintro e w1 ⟨rfl, d1⟩
    go_wp2_with fail
    go_ret
    exact ⟨rfl, HE.out.trans (E.out.trans (d1.ext (r := none)))⟩
end Go.Proofs.Ytjjjpakgnipghaa
