/- The walk of laws.FnExactFamilyBoth: it returns true. Condition: the arguments are what their types say. -/
import Derived.Test.YtfccceogmhjljaaA1
import Derived.Test.YtfccceogmhjljaaCG
import Derived.Test.YtfccceogmhjljaaXR
import Derived.Test.YtfccceogmhjljaaX3
namespace Go.Proofs.Ytfccceogmhjljaa
open Go.RowKit
set_option linter.unusedVariables false

set_option maxRecDepth 20000 in
set_option maxHeartbeats 2000000 in
theorem FnExactFamilyBoth_walk {a0 : Option Addr} {n0 c0 : Nat} {f0 : List (List Int)} {a1 : Option Addr} {n1 c1 : Nat} {f1 : List (List Int)} {w : World} (hf0 : FamV w a0 n0 c0 f0) (hf1 : FamV w a1 n1 c1 f1) :
    Calls Try.prog 6 #[.slice a0 n0 c0, .slice a1 n1 c1] w fun e w' => e = .returned (.bool true) ∧ Ext none w w' := by
  have hsf := Lib.hid (sameF_refl (bothL f0 f1))
  have hsm := Lib.hid (show small (bothL f0 f1) from small_bothL f0 f1)
  obtain ⟨q, hq⟩ : ∃ q, ok2 f0 f1 = q := ⟨_, rfl⟩
  have HQ := Lib.hid hq
  clear hq
  have HF0 := Lib.hid hf0.1
  have hn0 := Lib.hid hf0.1.len
  clear hf0
  have HF1 := Lib.hid hf1.1
  have hn1 := Lib.hid hf1.1.len
  clear hf1
  go_enter Try.func6, Try.ntmps6
  go_wp2_with fail
  refine (szIntSS_any (left := 1048576) HF0.out (by omega)).mono ?_; rintro e w_ ⟨⟨ht0, rfl⟩ | ⟨ht0, rfl⟩, rfl⟩
  · skip
    have HT0 := Lib.hid (show tot f0 ≤ 1048576 from by omega)
    have hs0 := Lib.hid (show sumLen f0 ≤ 1048576 from by have := HT0.out; unfold tot at this; omega)
    have hn0I : n0 ≤ 1048576 := by have := hn0.out; have := HT0.out; unfold tot at this; omega
    obtain ⟨r0, hr0⟩ : ∃ r : Nat, r = 1048576 - tot f0 := ⟨_, rfl⟩
    rw [← hr0]
    have hr0b : r0 ≤ 1048576 := by omega
    clear hr0 ht0
    go_wp2_with fail
    refine (szIntSS_any (left := r0) HF1.out (by omega)).mono ?_; rintro e w_ ⟨⟨ht1, rfl⟩ | ⟨ht1, rfl⟩, rfl⟩
    · skip
      have HT1 := Lib.hid (show tot f1 ≤ 1048576 from by omega)
      have hs1 := Lib.hid (show sumLen f1 ≤ 1048576 from by have := HT1.out; unfold tot at this; omega)
      have hn1I : n1 ≤ 1048576 := by have := hn1.out; have := HT1.out; unfold tot at this; omega
      obtain ⟨r1, hr1⟩ : ∃ r : Nat, r = r0 - tot f1 := ⟨_, rfl⟩
      rw [← hr1]
      have hr1b : r1 ≤ 1048576 := by omega
      clear hr1 ht1
      go_wp2_with fail
      refine (toIntSS_any (HF0.out) HT0.out).mono ?_; rintro e ws1 ⟨as1, ns1, cs1, rfl, os1, es1⟩
      go_wp2_with fail
      refine (toIntSS_any (HF1.out.ext es1) HT1.out).mono ?_; rintro e ws2 ⟨as2, ns2, cs2, rfl, os2, es2⟩
      go_wp2_with fail
      refine (sFamilyBoth_r (show FamV _ _ _ _ _ from (os1.ext0 es2).ownF.famV) (show FamV _ _ _ _ _ from os2.ownF.famV) HQ.out).mono ?_; rintro e wA ⟨aA, nA, cA, rfl, oA, eA⟩
      have UW := Lib.hid oA.fam
      have EA := Lib.hid ((es1.trans es2).trans eA)
      clear oA eA os1 es1 os2 es2
      go_wp2_with fail
      refine (toIntSS_any (HF0.out.ext EA.out) HT0.out).mono ?_; rintro e wx3 ⟨ax3, nx3, cx3, rfl, ox3, ex3⟩
      go_wp2_with fail
      refine (toIntSS_any (HF1.out.ext (EA.out.trans ex3)) HT1.out).mono ?_; rintro e wx4 ⟨ax4, nx4, cx4, rfl, ox4, ex4⟩
      have HE0 := Lib.hid (((EA.out.trans ex3).trans ex4))
      have X0 := Lib.hid ((ox3.ext0 ex4))
      have X1 := Lib.hid (ox4)
      have EX := Lib.hid ((ex3.trans ex4))
      have hz0 := Lib.hid (show wA.heap.size ≤ wx3.heap.size from ex3.size)
      have hz1 := Lib.hid (show wx3.heap.size ≤ wx4.heap.size from ex4.size)
      clear HE0 ox3 ex3 ox4 ex4
      go_wp2_with fail
      refine (FamilyBoth_r (show FamV _ _ _ _ _ from X0.out.ownF.famV) (show FamV _ _ _ _ _ from X1.out.ownF.famV) HQ.out).mono ?_; rintro e wG ⟨aG, nG, cG, rfl, oG, eG⟩
      have hnG : nG ≤ 64 := by rw [← oG.len]; exact hsm.out.1
      have G := Lib.hid oG
      have X0 := Lib.hid (X0.out.ext0 eG)
      have X1 := Lib.hid (X1.out.ext0 eG)
      have E := Lib.hid (EX.out.trans eG)
      clear oG eG EX
      go_wp2_with fail
      refine (eqIntSS_is G.out.fam (UW.out.ext E.out) hsf.out).mono ?_; rintro e wd ⟨rfl, dd⟩
      have G := Lib.hid (G.out.ext0 (dd.ext (r := none)))
      have X0 := Lib.hid (X0.out.ext0 (dd.ext (r := none)))
      have X1 := Lib.hid (X1.out.ext0 (dd.ext (r := none)))
      have E := Lib.hid (E.out.trans (dd.ext (r := none)))
      clear dd
      go_wp2_with fail
      refine (toIntSS_any (HF0.out.ext (EA.out.trans E.out)) HT0.out).mono ?_; rintro e wt ⟨at_, nt, ct, rfl, ot, et⟩
      have G := Lib.hid (G.out.ext0 et)
      have X0 := Lib.hid (X0.out.ext0 et)
      have X1 := Lib.hid (X1.out.ext0 et)
      have E := Lib.hid (E.out.trans et)
      go_wp2_with fail
      refine (eqIntSS_is X0.out.fam ot.fam (sameF_refl f0)).mono ?_; rintro e wd ⟨rfl, dd⟩
      clear ot et
      have G := Lib.hid (G.out.ext0 (dd.ext (r := none)))
      have X0 := Lib.hid (X0.out.ext0 (dd.ext (r := none)))
      have X1 := Lib.hid (X1.out.ext0 (dd.ext (r := none)))
      have E := Lib.hid (E.out.trans (dd.ext (r := none)))
      clear dd
      go_wp2_with fail
      refine (toIntSS_any (HF1.out.ext (EA.out.trans E.out)) HT1.out).mono ?_; rintro e wt ⟨at_, nt, ct, rfl, ot, et⟩
      have G := Lib.hid (G.out.ext0 et)
      have X0 := Lib.hid (X0.out.ext0 et)
      have X1 := Lib.hid (X1.out.ext0 et)
      have E := Lib.hid (E.out.trans et)
      go_wp2_with fail
      refine (eqIntSS_is X1.out.fam ot.fam (sameF_refl f1)).mono ?_; rintro e wd ⟨rfl, dd⟩
      clear ot et
      have G := Lib.hid (G.out.ext0 (dd.ext (r := none)))
      have X0 := Lib.hid (X0.out.ext0 (dd.ext (r := none)))
      have X1 := Lib.hid (X1.out.ext0 (dd.ext (r := none)))
      have E := Lib.hid (E.out.trans (dd.ext (r := none)))
      clear dd
      go_wp2_with fail
      refine (markIntSS_any X0.out (by omega) (by have := hs0.out; omega) hs0.out (by have := X0.out.len; have := hn0.out; omega)).mono ?_; rintro e wm ⟨rfl, om, gm⟩
      have X1 := Lib.hid (X1.out.chg gm (Nat.le_refl _))
      have G := Lib.hid (G.out.chg gm hz1.out)
      have E := Lib.hid (gm.ext E.out (Nat.le_refl _))
      clear om gm
      go_wp2_with fail
      refine (markIntSS_any X1.out (by omega) (by have := hs0.out; omega) hs1.out (by have := X1.out.len; have := hn1.out; omega)).mono ?_; rintro e wm ⟨rfl, om, gm⟩
      have G := Lib.hid (G.out.chg gm (Nat.le_refl _))
      have E := Lib.hid (gm.ext E.out (hz0.out))
      clear om gm
      have hk1 : ¬ ((1 : Int) + (sumLen f0 : Int) + (sumLen f1 : Int) < 0) := by omega
      go_wp2_with fail
      refine (eqIntSS_is G.out.fam (UW.out.ext E.out) hsf.out).mono ?_; rintro e wd ⟨rfl, dd⟩
      have G := Lib.hid (G.out.ext0 (dd.ext (r := none)))
      have E := Lib.hid (E.out.trans (dd.ext (r := none)))
      clear dd
      have hgl := Lib.hid (show wA.heap.size ≤ wx4.heap.size from by have := hz0.out; have := hz1.out; omega)
      go_wp2_with fail
      refine (markIntSS_any G.out (by omega) (by omega) (by have := hsm.out.2; omega) (by omega)).mono ?_; rintro e wm ⟨rfl, om, gm⟩
      have E := Lib.hid (gm.ext E.out hgl.out)
      have G := Lib.hid om.fam
      clear om gm
      have hk2 : ¬ ((1 : Int) + (sumLen (bothL f0 f1) : Int) < 0) := by omega
      go_wp2_with fail
      refine (heldIntSS_any G.out (by omega) (by omega) (by have := hsm.out.2; omega) (by omega)).mono ?_; rintro e w_ ⟨rfl, rfl⟩
      go_wp2_with fail
      refine (toIntSS_any (HF0.out.ext (EA.out.trans E.out)) HT0.out).mono ?_; rintro e wy5 ⟨ay5, ny5, cy5, rfl, oy5, ey5⟩
      have G := Lib.hid (G.out.ext ey5)
      have E := Lib.hid (E.out.trans ey5)
      go_wp2_with fail
      refine (toIntSS_any (HF1.out.ext (EA.out.trans E.out)) HT1.out).mono ?_; rintro e wy6 ⟨ay6, ny6, cy6, rfl, oy6, ey6⟩
      have G := Lib.hid (G.out.ext ey6)
      have E := Lib.hid (E.out.trans ey6)
      go_wp2_with fail
      refine (FamilyBoth_r (show FamV _ _ _ _ _ from (oy5.ext0 ey6).ownF.famV) (show FamV _ _ _ _ _ from oy6.ownF.famV) HQ.out).mono ?_; rintro e wH ⟨aH, nH, cH, rfl, oH, eH⟩
      have G := Lib.hid (G.out.ext eH)
      have E := Lib.hid (E.out.trans eH)
      have H := Lib.hid oH.fam
      clear oH eH oy5 ey5 oy6 ey6
      go_wp2_with fail
      refine (eqIntSS_is H.out (UW.out.ext E.out) hsf.out).mono ?_; rintro e wd ⟨rfl, dd⟩
      have G := Lib.hid (G.out.ext (dd.ext (r := none)))
      have E := Lib.hid (E.out.trans (dd.ext (r := none)))
      clear dd
      go_wp2_with fail
      refine (heldIntSS_any G.out (by omega) (by omega) (by have := hsm.out.2; omega) (by omega)).mono ?_; rintro e w_ ⟨rfl, rfl⟩
      go_wp2_with fail
      go_ret
      exact ⟨rfl, EA.out.trans E.out⟩
    · go_wp2_with fail
      go_ret
      exact ⟨rfl, Ext.refl _ _⟩
  · go_wp2_with fail
    go_ret
    exact ⟨rfl, Ext.refl _ _⟩
end Go.Proofs.Ytfccceogmhjljaa
