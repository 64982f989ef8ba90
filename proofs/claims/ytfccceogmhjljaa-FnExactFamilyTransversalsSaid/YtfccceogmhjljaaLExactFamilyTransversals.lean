/- The walk of laws.FnExactFamilyTransversals: it returns true. Condition: the arguments are what their types say. -/
import Derived.Test.YtfccceogmhjljaaA1
import Derived.Test.YtfccceogmhjljaaRD
namespace Go.Proofs.Ytfccceogmhjljaa
open Go.RowKit
set_option linter.unusedVariables false

set_option maxRecDepth 20000 in
set_option maxHeartbeats 2000000 in
theorem FnExactFamilyTransversals_walk {a0 : Option Addr} {n0 c0 : Nat} {f0 : List (List Int)} {w : World} (hf0 : FamV w a0 n0 c0 f0) :
    Calls Try.prog 12 #[.slice a0 n0 c0] w fun e w' => e = .returned (.bool true) ∧ Ext none w w' := by
  have hsf := Lib.hid (sameF_refl (transL f0))
  have hsm := Lib.hid (show small (transL f0) from small_transL f0)
  obtain ⟨q, hq⟩ : ∃ q, okT f0 = q := ⟨_, rfl⟩
  have HQ := Lib.hid hq
  clear hq
  have HF0 := Lib.hid hf0.1
  have hn0 := Lib.hid hf0.1.len
  clear hf0
  go_enter Try.func12, Try.ntmps12
  go_wp2_with fail
  refine (szIntSS_any (left := 1048576) HF0.out (by omega)).mono ?_; rintro e w_ ⟨⟨ht0, rfl⟩ | ⟨ht0, rfl⟩, rfl⟩
  · skip
    have HT0 := Lib.hid (show tot f0 ≤ 1048576 from by omega)
    have hs0 := Lib.hid (show sumLen f0 ≤ 1048576 from by have := HT0.out; unfold tot at this; omega)
    have hn0I : n0 ≤ 1048576 := by have := hn0.out; have := HT0.out; unfold tot at this; omega
    obtain ⟨r0, hr0⟩ : ∃ r : Nat, r = 1048576 - tot f0 := ⟨_, rfl⟩
    rw [← hr0]
    have hr0b : r0 ≤ 1048576 := by omega
    clear hr0 ht0
    go_wp2_with fail
    refine (toIntSS_any (HF0.out) HT0.out).mono ?_; rintro e ws1 ⟨as1, ns1, cs1, rfl, os1, es1⟩
    go_wp2_with fail
    refine (sFamilyTransversals_r (show FamV _ _ _ _ _ from os1.ownF.famV) HQ.out).mono ?_; rintro e wA ⟨aA, nA, cA, rfl, oA, eA⟩
    have UW := Lib.hid oA.fam
    have EA := Lib.hid (es1.trans eA)
    clear oA eA os1 es1
    go_wp2_with fail
    refine (toIntSS_any (HF0.out.ext EA.out) HT0.out).mono ?_; rintro e wx2 ⟨ax2, nx2, cx2, rfl, ox2, ex2⟩
    have HE0 := Lib.hid ((EA.out.trans ex2))
    have X0 := Lib.hid (ox2)
    have EX := Lib.hid (World.grownBy.trans (ex2) (World.grownBy.refl _ none))
    have hz0 := Lib.hid (show wA.heap.size ≤ wx2.heap.size from ex2.size)
    clear HE0 ox2 ex2
    go_wp2_with fail
    refine (FamilyTransversals_r (show FamV _ _ _ _ _ from X0.out.ownF.famV) HQ.out).mono ?_; rintro e wG ⟨aG, nG, cG, rfl, oG, eG⟩
    have hnG : nG ≤ 64 := by rw [← oG.len]; exact hsm.out.1
    have G := Lib.hid oG
    have X0 := Lib.hid (X0.out.ext0 eG)
    have E := Lib.hid (EX.out.trans eG)
    clear oG eG EX
    go_wp2_with fail
    refine (eqIntSS_is G.out.fam (UW.out.ext E.out) hsf.out).mono ?_; rintro e wd ⟨rfl, dd⟩
    have G := Lib.hid (G.out.ext0 (dd.ext (r := none)))
    have X0 := Lib.hid (X0.out.ext0 (dd.ext (r := none)))
    have E := Lib.hid (E.out.trans (dd.ext (r := none)))
    clear dd
    go_wp2_with fail
    refine (toIntSS_any (HF0.out.ext (EA.out.trans E.out)) HT0.out).mono ?_; rintro e wt ⟨at_, nt, ct, rfl, ot, et⟩
    have G := Lib.hid (G.out.ext0 et)
    have X0 := Lib.hid (X0.out.ext0 et)
    have E := Lib.hid (E.out.trans et)
    go_wp2_with fail
    refine (eqIntSS_is X0.out.fam ot.fam (sameF_refl f0)).mono ?_; rintro e wd ⟨rfl, dd⟩
    clear ot et
    have G := Lib.hid (G.out.ext0 (dd.ext (r := none)))
    have X0 := Lib.hid (X0.out.ext0 (dd.ext (r := none)))
    have E := Lib.hid (E.out.trans (dd.ext (r := none)))
    clear dd
    go_wp2_with fail
    refine (markIntSS_any X0.out (by omega) (by have := hs0.out; omega) hs0.out (by have := X0.out.len; have := hn0.out; omega)).mono ?_; rintro e wm ⟨rfl, om, gm⟩
    have G := Lib.hid (G.out.chg gm (Nat.le_refl _))
    have E := Lib.hid (gm.ext E.out (Nat.le_refl _))
    clear om gm
    have hk1 : ¬ ((1 : Int) + (sumLen f0 : Int) < 0) := by omega
    go_wp2_with fail
    refine (eqIntSS_is G.out.fam (UW.out.ext E.out) hsf.out).mono ?_; rintro e wd ⟨rfl, dd⟩
    have G := Lib.hid (G.out.ext0 (dd.ext (r := none)))
    have E := Lib.hid (E.out.trans (dd.ext (r := none)))
    clear dd
    have hgl := Lib.hid (show wA.heap.size ≤ wx2.heap.size from by have := hz0.out; omega)
    go_wp2_with fail
    refine (markIntSS_any G.out (by omega) (by omega) (by have := hsm.out.2; omega) (by omega)).mono ?_; rintro e wm ⟨rfl, om, gm⟩
    have E := Lib.hid (gm.ext E.out hgl.out)
    have G := Lib.hid om.fam
    clear om gm
    have hk2 : ¬ ((1 : Int) + (sumLen (transL f0) : Int) < 0) := by omega
    go_wp2_with fail
    refine (heldIntSS_any G.out (by omega) (by omega) (by have := hsm.out.2; omega) (by omega)).mono ?_; rintro e w_ ⟨rfl, rfl⟩
    go_wp2_with fail
    refine (toIntSS_any (HF0.out.ext (EA.out.trans E.out)) HT0.out).mono ?_; rintro e wy3 ⟨ay3, ny3, cy3, rfl, oy3, ey3⟩
    have G := Lib.hid (G.out.ext ey3)
    have E := Lib.hid (E.out.trans ey3)
    go_wp2_with fail
    refine (FamilyTransversals_r (show FamV _ _ _ _ _ from oy3.ownF.famV) HQ.out).mono ?_; rintro e wH ⟨aH, nH, cH, rfl, oH, eH⟩
    have G := Lib.hid (G.out.ext eH)
    have E := Lib.hid (E.out.trans eH)
    have H := Lib.hid oH.fam
    clear oH eH oy3 ey3
    go_wp2_with fail
    refine (eqIntSS_is H.out (UW.out.ext E.out) hsf.out).mono ?_; rintro e wd ⟨rfl, dd⟩
    have G := Lib.hid (G.out.ext (dd.ext (r := none)))
    have E := Lib.hid (E.out.trans (dd.ext (r := none)))
    clear dd
    go_wp2_with fail
    refine (heldIntSS_any G.out (by omega) (by omega) (by have := hsm.out.2; omega) (by omega)).mono ?_; rintro e w_ ⟨rfl, rfl⟩
    go_wp2_with fail
    go_ret
    exact ⟨rfl, EA.out.trans E.out⟩
  · go_wp2_with fail
    go_ret
    exact ⟨rfl, Ext.refl _ _⟩
end Go.Proofs.Ytfccceogmhjljaa
