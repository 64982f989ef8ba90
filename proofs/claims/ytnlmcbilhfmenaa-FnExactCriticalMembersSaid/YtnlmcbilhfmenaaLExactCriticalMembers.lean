/- The walk of laws.FnExactCriticalMembers: it returns true. Condition: the argument is a slice of slices of int. -/
import Derived.Test.YtnlmcbilhfmenaaA1
import Derived.Test.YtnlmcbilhfmenaaCC
import Derived.Test.YtnlmcbilhfmenaaX3
namespace Go.Proofs.Ytnlmcbilhfmenaa
open Go.RowKit
set_option linter.unusedVariables false

set_option maxHeartbeats 4000000 in
theorem FnExactCriticalMembers_walk {a : Option Addr} {n c : Nat} {f : List (List Int)} {w : World} (hf : FamV w a n c f) :
    Calls Try.prog 3 #[.slice a n c] w fun e w' => e = .returned (.bool true) ∧ Ext none w w' := by
  have hF := Lib.hid hf.1
  have hn := Lib.hid hf.1.len
  have hsm := Lib.hid (same_refl (critL f))
  have hsf := Lib.hid (sameF_refl f)
  have hcl := Lib.hid (critL_len f)
  clear hf
  go_enter Try.func3, Try.ntmps3
  go_wp2_with fail
  refine (szIntSS_any (left := 1048576) hF.out (by omega)).mono ?_; rintro e w_ ⟨⟨ht, rfl⟩ | ⟨ht, rfl⟩, rfl⟩
  · have HT := Lib.hid ht
    have hs1 := Lib.hid (show sumLen f ≤ 1048576 from by unfold tot at ht; omega)
    have hn1 : n ≤ 1048576 := by have := hn.out; unfold tot at ht; omega
    obtain ⟨r, hr⟩ : ∃ r : Nat, r = 1048576 - tot f := ⟨_, rfl⟩
    rw [← hr]
    clear hr ht
    go_wp2_with fail
    refine (toIntSS_any hF.out HT.out).mono ?_; rintro e w1 ⟨a1, n1, c1, rfl, o1, e1⟩
    go_wp2_with fail
    refine (sCriticalMembers_any o1.fam).mono ?_; rintro e wA ⟨aw, nw, cw, rfl, ow, e2⟩
    have UW := Lib.hid ow.ints
    have EA := Lib.hid (e1.trans e2)
    clear o1 ow e1 e2
    go_wp2_with fail
    refine (toIntSS_any (hF.out.ext EA.out) HT.out).mono ?_; rintro e wB ⟨ax, nx, cx, rfl, ox, eB⟩
    have hnx : nx = n := by rw [← ox.len, hn.out]
    subst hnx
    have OX := Lib.hid ox
    have EB := Lib.hid eB
    clear ox eB
    go_wp2_with fail
    refine (CriticalMembers_any OX.out.fam).mono ?_; rintro e wC ⟨ag, ng, cg, rfl, og, eC⟩
    have hng : ng ≤ 6 := by rw [← og.len]; exact hcl.out
    have OG := Lib.hid og
    have EC := Lib.hid eC
    clear og eC
    go_wp2_with fail
    refine (eqIntS_lit OG.out.ints ((UW.out.ext EB.out).ext EC.out) hsm.out).mono ?_; rintro e wD ⟨rfl, dD⟩
    have OG2 := Lib.hid (OG.out.ext0 dD.ext)
    have OX2 := Lib.hid ((OX.out.ext0 EC.out).ext0 dD.ext)
    have ED := Lib.hid ((EB.out.trans EC.out).trans (dD.ext (r := none)))
    clear dD
    go_wp2_with fail
    refine (toIntSS_any (hF.out.ext (EA.out.trans ED.out)) HT.out).mono ?_; rintro e wE ⟨a5, n5, c5, rfl, o5, eE⟩
    go_wp2_with fail
    refine (eqIntSS_is (OX2.out.ext0 eE).fam o5.fam hsf.out).mono ?_; rintro e wF ⟨rfl, dF⟩
    have OG3 := Lib.hid ((OG2.out.ext0 eE).ext0 dF.ext)
    have OX3 := Lib.hid ((OX2.out.ext0 eE).ext0 dF.ext)
    have EF := Lib.hid ((ED.out.trans eE).trans (dF.ext (r := none)))
    clear o5 eE dF
    go_wp2_with fail
    refine (markIntSS_any OX3.out (by omega) (by omega) hs1.out hn1).mono ?_; rintro e wG ⟨rfl, oG, cG⟩
    have OG4 := Lib.hid (OG3.out.chg cG (Nat.le_refl _))
    have EG := Lib.hid (cG.ext EF.out (Nat.le_refl _))
    clear oG cG
    have hk1 : ¬ ((1 : Int) + (sumLen f : Int) < 0) := by omega
    go_wp2_with fail
    refine (eqIntS_lit OG4.out.ints (UW.out.ext EG.out) hsm.out).mono ?_; rintro e wH ⟨rfl, dH⟩
    have OG5 := Lib.hid (OG4.out.ext0 dH.ext)
    have EH := Lib.hid (EG.out.trans (dH.ext (r := none)))
    clear dH
    have hB2 := Lib.hid (show wA.heap.size ≤ wB.heap.size from EB.out.size)
    have hbk := Lib.hid OG5.out.block
    go_wp2_with fail
    refine (markIntS_any OG5.out (by omega) (by omega) (by omega)).mono ?_; rintro e wI ⟨rfl, oI, gI⟩
    have I1 := Lib.hid oI.ints
    have EI := Lib.hid (EH.out.grown gI (fun g hg => .inl (Nat.le_trans hB2.out (hbk.out g hg))))
    clear oI gI
    go_wp2_with fail
    refine (heldIntS_any I1.out (by omega) (by omega) (by omega)).mono ?_; rintro e w_ ⟨rfl, rfl⟩
    go_wp2_with fail
    refine (toIntSS_any (hF.out.ext (EA.out.trans EI.out)) HT.out).mono ?_; rintro e wJ ⟨a7, n7, c7, rfl, o7, e7⟩
    go_wp2_with fail
    refine (CriticalMembers_any o7.fam).mono ?_; rintro e wK ⟨a8, n8, c8, rfl, o8, e8⟩
    have UK := Lib.hid (((UW.out.ext EI.out).ext e7).ext e8)
    have IK := Lib.hid ((I1.out.ext e7).ext e8)
    have EK := Lib.hid (((EA.out.trans EI.out).trans e7).trans e8)
    have I8 := Lib.hid o8.ints
    clear o7 o8 e7 e8
    go_wp2_with fail
    refine (eqIntS_lit I8.out UK.out hsm.out).mono ?_; rintro e wL ⟨rfl, dL⟩
    have IL := Lib.hid (IK.out.ext dL.ext)
    have EL := Lib.hid (EK.out.trans (dL.ext (r := none)))
    clear dL
    go_wp2_with fail
    refine (heldIntS_any IL.out (by omega) (by omega) (by omega)).mono ?_; rintro e w_ ⟨rfl, rfl⟩
    go_wp2_with fail
    go_ret
    exact ⟨rfl, EL.out⟩
  · go_wp2_with fail
    go_ret
    exact ⟨rfl, Ext.refl _ _⟩
end Go.Proofs.Ytnlmcbilhfmenaa
