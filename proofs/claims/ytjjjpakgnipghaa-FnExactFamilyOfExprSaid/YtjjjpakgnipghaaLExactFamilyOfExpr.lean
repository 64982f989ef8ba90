/- The walk of laws.FnExactFamilyOfExpr: it returns true. Condition: the arguments are what their types say. -/
import Derived.Test.YtjjjpakgnipghaaRJ
import Derived.Test.YtjjjpakgnipghaaXR
import Derived.Test.YtjjjpakgnipghaaX3
namespace Go.Proofs.Ytjjjpakgnipghaa
open Go.RowKit
set_option linter.unusedVariables false

set_option maxRecDepth 20000 in
set_option maxHeartbeats 2000000 in
theorem FnExactFamilyOfExpr_walk {f0 : ByteArray} {w : World} (hf0 : f0.size ≤ 9223372036854775807) :
    Calls Try.prog 4 #[.string f0] w fun e w' => e = .returned (.bool true) ∧ Ext none w w' := by
  have hsf := Lib.hid (sameF_refl (ofExprL (byt f0)))
  have hsm := Lib.hid (show small (ofExprL (byt f0)) from small_ofExprL (byt f0))
  obtain ⟨q, hq⟩ : ∃ q, okE (byt f0) = q := ⟨_, rfl⟩
  have HQ := Lib.hid hq
  clear hq
  have HF0 := Lib.hid hf0
  rcases Nat.lt_or_ge 1048576 f0.size with hl | hl
  · have hlI : (1048576 : Int) < (f0.size : Int) := by omega
    go_enter Try.func4, Try.ntmps4
    go_wp2_with fail
    go_ret
    exact ⟨rfl, Ext.refl _ _⟩
  have hlI : ¬ (1048576 : Int) < (f0.size : Int) := by omega
  go_enter Try.func4, Try.ntmps4
  go_wp2_with fail
  refine (sFamilyOfExpr_r hf0 HQ.out).mono ?_; rintro e wA ⟨aA, nA, cA, rfl, oA, eA⟩
  have UW := Lib.hid oA.fam
  have EA := Lib.hid (eA)
  clear oA eA 
  have HE0 := Lib.hid (EA.out)
  have EX := Lib.hid (Ext.refl none wA)
  clear HE0 
  go_wp2_with fail
  refine (FamilyOfExpr_r hf0 HQ.out).mono ?_; rintro e wG ⟨aG, nG, cG, rfl, oG, eG⟩
  have hnG : nG ≤ 64 := by rw [← oG.len]; exact hsm.out.1
  have G := Lib.hid oG
  have E := Lib.hid (EX.out.trans eG)
  clear oG eG EX
  go_wp2_with fail
  refine (eqIntSS_is G.out.fam (UW.out.ext E.out) hsf.out).mono ?_; rintro e wd ⟨rfl, dd⟩
  have G := Lib.hid (G.out.ext0 (dd.ext (r := none)))
  have E := Lib.hid (E.out.trans (dd.ext (r := none)))
  clear dd
  have hgl := Lib.hid (show wA.heap.size ≤ wA.heap.size from by omega)
  go_wp2_with fail
  refine (markIntSS_any G.out (by omega) (by omega) (by have := hsm.out.2; omega) (by omega)).mono ?_; rintro e wm ⟨rfl, om, gm⟩
  have E := Lib.hid (gm.ext E.out hgl.out)
  have G := Lib.hid om.fam
  clear om gm
  have hk2 : ¬ ((1 : Int) + (sumLen (ofExprL (byt f0)) : Int) < 0) := by omega
  go_wp2_with fail
  refine (heldIntSS_any G.out (by omega) (by omega) (by have := hsm.out.2; omega) (by omega)).mono ?_; rintro e w_ ⟨rfl, rfl⟩
  go_wp2_with fail
  refine (FamilyOfExpr_r hf0 HQ.out).mono ?_; rintro e wH ⟨aH, nH, cH, rfl, oH, eH⟩
  have G := Lib.hid (G.out.ext eH)
  have E := Lib.hid (E.out.trans eH)
  have H := Lib.hid oH.fam
  clear oH eH 
  go_wp2_with fail
  refine (eqIntSS_is H.out (UW.out.ext E.out) hsf.out).mono ?_; rintro e wd ⟨rfl, dd⟩
  have G := Lib.hid (G.out.ext (dd.ext (r := none)))
  have E := Lib.hid (E.out.trans (dd.ext (r := none)))
  clear dd
  go_wp2_with fail
  refine (heldIntSS_any G.out (by omega) (by omega) (by have := hsm.out.2; omega) (by omega)).mono ?_; rintro e w_ ⟨rfl, rfl⟩
  go_wp2_with fail
  go_ret
  exact ⟨rfl, EA.out.trans E.out⟩
end Go.Proofs.Ytjjjpakgnipghaa
