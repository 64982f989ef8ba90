/- The walk of laws.FnExactWeightsFamily: it returns true. Condition: the arguments are what their types say. -/
import Derived.Test.YtfccceogmhjljaaA1
import Derived.Test.YtfccceogmhjljaaRD
namespace Go.Proofs.Ytfccceogmhjljaa
open Go.RowKit
set_option linter.unusedVariables false

set_option maxRecDepth 20000 in
set_option maxHeartbeats 2000000 in
theorem FnExactWeightsFamily_walk {a0 : Option Addr} {n0 c0 : Nat} {f0 : List Int} {f1 : Int} {w : World} (hf0 : Ints w a0 n0 f0) (hf1 : (Lit.int IntKind.i64 f1).wf = true) :
    Calls Try.prog 11 #[.slice a0 n0 c0, .int .i64 f1] w fun e w' => e = .returned (.bool true) ∧ Ext none w w' := by
  have hsf := Lib.hid (sameF_refl (wFamL f0 f1))
  have hsm := Lib.hid (show small (wFamL f0 f1) from small_wFamL f0 f1)
  obtain ⟨q, hq⟩ : ∃ q, okW f0 f1 = q := ⟨_, rfl⟩
  have HQ := Lib.hid hq
  clear hq
  have HF0 := Lib.hid hf0
  have hn0 := Lib.hid hf0.len
  have hsf0 := Lib.hid (same_refl f0)
  have hmx0 := hf0.max
  clear hf0
  rcases Nat.lt_or_ge 1048576 n0 with hl | hl
  · have hlI : (1048576 : Int) < (n0 : Int) := by omega
    go_enter Try.func11, Try.ntmps11
    go_wp2_with fail
    go_ret
    exact ⟨rfl, Ext.refl _ _⟩
  have hlI : ¬ (1048576 : Int) < (n0 : Int) := by omega
  go_enter Try.func11, Try.ntmps11
  go_wp2_with fail
  refine (toIntS_any (HF0.out) (by omega)).mono ?_; rintro e ws1 ⟨as1, ns1, cs1, rfl, os1, es1⟩
  go_wp2_with fail
  refine (sWeightsFamily_r os1.ints HQ.out).mono ?_; rintro e wA ⟨aA, nA, cA, rfl, oA, eA⟩
  have UW := Lib.hid oA.fam
  have EA := Lib.hid (es1.trans eA)
  clear oA eA os1 es1
  go_wp2_with fail
  refine (toIntS_any (HF0.out.ext EA.out) (by omega)).mono ?_; rintro e wx2 ⟨ax2, nx2, cx2, rfl, ox2, ex2⟩
  have HE0 := Lib.hid ((EA.out.trans ex2))
  have X0 := Lib.hid (ox2)
  have hxi := Lib.hid (fun k (hk : (Value.slice ax2 nx2 cx2).ownBlock = some k) => (World.ownsRow.lt X0.out k hk).2)
  have EX := Lib.hid (World.grownBy.trans (ex2) (World.grownBy.refl _ none))
  have hz0 := Lib.hid (show wA.heap.size ≤ wx2.heap.size from ex2.size)
  clear HE0 ox2 ex2
  go_wp2_with fail
  refine (WeightsFamily_r X0.out.ints HQ.out).mono ?_; rintro e wG ⟨aG, nG, cG, rfl, oG, eG⟩
  have hnG : nG ≤ 64 := by rw [← oG.len]; exact hsm.out.1
  have G := Lib.hid oG
  have X0 := Lib.hid (X0.out.ext0 eG)
  have E := Lib.hid (EX.out.trans eG)
  clear oG eG EX
  go_wp2_with fail
  refine (eqIntSS_is G.out.fam (UW.out.ext E.out) hsf.out).mono ?_; rintro e wd ⟨rfl, dd⟩
  have G := Lib.hid (G.out.ext0 (dd.ext (r := none)))
  have X0 := Lib.hid (X0.out.ext0 (dd.ext (r := none)))
  have E := Lib.hid (E.out.trans (dd.ext (r := none)))
  clear dd
  go_wp2_with fail
  refine (toIntS_any (HF0.out.ext (EA.out.trans E.out)) (by omega)).mono ?_; rintro e wt ⟨at_, nt, ct, rfl, ot, et⟩
  have G := Lib.hid (G.out.ext0 et)
  have X0 := Lib.hid (X0.out.ext0 et)
  have E := Lib.hid (E.out.trans et)
  go_wp2_with fail
  refine (eqIntS_lit X0.out.ints ot.ints hsf0.out).mono ?_; rintro e wd ⟨rfl, dd⟩
  clear ot et
  have G := Lib.hid (G.out.ext0 (dd.ext (r := none)))
  have X0 := Lib.hid (X0.out.ext0 (dd.ext (r := none)))
  have E := Lib.hid (E.out.trans (dd.ext (r := none)))
  clear dd
  go_wp2_with fail
  have HBm := Lib.hid X0.out.block
  refine (markIntS_any X0.out (by omega) (by omega) (by have := X0.out.len; have := hn0.out; omega)).mono ?_; rintro e wm ⟨rfl, om, gm0⟩
  have gm := gm0
  have gm2 := Chg.of_grown (lo := wA.heap.size) (hi := wx2.heap.size) gm (fun g hg => ⟨HBm.out g hg, hxi.out g hg⟩)
  have G := Lib.hid (G.out.chg gm2 (Nat.le_refl _))
  have E := Lib.hid (gm2.ext E.out (Nat.le_refl _))
  clear om gm gm0 gm2
  have hk1 : ¬ ((1 : Int) + (nx2 : Int) < 0) := by omega
  go_wp2_with fail
  refine (eqIntSS_is G.out.fam (UW.out.ext E.out) hsf.out).mono ?_; rintro e wd ⟨rfl, dd⟩
  have G := Lib.hid (G.out.ext0 (dd.ext (r := none)))
  have E := Lib.hid (E.out.trans (dd.ext (r := none)))
  clear dd
  have hgl := Lib.hid (show wA.heap.size ≤ wx2.heap.size from by have := hz0.out; omega)
  go_wp2_with fail
  refine (markIntSS_any G.out (by omega) (by omega) (by have := hsm.out.2; omega) (by omega)).mono ?_; rintro e wm ⟨rfl, om, gm⟩
  have E := Lib.hid (gm.ext E.out hgl.out)
  have G := Lib.hid om.fam
  clear om gm
  have hk2 : ¬ ((1 : Int) + (sumLen (wFamL f0 f1) : Int) < 0) := by omega
  go_wp2_with fail
  refine (heldIntSS_any G.out (by omega) (by omega) (by have := hsm.out.2; omega) (by omega)).mono ?_; rintro e w_ ⟨rfl, rfl⟩
  go_wp2_with fail
  refine (toIntS_any (HF0.out.ext (EA.out.trans E.out)) (by omega)).mono ?_; rintro e wy3 ⟨ay3, ny3, cy3, rfl, oy3, ey3⟩
  have G := Lib.hid (G.out.ext ey3)
  have E := Lib.hid (E.out.trans ey3)
  go_wp2_with fail
  refine (WeightsFamily_r oy3.ints HQ.out).mono ?_; rintro e wH ⟨aH, nH, cH, rfl, oH, eH⟩
  have G := Lib.hid (G.out.ext eH)
  have E := Lib.hid (E.out.trans eH)
  have H := Lib.hid oH.fam
  clear oH eH oy3 ey3
  go_wp2_with fail
  refine (eqIntSS_is H.out (UW.out.ext E.out) hsf.out).mono ?_; rintro e wd ⟨rfl, dd⟩
  have G := Lib.hid (G.out.ext (dd.ext (r := none)))
  have E := Lib.hid (E.out.trans (dd.ext (r := none)))
  clear dd
  go_wp2_with fail
  refine (heldIntSS_any G.out (by omega) (by omega) (by have := hsm.out.2; omega) (by omega)).mono ?_; rintro e w_ ⟨rfl, rfl⟩
  go_wp2_with fail
  go_ret
  exact ⟨rfl, EA.out.trans E.out⟩
end Go.Proofs.Ytfccceogmhjljaa
