/- container/heap over package impl: down, Pop. Conditions: each lemma's own. -/
import Derived.Test.YtnlmcbilhfmenaaH3
namespace Go.Proofs.Ytnlmcbilhfmenaa
open Go.RowKit
set_option linter.unusedVariables false

set_option maxRecDepth 20000 in
set_option maxHeartbeats 3000000 in
theorem heapDown_any {hb lo hi n : Nat} {q : List Nat} {w : World} (h : HeapM w hb lo hi q) (hn : n ≤ q.length) (hdn : downAt n 0 q) (hq : q.length ≤ 1000000) :
    Calls Try.prog 103 #[.iface 82 (.pointer (some ⟨hb, 0, none⟩)), .int .i64 0, .int .i64 (n : Nat)] w fun e w' => (∃ v, e = .returned v) ∧ ∃ q', q'.Perm q ∧ heapOn n q' ∧ (∀ k, n ≤ k → q'.getD k 0 = q.getD k 0) ∧ HeapM w' hb lo hi q' ∧ Chg lo hi w w' := by
  go_enter Try.func103, Try.ntmps103
  go_wp2_with fail
  go_loopw [7] (fun i wr => ∃ (i' : Nat) (q' : List Nat), i = .int .i64 (i' : Nat) ∧ i' < n + 1 ∧ q'.Perm q ∧ downAt n i' q' ∧ (∀ k, n ≤ k → q'.getD k 0 = q.getD k 0) ∧ HeapM wr hb lo hi q' ∧ Chg lo hi w wr)
    (fun i _ => n + 1 - (intOf i).toNat)
  case atStart => exact ⟨0, q, rfl, by omega, List.Perm.refl _, hdn, fun k _ => rfl, h, Chg.refl _ _ _⟩
  case round =>
    obtain ⟨i, p, rfl, hin, hp, hD, hK, hM, hC⟩ := hrel
    have hl := hp.length_eq
    have HD := Lib.hid hD
    have HP := Lib.hid hp
    have HK := Lib.hid hK
    have HM := Lib.hid hM
    have HC := Lib.hid hC
    have hnq : n ≤ q.length := hn
    obtain ⟨p1, hp1⟩ : ∃ p1 : Nat, p1 = 2 * i + 1 := ⟨_, rfl⟩
    have e1 : 2 * (i : Int) + 1 = (p1 : Int) := by omega
    have HP1 := Lib.hid hp1
    by_cases hleaf : n ≤ p1
    · have hleafI : (n : Int) ≤ (p1 : Int) := by omega
      have hdone := Lib.hid (down_leaf hD (by omega))
      clear hD hp hK hM hC hl hp1
      go_wp2_with fail
      go_ret
      exact ⟨⟨_, rfl⟩, p, HP.out, hdone.out, HK.out, HM.out, HC.out⟩
    · have hleafI : ¬ (n : Int) ≤ (p1 : Int) := by omega
      obtain ⟨r, hr⟩ : ∃ r : Nat, r = p1 + 1 := ⟨_, rfl⟩
      have e2 : (p1 : Int) + 1 = (r : Int) := by omega
      obtain ⟨a, c, hc, hf, ho, hne, hlo, hhb⟩ := hM.cell
      rw [hl] at hc ho hne
      obtain ⟨g, rfl, hg⟩ := crsOwn ho (by omega)
      have HO := Lib.hid ho
      have HCR := Lib.hid ho.crs
      have hiq : i < q.length := by omega
      have hp1q : p1 < q.length := by omega
      have HR := Lib.hid hr
      clear hD hp hK hM hC hl hf ho hne hg hr hp1
      by_cases hrn : r < n
      · have hrnI : (r : Int) < (n : Int) := by omega
        have hrq : r < q.length := by omega
        cases hl1 : decide (p.getD r 0 < p.getD p1 0)
        · skip
          have hmin := Lib.hid (show ∀ k, k = 2 * i + 1 ∨ k = 2 * i + 2 → k < n → p.getD p1 0 ≤ p.getD k 0 from fun k hk hkn => by have hr := HR.out; rw [decide_eq_false_iff_not] at hl1; rcases hk with e | e <;> (rw [e] at hkn ⊢; first | (rw [show 2 * i + 1 = p1 from HP1.out.symm]; exact Nat.le_refl _) | (rw [show 2 * i + 2 = r from by omega]; omega)))
          have hJ12 := Lib.hid (show p1 = 2 * i + 1 ∨ p1 = 2 * i + 2 from by have := HR.out; have := HP1.out; omega)
          have hjn : p1 < n := by omega
          have m1 := m_val "Less" _ kLess hb wr _ hc
          go_wp2_with fail
          refine (oLess_any HCR.out hrq hp1q hl1).mono ?_; rintro e wa ⟨rfl, da⟩
          have hc2 := (da.ext (r := none)).cell hc
          have m2 := m_val "Less" _ kLess hb wa _ hc2
          have hcrs2 := Lib.hid (HCR.out.ext da.ext)
          have HM2 := Lib.hid (HM.out.ext0 da.ext)
          have HO2 := Lib.hid (HO.out.ext0 da.ext)
          have HC2 := Lib.hid (HC.out.trans (Chg.draw da))
          clear da hc m1
          cases hl2 : decide (p.getD p1 0 < p.getD i 0)
          · have hdone := Lib.hid (down_stop HD.out hmin.out (by rw [decide_eq_false_iff_not] at hl2; omega))
            go_wp2_with fail
            refine (oLess_any hcrs2.out hp1q hiq hl2).mono ?_; rintro e w1 ⟨rfl, d1⟩
            have hc1 := (d1.ext (r := none)).cell hc2
            have HM1 := Lib.hid (HM2.out.ext0 d1.ext)
            have HO1 := Lib.hid (HO2.out.ext0 d1.ext)
            have HC1 := Lib.hid (HC2.out.trans (Chg.draw d1))
            clear d1 hc2
            go_wp2_with fail
            go_ret
            exact ⟨⟨_, rfl⟩, p, HP.out, hdone.out, HK.out, HM1.out, HC1.out⟩
          · have hstep := Lib.hid (down_step HD.out (by rw [HP.out.length_eq]; exact hnq) hJ12.out hjn hmin.out (by rw [decide_eq_true_eq] at hl2; exact hl2))
            have hpm := Lib.hid ((swp_perm p i p1 (by rw [HP.out.length_eq]; exact hiq) (by rw [HP.out.length_eq]; omega)).trans HP.out)
            have hk := Lib.hid (show ∀ k, n ≤ k → (swp p i p1).getD k 0 = q.getD k 0 from fun k hk => by rw [swp_get p i p1 k (by rw [HP.out.length_eq]; exact hiq) (by rw [HP.out.length_eq]; omega), if_neg (by omega), if_neg (by omega)]; exact HK.out k hk)
            have hij : i < p1 := by have := HR.out; have := HP1.out; omega
            go_wp2_with fail
            refine (oLess_any hcrs2.out hp1q hiq hl2).mono ?_; rintro e w1 ⟨rfl, d1⟩
            have hc1 := (d1.ext (r := none)).cell hc2
            have HM1 := Lib.hid (HM2.out.ext0 d1.ext)
            have HO1 := Lib.hid (HO2.out.ext0 d1.ext)
            have HC1 := Lib.hid (HC2.out.trans (Chg.draw d1))
            clear d1 hc2
            have m9 := m_val "Swap" _ kSwap hb w1 _ hc1
            go_wp2_with fail
            refine (oSwap_any HO1.out hiq hp1q).mono ?_; rintro e w2 ⟨⟨v, rfl⟩, o2, g2⟩
            have hM2 := Lib.hid (HM1.out.swapped (a := none) hc1 o2 g2)
            clear o2 g2 m9
            go_wp2_with fail
            go_roundw
            case rel => exact ⟨p1, _, rfl, by omega, hpm.out, hstep.out, hk.out, hM2.out.1, HC1.out.trans hM2.out.2⟩
            case measure => simp [intOf]; omega
        · skip
          have hmin := Lib.hid (show ∀ k, k = 2 * i + 1 ∨ k = 2 * i + 2 → k < n → p.getD r 0 ≤ p.getD k 0 from fun k hk hkn => by have hr := HR.out; rw [decide_eq_true_eq] at hl1; rcases hk with e | e <;> (rw [e] at hkn ⊢; first | (rw [show 2 * i + 1 = p1 from HP1.out.symm]; omega) | (rw [show 2 * i + 2 = r from by omega]; exact Nat.le_refl _)))
          have hJ12 := Lib.hid (show r = 2 * i + 1 ∨ r = 2 * i + 2 from by have := HR.out; have := HP1.out; omega)
          have hjn : r < n := by omega
          have m1 := m_val "Less" _ kLess hb wr _ hc
          go_wp2_with fail
          refine (oLess_any HCR.out hrq hp1q hl1).mono ?_; rintro e wa ⟨rfl, da⟩
          have hc2 := (da.ext (r := none)).cell hc
          have m2 := m_val "Less" _ kLess hb wa _ hc2
          have hcrs2 := Lib.hid (HCR.out.ext da.ext)
          have HM2 := Lib.hid (HM.out.ext0 da.ext)
          have HO2 := Lib.hid (HO.out.ext0 da.ext)
          have HC2 := Lib.hid (HC.out.trans (Chg.draw da))
          clear da hc m1
          cases hl2 : decide (p.getD r 0 < p.getD i 0)
          · have hdone := Lib.hid (down_stop HD.out hmin.out (by rw [decide_eq_false_iff_not] at hl2; omega))
            go_wp2_with fail
            refine (oLess_any hcrs2.out hrq hiq hl2).mono ?_; rintro e w1 ⟨rfl, d1⟩
            have hc1 := (d1.ext (r := none)).cell hc2
            have HM1 := Lib.hid (HM2.out.ext0 d1.ext)
            have HO1 := Lib.hid (HO2.out.ext0 d1.ext)
            have HC1 := Lib.hid (HC2.out.trans (Chg.draw d1))
            clear d1 hc2
            go_wp2_with fail
            go_ret
            exact ⟨⟨_, rfl⟩, p, HP.out, hdone.out, HK.out, HM1.out, HC1.out⟩
          · have hstep := Lib.hid (down_step HD.out (by rw [HP.out.length_eq]; exact hnq) hJ12.out hjn hmin.out (by rw [decide_eq_true_eq] at hl2; exact hl2))
            have hpm := Lib.hid ((swp_perm p i r (by rw [HP.out.length_eq]; exact hiq) (by rw [HP.out.length_eq]; omega)).trans HP.out)
            have hk := Lib.hid (show ∀ k, n ≤ k → (swp p i r).getD k 0 = q.getD k 0 from fun k hk => by rw [swp_get p i r k (by rw [HP.out.length_eq]; exact hiq) (by rw [HP.out.length_eq]; omega), if_neg (by omega), if_neg (by omega)]; exact HK.out k hk)
            have hij : i < r := by have := HR.out; have := HP1.out; omega
            go_wp2_with fail
            refine (oLess_any hcrs2.out hrq hiq hl2).mono ?_; rintro e w1 ⟨rfl, d1⟩
            have hc1 := (d1.ext (r := none)).cell hc2
            have HM1 := Lib.hid (HM2.out.ext0 d1.ext)
            have HO1 := Lib.hid (HO2.out.ext0 d1.ext)
            have HC1 := Lib.hid (HC2.out.trans (Chg.draw d1))
            clear d1 hc2
            have m9 := m_val "Swap" _ kSwap hb w1 _ hc1
            go_wp2_with fail
            refine (oSwap_any HO1.out hiq hrq).mono ?_; rintro e w2 ⟨⟨v, rfl⟩, o2, g2⟩
            have hM2 := Lib.hid (HM1.out.swapped (a := none) hc1 o2 g2)
            clear o2 g2 m9
            go_wp2_with fail
            go_roundw
            case rel => exact ⟨r, _, rfl, by omega, hpm.out, hstep.out, hk.out, hM2.out.1, HC1.out.trans hM2.out.2⟩
            case measure => simp [intOf]; omega
      · have hrnI : ¬ (r : Int) < (n : Int) := by omega
        have hrq : r ≤ q.length := by have := HR.out; omega
        have hmin := Lib.hid (show ∀ k, k = 2 * i + 1 ∨ k = 2 * i + 2 → k < n → p.getD p1 0 ≤ p.getD k 0 from fun k hk hkn => by have hr := HR.out; have := HP1.out; rw [show k = p1 from by omega]; exact Nat.le_refl _)
        have hJ12 := Lib.hid (show p1 = 2 * i + 1 ∨ p1 = 2 * i + 2 from by have := HR.out; have := HP1.out; omega)
        have hjn : p1 < n := by omega
        have m2 := m_val "Less" _ kLess hb wr _ hc
        have hc2 := hc
        have hcrs2 := HCR
        have HM2 := HM
        have HO2 := HO
        have HC2 := HC
        clear hc
        cases hl2 : decide (p.getD p1 0 < p.getD i 0)
        · have hdone := Lib.hid (down_stop HD.out hmin.out (by rw [decide_eq_false_iff_not] at hl2; omega))
          go_wp2_with fail
          refine (oLess_any hcrs2.out hp1q hiq hl2).mono ?_; rintro e w1 ⟨rfl, d1⟩
          have hc1 := (d1.ext (r := none)).cell hc2
          have HM1 := Lib.hid (HM2.out.ext0 d1.ext)
          have HO1 := Lib.hid (HO2.out.ext0 d1.ext)
          have HC1 := Lib.hid (HC2.out.trans (Chg.draw d1))
          clear d1 hc2
          go_wp2_with fail
          go_ret
          exact ⟨⟨_, rfl⟩, p, HP.out, hdone.out, HK.out, HM1.out, HC1.out⟩
        · have hstep := Lib.hid (down_step HD.out (by rw [HP.out.length_eq]; exact hnq) hJ12.out hjn hmin.out (by rw [decide_eq_true_eq] at hl2; exact hl2))
          have hpm := Lib.hid ((swp_perm p i p1 (by rw [HP.out.length_eq]; exact hiq) (by rw [HP.out.length_eq]; omega)).trans HP.out)
          have hk := Lib.hid (show ∀ k, n ≤ k → (swp p i p1).getD k 0 = q.getD k 0 from fun k hk => by rw [swp_get p i p1 k (by rw [HP.out.length_eq]; exact hiq) (by rw [HP.out.length_eq]; omega), if_neg (by omega), if_neg (by omega)]; exact HK.out k hk)
          have hij : i < p1 := by have := HR.out; have := HP1.out; omega
          go_wp2_with fail
          refine (oLess_any hcrs2.out hp1q hiq hl2).mono ?_; rintro e w1 ⟨rfl, d1⟩
          have hc1 := (d1.ext (r := none)).cell hc2
          have HM1 := Lib.hid (HM2.out.ext0 d1.ext)
          have HO1 := Lib.hid (HO2.out.ext0 d1.ext)
          have HC1 := Lib.hid (HC2.out.trans (Chg.draw d1))
          clear d1 hc2
          have m9 := m_val "Swap" _ kSwap hb w1 _ hc1
          go_wp2_with fail
          refine (oSwap_any HO1.out hiq hp1q).mono ?_; rintro e w2 ⟨⟨v, rfl⟩, o2, g2⟩
          have hM2 := Lib.hid (HM1.out.swapped (a := none) hc1 o2 g2)
          clear o2 g2 m9
          go_wp2_with fail
          go_roundw
          case rel => exact ⟨p1, _, rfl, by omega, hpm.out, hstep.out, hk.out, hM2.out.1, HC1.out.trans hM2.out.2⟩
          case measure => simp [intOf]; omega
end Go.Proofs.Ytnlmcbilhfmenaa
