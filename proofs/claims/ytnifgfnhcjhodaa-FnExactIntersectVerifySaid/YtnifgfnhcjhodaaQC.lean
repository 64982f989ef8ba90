/- spec.IntersectVerify: its contract. Conditions: two families and a slice of ints lie in memory. -/
import Derived.Test.YtnifgfnhcjhodaaQB
set_option linter.unusedVariables false
set_option linter.unusedSimpArgs false
namespace Go.Proofs.Ytnifgfnhcjhodaa
open Go.RowKit

theorem verL_spec {f g : List (List Int)} (cert : List Int) (hf : famB f = true) (hg : famB g = true) : verL f g cert = (decide (cert.length = f.length * g.length) && vk (flatL f g) cert cert.length) := by
  unfold verL ok2
  rw [hf, hg, rdF_yes hf, rdF_yes hg, masks_len, masks_len]; rfl
theorem flat_has {f g : List (List Int)} (hf : famB f = true) (hg : famB g = true) {i k : Nat} (hi : i < f.length) (hk : k < g.length) (m : Int) :
    has ((flatL f g).getD (i * g.length + k) 0) m = (cont (f.getD i []) m && cont (g.getD k []) m) := by
  have e := flat_at (masks f) (masks g) i k (by rw [masks_len]; exact hi) (by rw [masks_len]; exact hk)
  rw [masks_len] at e
  unfold flatL
  rw [rdF_yes hf, rdF_yes hg, e, has_and, cont_valid m (fam_valid hf _ (getD_mem hi)), cont_valid m (fam_valid hg _ (getD_mem hk))]
  have e1 : (masks f).getD i 0 = mask (f.getD i []) := by simp [masks, List.getD, hi]
  have e2 : (masks g).getD k 0 = mask (g.getD k []) := by simp [masks, List.getD, hk]
  rw [e1, e2]

set_option maxRecDepth 20000 in
set_option maxHeartbeats 2000000 in
theorem sIntersectVerify_is {a : Option Addr} {n cp : Nat} {f : List (List Int)} {b : Option Addr} {m cq : Nat} {g : List (List Int)} {ca : Option Addr} {l cc : Nat} {cert : List Int} {w : World} {q : Bool} (h : Fam w a n f) (h' : Fam w b m g) (hc : Ints w ca l cert) (hq : verL f g cert = q) :
    Calls Try.prog 17 #[.slice a n cp, .slice b m cq, .slice ca l cc] w fun e w' => e = .returned (.bool q) ∧ Ext none w w' := by
  have hl := h.len
  have hl' := h'.len
  have hcl := hc.len
  have hm := h.max
  have hm' := h'.max
  have hcm := hc.max
  have H := Lib.hid h
  have H' := Lib.hid h'
  have HC := Lib.hid hc
  clear h h' hc
  cases hf : famB f
  · have hno := Lib.hid (show q = false from by rw [← hq]; unfold verL ok2; rw [hf]; rfl)
    clear hq hl hl' hcl
    go_enter Try.func17, Try.ntmps17
    go_wp2_with fail
    refine (sFamilyValid_is H.out hf).mono ?_; rintro e w1 ⟨rfl, d1⟩
    go_wp2_with fail
    go_ret
    exact ⟨retB hno.out, d1.ext⟩
  · cases hg : famB g
    · have hno := Lib.hid (show q = false from by rw [← hq]; unfold verL ok2; rw [hf, hg]; rfl)
      clear hq hl hl' hcl
      go_enter Try.func17, Try.ntmps17
      go_wp2_with fail
      refine (sFamilyValid_is H.out hf).mono ?_; rintro e w1 ⟨rfl, d1⟩
      go_wp2_with fail
      refine (sFamilyValid_is (H'.out.ext d1.ext) hg).mono ?_; rintro e w2 ⟨rfl, d2⟩
      have HE := Lib.hid (show Ext none w w2 from d1.ext.trans d2.ext)
      go_wp2_with fail
      go_ret
      exact ⟨retB hno.out, HE.out⟩
    · have hn20 : n ≤ 20 := by rw [← hl]; exact famB_len hf
      have hm20 : m ≤ 20 := by rw [← hl']; exact famB_len hg
      obtain ⟨p, hp⟩ : ∃ p, p = n * m := ⟨_, rfl⟩
      have hp4 : p ≤ 400 := by rw [hp]; exact Nat.le_trans (Nat.mul_le_mul hn20 hm20) (by decide)
      have hmu : (n : Int) * (m : Int) = (p : Int) := by rw [hp]; exact (Int.natCast_mul _ _).symm
      have HP := Lib.hid hp
      have hvr := verL_spec cert hf hg
      rw [hl, hl', hcl, ← hp, hq] at hvr
      have HV := Lib.hid hvr
      have HH := Lib.hid (fun (i k : Nat) (hi : i < n) (hk : k < m) (x : Int) => by
        have := flat_has hf hg (i := i) (k := k) (by rw [hl]; exact hi) (by rw [hl']; exact hk) x
        rwa [hl'] at this)
      have HF := Lib.hid hf
      have HG := Lib.hid hg
      clear hp hvr hq hl hl' hcl hf hg
      by_cases hlp : l = p
      · subst hlp
        have HQ := Lib.hid (show vk (flatL f g) cert l = q from by rw [HV.out]; simp)
        clear HV
        go_enter Try.func17, Try.ntmps17
        go_wp2_with fail
        refine (sFamilyValid_is H.out HF.out).mono ?_; rintro e w1 ⟨rfl, d1⟩
        go_wp2_with fail
        refine (sFamilyValid_is (H'.out.ext d1.ext) HG.out).mono ?_; rintro e w2 ⟨rfl, d2⟩
        have HE := Lib.hid (show Ext none w w2 from d1.ext.trans d2.ext)
        have H2 := Lib.hid (H.out.ext HE.out)
        have H2' := Lib.hid (H'.out.ext HE.out)
        have HC2 := Lib.hid (HC.out.ext HE.out)
        clear d1 d2
        go_wp2_with fail
        go_loop [7] (fun i => ∃ j : Nat, j ≤ n ∧ i = .int .i64 (j : Nat) ∧ vk (flatL f g) cert (j * m) = true) (fun i => n - (intOf i).toNat)
        case atStart => exact ⟨0, by omega, rfl, by rw [Nat.zero_mul]; rfl⟩
        case round =>
          obtain ⟨i, hi, rfl, ht⟩ := hrel
          have HT := Lib.hid ht
          clear ht
          by_cases hlt : i < n
          · have hltI : (i : Int) < (n : Int) := by omega
            obtain ⟨b1, off1, a3, n3, c3, rfl, hc3, hi3⟩ := H2.out.cell hlt
            have HI3 := Lib.hid hi3
            obtain ⟨t, ht⟩ : ∃ t, t = i * m := ⟨_, rfl⟩
            have htm : (i : Int) * (m : Int) = (t : Int) := by rw [ht]; exact (Int.natCast_mul _ _).symm
            have htl : t + m ≤ l := by
              have := Nat.mul_le_mul_right m hlt
              rw [Nat.succ_mul, ← ht, ← HP.out] at this
              exact this
            rw [← ht] at HT
            have HTI := Lib.hid ht
            clear hi3 ht
            go_wp2_with fail
            go_loop [8] (fun k => ∃ j : Nat, j ≤ m ∧ k = .int .i64 (j : Nat) ∧ vk (flatL f g) cert (t + j) = true) (fun k => m - (intOf k).toNat)
            case atStart => exact ⟨0, by omega, rfl, by rw [Nat.add_zero]; exact HT.out⟩
            case round =>
              obtain ⟨k, hk, rfl, hs⟩ := hrel
              have HS := Lib.hid hs
              clear hs
              by_cases hkt : k < m
              · have hktI : (k : Int) < (m : Int) := by omega
                obtain ⟨b2, off2, a4, n4, c4, rfl, hc4, hi4⟩ := H2'.out.cell hkt
                have HI4 := Lib.hid hi4
                clear hi4
                obtain ⟨t2, ht2⟩ : ∃ t2, t2 = t + k := ⟨_, rfl⟩
                have htk : (t : Int) + (k : Int) = (t2 : Int) := by omega
                have hlt2 : t2 < l := by omega
                have hlt2I : (t2 : Int) < (l : Int) := by omega
                obtain ⟨b5, off5, rfl, hc5⟩ := HC2.out.cell hlt2
                obtain ⟨x, hx⟩ : ∃ x, x = cert.getD t2 0 := ⟨_, rfl⟩
                have hhas := HH.out i k hlt hkt x
                rw [← HTI.out, ← ht2] at hhas
                have HHAS := Lib.hid hhas
                have hst := vk_step (flatL f g) cert t2
                rw [← hx] at hst hc5
                have HST := Lib.hid hst
                have hno := Lib.hid (fun h => vk_no (q := flatL f g) (cert := cert) (k := t2) (n := l) hlt2 h)
                rw [← hx] at hno
                have HS2 := Lib.hid (show vk (flatL f g) cert t2 = true from by rw [ht2]; exact HS.out)
                have HT2 := Lib.hid ht2
                clear hhas hst hx ht2 HS
                obtain ⟨p1, hp1⟩ : ∃ p1, p1 = cont (f.getD i []) x := ⟨_, rfl⟩
                obtain ⟨p2, hp2⟩ : ∃ p2, p2 = cont (g.getD k []) x := ⟨_, rfl⟩
                have HP1 := Lib.hid hp1
                have HP2 := Lib.hid hp2
                clear hp1 hp2
                go_wp2_with fail
                refine (l1Contains_any HI3.out).mono ?_; rintro e w5 ⟨rfl, rfl⟩
                rw [← HP1.out]
                cases p1
                · have hq0 := Lib.hid (show q = false from by rw [← HQ.out]; exact hno.out (by rw [HHAS.out, ← HP1.out]; rfl))
                  go_wp2_with fail
                  go_ret
                  exact ⟨retB hq0.out, HE.out⟩
                · go_wp2_with fail
                  refine (l1Contains_any HI4.out).mono ?_; rintro e w6 ⟨rfl, rfl⟩
                  rw [← HP2.out]
                  cases p2
                  · have hq0 := Lib.hid (show q = false from by rw [← HQ.out]; exact hno.out (by rw [HHAS.out, ← HP1.out, ← HP2.out]; rfl))
                    go_wp2_with fail
                    go_ret
                    exact ⟨retB hq0.out, HE.out⟩
                  · have hnx := Lib.hid (show vk (flatL f g) cert (t + (k + 1)) = true from by rw [← Nat.add_assoc, ← HT2.out, HST.out, HS2.out, HHAS.out, ← HP1.out, ← HP2.out]; rfl)
                    go_wp2_with fail
                    go_round
                    case rel => exact ⟨k + 1, by omega, by go_num, hnx.out⟩
                    case measure => simp [intOf]; omega
              · obtain rfl : k = m := by omega
                have hnx := Lib.hid (show vk (flatL f g) cert ((i + 1) * k) = true from by rw [Nat.succ_mul, ← HTI.out]; exact HS.out)
                go_wp2_with fail
                go_round
                case rel => exact ⟨i + 1, by omega, by go_num, hnx.out⟩
                case measure => simp [intOf]; omega
          · obtain rfl : i = n := by omega
            have hq1 := Lib.hid (show q = true from by rw [← HQ.out, HP.out]; exact HT.out)
            go_wp2_with fail
            go_ret
            exact ⟨retB hq1.out, HE.out⟩
      · have hno := Lib.hid (show q = false from by rw [HV.out, decide_eq_false hlp]; rfl)
        have hne : ((l : Int) == (p : Int)) = false := by rw [beq_eq_false_iff_ne]; omega
        have hne2 : ¬ (l : Int) = (p : Int) := by omega
        go_enter Try.func17, Try.ntmps17
        go_wp2_with fail
        refine (sFamilyValid_is H.out HF.out).mono ?_; rintro e w1 ⟨rfl, d1⟩
        go_wp2_with fail
        refine (sFamilyValid_is (H'.out.ext d1.ext) HG.out).mono ?_; rintro e w2 ⟨rfl, d2⟩
        have HE := Lib.hid (show Ext none w w2 from d1.ext.trans d2.ext)
        go_wp2_with fail
        go_ret
        exact ⟨retB hno.out, HE.out⟩
end Go.Proofs.Ytnifgfnhcjhodaa
