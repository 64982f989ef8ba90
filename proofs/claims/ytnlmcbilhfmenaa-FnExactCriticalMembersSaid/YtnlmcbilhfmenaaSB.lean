/- The quorum systems of package spec: CriticalMembers, FamilyMinimize. Conditions: each lemma's own. -/
import Derived.Test.YtnlmcbilhfmenaaSA
namespace Go.Proofs.Ytnlmcbilhfmenaa
open Go.RowKit
set_option linter.unusedVariables false

theorem critL_yes {f : List (List Int)} (h : famB f = true) (hn : 0 < f.length) : critL f = mem (allOf (masks f)) := by
  unfold critL
  have : f ≠ [] := by rintro rfl; simp at hn
  rw [h, decide_eq_true this]; rfl
theorem allOf_step (f : List (List Int)) (k : Nat) (h : k < f.length) : allOf (masks (f.take (k + 1))) = allOf (masks (f.take k)) &&& mask (f.getD k []) := by
  rw [snoc_take f [] k h, masks_app]; exact allOf_snoc _ _
theorem and63 (x : Nat) (h : x < 64) : 63 &&& x = x := by
  have key : ∀ x < 64, 63 &&& x = x := by decide +kernel
  exact key x h

set_option maxHeartbeats 1000000 in
theorem sCriticalMembers_any {a : Option Addr} {n cp : Nat} {f : List (List Int)} {w : World} (h : Fam w a n f) :
    Calls Try.prog 16 #[.slice a n cp] w (RI w none (critL f)) := by
  cases hf : famB f
  · have hno := Lib.hid (show critL f = [] from by unfold critL; rw [hf]; rfl)
    go_enter Try.func16, Try.ntmps16
    go_wp2_with fail
    refine (sFamilyValid_is h hf).mono ?_; rintro e w1 ⟨rfl, hd⟩
    go_wp2_with fail
    go_ret
    exact ⟨_, _, _, rfl, by rw [hno.out]; exact (OwnI.made w1).mono (hd.ext (r := none)).size, hd.ext.alloc _⟩
  · by_cases h0 : n = 0
    · subst h0
      have hno := Lib.hid (show critL f = [] from by
        unfold critL
        rw [hf, List.length_eq_zero_iff.1 h.len]; rfl)
      go_enter Try.func16, Try.ntmps16
      go_wp2_with fail
      refine (sFamilyValid_is h hf).mono ?_; rintro e w1 ⟨rfl, hd⟩
      go_wp2_with fail
      go_ret
      exact ⟨_, _, _, rfl, by rw [hno.out]; exact (OwnI.made w1).mono (hd.ext (r := none)).size, hd.ext.alloc _⟩
    · have hb : ((n : Int) == 0) = false := by rw [beq_eq_false_iff_ne]; omega
      have hpos : 0 < n := by omega
      have hm := h.max
      have hlen := Lib.hid h.len
      have hval := Lib.hid (fun k (hk : k < n) => fam_valid hf _ (getD_mem (f := f) (k := k) (by rw [h.len]; exact hk)))
      have hyes := Lib.hid (critL_yes hf (by rw [h.len]; exact hpos))
      have H := Lib.hid h
      go_enter Try.func16, Try.ntmps16
      go_wp2_with fail
      refine (sFamilyValid_is h hf).mono ?_; rintro e w1 ⟨rfl, hd⟩
      have h1 := H.out.ext hd.ext
      obtain ⟨b0, off0, a0, n0, c0, rfl, hc0, hi0⟩ := h1.cell hpos
      rw [Nat.add_zero] at hc0
      replace hc0 := ((Ext.refl none w1).alloc (.cells #[] 3)).cell hc0
      have hv0 := hval.out 0 hpos
      have hm0 : 0 < n0 := by
        rcases Nat.eq_zero_or_pos n0 with e | e
        · exfalso
          have := (fvp_all (famB_fvp hf) _ (getD_mem (f := f) (k := 0) (by rw [hlen.out]; exact hpos))).2
          exact this ((len_mask hi0.len hv0).2 e)
        · exact e
      obtain ⟨b9, off9, rfl, _⟩ := hi0.cell hm0
      have hn06 : n0 ≤ 6 := by rw [← hi0.len]; exact valid_len hv0
      have hsrc := Lib.hid (hi0.ext ((Ext.refl none w1).alloc (.cells #[] 3)))
      have hHd := Lib.hid (hd.ext (r := none))
      clear h h1 hd hi0
      go_wp2_with (at_builtin; refine wpl_ints rfl _ _ rfl w1.heap.size _ 0 0 [] rfl (OwnI.made w1) _ n0 c0 _ rfl hsrc.out (by omega) (by simp) ?_; intro a5 c5 w5 ho5 hg5)
      have he5 := Lib.hid ((((Ext.refl none w1).alloc (.cells #[] 3))).grown hg5 (fun j hj => .inl (by cases hj; exact Nat.le_refl _)))
      have hst := Lib.hid (show f.getD 0 [] = mem (allOf (masks (f.take 1))) from by
        rw [allOf_step f 0 (by rw [hlen.out]; exact hpos)]
        show _ = mem (allOf [] &&& _)
        rw [show allOf [] = 63 from rfl, and63 _ (mask_lt hv0), mem_mask hv0])
      simp only [Nat.zero_add, List.nil_append] at ho5
      rw [hst.out] at ho5
      clear hg5
      go_wp2_with fail
      go_loopw [3, 4] (fun v i wr => ∃ (k : Nat) (a2 : Option Addr) (n2 c2 : Nat), 1 ≤ k ∧ k ≤ n ∧ i = .int .i64 k ∧ v = .slice a2 n2 c2 ∧ OwnI wr w1.heap.size a2 n2 c2 (mem (allOf (masks (f.take k)))) ∧ Ext none w1 wr)
        (fun _ i _ => n - (intOf i).toNat)
      case atStart => exact ⟨1, a5, n0, c5, by omega, by omega, rfl, by simp, ho5, he5.out⟩
      case round =>
        obtain ⟨k, a2, n2, c2, hk1, hk, rfl, rfl, ho, he⟩ := hrel
        by_cases hlt : k < n
        · have h1 := (H.out.ext hHd.out).ext he
          obtain ⟨a3, n3, c3, hc3, hi3⟩ := h1.cellAt hlt
          have hn2 : n2 < 1000000 := by
            have : n2 ≤ 6 := by rw [← ho.len]; exact mem_len
            omega
          have i2 := ho.ints
          have hs := Lib.hid (show intB (mem (allOf (masks (f.take k)))) (f.getD k []) = mem (allOf (masks (f.take (k + 1)))) from by
            rw [allOf_step f k (by rw [hlen.out]; exact hlt), intB_valid (mem_valid (allOf_lt _)) (hval.out k hlt), mask_mem (allOf_lt _)])
          clear ho h1
          go_wp2_with fail
          refine (l1Intersect_any i2 hi3 hn2).mono ?_; rintro e w6 ⟨a6, n6, c6, rfl, o6, e6⟩
          rw [hs.out] at o6
          go_wp2_with fail
          go_roundw
          case rel => exact ⟨k + 1, a6, n6, c6, by omega, by omega, by go_num, rfl, o6.mono he.size, he.trans e6⟩
          case measure => simp [intOf]; omega
        · obtain rfl : k = n := by omega
          have hfin := Lib.hid (show f.take k = f from List.take_of_length_le (by rw [hlen.out]; exact Nat.le_refl _))
          go_wp2_with fail
          go_ret
          exact ⟨a2, n2, c2, rfl, by rw [hyes.out]; rw [hfin.out] at ho; exact ho.mono hHd.out.size, hHd.out.trans he⟩

theorem okM_bad {f : List (List Int)} {k : Nat} (hk : k < f.length) (h : valid (f.getD k []) = false ∨ mask (f.getD k []) = 0) : okM f = false := by
  cases ho : okM f
  · rfl
  · have := okM_valid ho _ (getD_mem hk)
    rcases h with h | h
    · rw [this.1] at h; cases h
    · exact absurd h this.2
theorem minimizeL_no {f : List (List Int)} (h : okM f = false) : minimizeL f = [] := by unfold minimizeL; rw [h]; rfl

set_option maxHeartbeats 2000000 in
theorem sFamilyMinimize_any {a : Option Addr} {n cp : Nat} {f : List (List Int)} {w : World} (h : Fam w a n f) :
    Calls Try.prog 45 #[.slice a n cp] w (RFB w (minimizeL f) (okM f)) := by
  have hm := h.max
  have H := Lib.hid h
  go_enter Try.func45, Try.ntmps45
  go_wp2_with fail
  go_loopw [4] (fun i wr => ∃ k : Nat, k ≤ n ∧ i = .int .i64 k ∧ (∀ s ∈ f.take k, valid s = true ∧ mask s ≠ 0) ∧ Dr w wr)
    (fun i _ => n - (intOf i).toNat)
  case atStart => exact ⟨0, by omega, rfl, fun s hs => by simp at hs, Dr.refl _⟩
  case round =>
    obtain ⟨k, hk, rfl, hall, hd⟩ := hrel
    have HALL := Lib.hid hall
    clear hall
    have h1 := H.out.ext hd.ext
    by_cases hlt : k < n
    · have hl : k < f.length := by rw [H.out.len]; exact hlt
      obtain ⟨b1, off, a2, n2, c2, rfl, hc, hi⟩ := h1.cell hlt
      obtain ⟨s, hs⟩ : ∃ s, s = f.getD k [] := ⟨_, rfl⟩
      rw [← hs] at hi
      have HS := Lib.hid hs
      clear hs h1
      cases hvs : valid s
      · have hno := Lib.hid (okM_bad hl (.inl (by rw [← HS.out]; exact hvs)))
        have hno2 := Lib.hid (minimizeL_no hno.out)
        go_wp2_with fail
        refine (sSetValid_is hi hvs).mono ?_; rintro e w1 ⟨rfl, hd1⟩
        go_wp2_with fail
        go_ret2
        exact ⟨_, _, _, by rw [hno.out]; rfl, by rw [hno2.out]; exact (OwnF.made w1 _).mono ((hd.trans hd1).ext (r := none)).size (Nat.le_refl _), ((hd.trans hd1).ext).alloc _⟩
      · have hlm := Lib.hid (len_mask hi.len hvs)
        have hm2 := hi.max
        by_cases h0 : n2 = 0
        · have hno := Lib.hid (okM_bad hl (.inr (by rw [← HS.out]; exact hlm.out.2 h0)))
          have hno2 := Lib.hid (minimizeL_no hno.out)
          subst h0
          go_wp2_with fail
          refine (sSetValid_is hi hvs).mono ?_; rintro e w1 ⟨rfl, hd1⟩
          have hc1 := (hd1.ext (r := none)).cell hc
          go_wp2_with fail
          go_ret2
          exact ⟨_, _, _, by rw [hno.out]; rfl, by rw [hno2.out]; exact (OwnF.made w1 _).mono ((hd.trans hd1).ext (r := none)).size (Nat.le_refl _), ((hd.trans hd1).ext).alloc _⟩
        · have hb : ((n2 : Int) == 0) = false := by rw [beq_eq_false_iff_ne]; omega
          have hnx := Lib.hid (show ∀ x ∈ f.take (k + 1), valid x = true ∧ mask x ≠ 0 from fun x hx => by
            rcases take_mem_cases hl hx with hx | hx
            · exact HALL.out x hx
            · rw [hx, ← HS.out]; exact ⟨hvs, fun e => h0 (hlm.out.1 e)⟩)
          go_wp2_with fail
          refine (sSetValid_is hi hvs).mono ?_; rintro e w1 ⟨rfl, hd1⟩
          have hc1 := (hd1.ext (r := none)).cell hc
          go_wp2_with fail
          go_roundw
          case rel => exact ⟨k + 1, by omega, by go_num, hnx.out, hd.trans hd1⟩
          case measure => simp [intOf]; omega
    · obtain rfl : k = n := by omega
      have hl := Lib.hid H.out.len
      have hfin := Lib.hid (show f.take k = f from List.take_of_length_le (by rw [H.out.len]; omega))
      by_cases h64 : k ≤ 64
      · have h64I : ¬ (64 : Int) < (k : Int) := by omega
        have hyes := Lib.hid (show okM f = true from by
          unfold okM
          simp only [Bool.and_eq_true, List.all_eq_true, decide_eq_true_eq]
          have := HALL.out
          rw [hfin.out] at this
          exact ⟨this, by rw [hl.out]; exact h64⟩)
        have hyes2 := Lib.hid (show minimizeL f = minL f from by unfold minimizeL; rw [hyes.out]; rfl)
        go_wp2_with fail
        go_wp2_with fail
        refine (l1Masks_any).mono ?_; rintro e w_ ⟨rfl, rfl⟩
        go_wp2_with fail
        refine (l3Minimize_any h1).mono ?_; rintro e w2 ⟨a2, n2, c2, rfl, o2, e2⟩
        go_wp2_with fail
        go_ret2
        exact ⟨_, _, _, by rw [hyes.out]; rfl, by rw [hyes2.out]; exact o2.mono (hd.ext (r := none)).size (hd.ext (r := none)).size, hd.ext.trans e2⟩
      · have h64I : (64 : Int) < (k : Int) := by omega
        have hno := Lib.hid (show okM f = false from by
          unfold okM
          rw [show decide (f.length ≤ 64) = false from by rw [decide_eq_false_iff_not, hl.out]; exact h64, Bool.and_false])
        have hno2 := Lib.hid (minimizeL_no hno.out)
        go_wp2_with fail
        go_wp2_with fail
        refine (l1Masks_any).mono ?_; rintro e w_ ⟨rfl, rfl⟩
        go_wp2_with fail
        go_ret2
        exact ⟨_, _, _, by rw [hno.out]; rfl, by rw [hno2.out]; exact (OwnF.made wr _).mono (hd.ext (r := none)).size (Nat.le_refl _), hd.ext.alloc _⟩
end Go.Proofs.Ytnlmcbilhfmenaa
