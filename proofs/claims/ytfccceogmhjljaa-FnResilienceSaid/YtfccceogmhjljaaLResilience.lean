/- The walk of laws.FnResilience: it returns true. Condition: the argument is a slice of bytes. -/
import Derived.Test.YtfccceogmhjljaaRH
namespace Go.Proofs.Ytfccceogmhjljaa
open Go.RowKit
set_option linter.unusedVariables false

theorem first_take {t : Nat} (h : t ≤ 6) : (mem 63).take t = mem (firstM t) := by
  have key : ∀ t ≤ 6, (mem 63).take t = mem (firstM t) := by decide +kernel
  exact key t h
set_option maxRecDepth 20000 in
set_option maxHeartbeats 2000000 in
theorem FnResilience_walk {a : Option Addr} {n c : Nat} {w : World} (h : Bytes w a n c) :
    Calls Try.prog 13 #[.slice a n c] w fun e w' => e = .returned (.bool true) ∧ Ext none w w' := by
  rcases Nat.lt_or_ge 1048576 n with hl | hl
  · have hlI : (1048576 : Int) < (n : Int) := by omega
    go_enter Try.func13, Try.ntmps13
    go_wp2_with fail
    go_ret
    exact ⟨rfl, Ext.refl _ _⟩
  have hlI : ¬ (1048576 : Int) < (n : Int) := by omega
  go_enter Try.func13, Try.ntmps13
  go_wp2_with fail
  refine (DrawResilience_any h).mono ?_; rintro e w_ ⟨a1, n1, c1, f, z, rfl, hf, hn, hz0, hz7, he⟩
  clear h
  obtain ⟨A, hA⟩ : ∃ A, resL f z = A := ⟨_, rfl⟩
  have HA := Lib.hid hA
  have hb := resL_bd f z
  rw [hA] at hb
  clear hA
  by_cases h0 : A < 0
  · skip
    go_wp2_with fail
    refine (Resilience_is hf.1 HA.out).mono ?_; rintro e w_ ⟨rfl, e1⟩
    replace hf := hf.ext e1
    replace he := he.trans e1
    clear e1
    go_wp2_with fail
    refine (sResilience_is hf.1 HA.out).mono ?_; rintro e w_ ⟨rfl, e1⟩
    replace hf := hf.ext e1
    replace he := he.trans e1
    clear e1
    go_wp2_with fail
    refine (sResilience_is hf.1 HA.out).mono ?_; rintro e w_ ⟨rfl, e1⟩
    replace he := he.trans e1
    clear e1
    go_wp2_with fail
    go_ret
    exact ⟨rfl, he⟩
  · have ho : okR f z = true := by
      cases ho : okR f z
      · have := resL_no ho; rw [HA.out] at this; omega
      · rfl
    have hN := okR_N ho
    obtain ⟨t, rfl⟩ := Int.eq_ofNat_of_zero_le hz0
    obtain ⟨R, rfl⟩ := Int.eq_ofNat_of_zero_le (show 0 ≤ A by omega)
    have ht6 : t ≤ 6 := by omega
    have hF := firstM_lt ht6
    have hw := worst_pos ho
    have hwR : worst (masks f) t = R + 1 := by
      have := resL_yes ho; rw [Int.toNat_natCast, HA.out] at this; omega
    have hR5 : R ≤ 5 := by omega
    have hbr := Lib.hid (show brokeTo f t R 64 = true from by have := hw.2.2; rwa [hwR, Nat.add_sub_cancel] at this)
    have hlow := Lib.hid (fun c (hc : c < 64) (hb : bad (masks f) t c = true) => show R + 1 ≤ many c from by have := worst_ge (n := t) hc hb; omega)
    have hfam := Lib.hid (okT_fam (okR_T ho))
    clear hw hwR hN ho hz0 hz7 hb
    go_wp2_with fail
    refine (Resilience_is hf.1 HA.out).mono ?_; rintro e w_ ⟨rfl, e1⟩
    replace hf := hf.ext e1
    replace he := he.trans e1
    clear e1
    go_wp2_with fail
    refine (sResilience_is hf.1 HA.out).mono ?_; rintro e w_ ⟨rfl, e1⟩
    replace hf := hf.ext e1
    replace he := he.trans e1
    clear e1
    go_wp2_with fail
    refine allMembers_any.mono ?_; rintro e w2 ⟨a2, n2, c2, rfl, o2, e2⟩
    have hn2 : n2 = 6 := by have := o2.len; rw [show (mem 63).length = 6 from rfl] at this; exact this.symm
    subst hn2
    have hcap := o2.cap.1
    have i_m : Ints w2 a2 t (mem (firstM t)) := by
      obtain ⟨b, off, rfl, _⟩ := o2.ints.cell (k := 0) (by omega)
      have := o2.ints.part (i := 0) (m := t) (a := some ⟨b, off, none⟩) (by omega) (.inl rfl)
      rwa [List.drop_zero, first_take ht6] at this
    have htc : t ≤ c2 := by omega
    have htcI : (t : Int) ≤ (c2 : Int) := by omega
    replace hf := hf.ext e2
    replace he := he.trans e2
    clear o2 e2
    go_wp2_with fail
    obtain ⟨wl, hwl⟩ : ∃ x, x = w2 := ⟨_, rfl⟩
    rw [← hwl] at hf he i_m ⊢
    clear hwl
    have HF := Lib.hid hf
    have HM := Lib.hid i_m
    clear hf i_m
    go_loopw [7, 8] (fun v i wr => ∃ k : Nat, k ≤ 64 ∧ i = .int .i64 (k : Nat) ∧ v = .bool (brokeTo f t R k) ∧ Ext none wl wr)
      (fun _ i _ => 64 - (intOf i).toNat)
    case atStart => exact ⟨0, by omega, rfl, rfl, Ext.refl _ _⟩
    case round =>
      obtain ⟨k, hk, rfl, rfl, hx⟩ := hrel
      by_cases hlt : k < 64
      · have hltI : (k : Int) < 64 := by omega
        have hst := Lib.hid (brokeTo_succ f t R k)
        go_wp2_with fail
        refine (SetOfMask_any (by omega) (by omega)).mono ?_; rintro e w3 ⟨a3, n3, c3, rfl, o3, e3⟩
        have i3 : Ints w3 a3 n3 (mem k) := by
          have := o3.ints
          rwa [show ofMaskL (k : Int) = mem k from by unfold ofMaskL; rw [show okMask (k : Int) = true from by simp only [okMask, Bool.and_eq_true, decide_eq_true_eq]; omega]; simp] at this
        have hn3 := Lib.hid (show many k = n3 from i3.len)
        have hn36 : n3 ≤ 6 := by rw [← i3.len]; exact mem_len
        have hx3 := Lib.hid (hx.trans e3)
        have HM3 := Lib.hid ((HM.out.ext hx).ext e3)
        clear o3 e3 hx
        obtain ⟨B, hB⟩ : ∃ B, brokeTo f t R k = B := ⟨_, rfl⟩
        rw [hB] at hst ⊢
        clear hB
        cases hs : sub k (firstM t)
        · have hno := Lib.hid (show bad (masks f) t k = false from by unfold bad; rw [hs]; rfl)
          go_wp2_with fail
          refine (SetSubset_is i3 HM3.out ((subsetL_mem hlt hF).trans hs)).mono ?_; rintro e w_ ⟨rfl, rfl⟩
          go_wp2_with fail
          go_roundw
          case rel => exact ⟨k + 1, by omega, by go_num, by rw [hst.out, hno.out, Bool.false_and, Bool.or_false], hx3.out⟩
          case measure => simp [intOf]; omega
        · go_wp2_with fail
          refine (SetSubset_is i3 HM3.out ((subsetL_mem hlt hF).trans hs)).mono ?_; rintro e w_ ⟨rfl, rfl⟩
          go_wp2_with fail
          refine (SetMinus_any HM3.out i3).mono ?_; rintro e w4 ⟨a4, n4, c4, rfl, o4, e4⟩
          have i4 := Lib.hid (show Ints w4 a4 n4 (mem (dif (firstM t) k)) from by have := o4.ints; rwa [minusL_mem hF hlt] at this)
          have hx4 := Lib.hid (hx3.out.trans e4)
          have hdl : dif (firstM t) k < 64 := dif_lt hF
          clear o4 e4 i3
          cases hu : up (masks f) (dif (firstM t) k)
          · have hbad := Lib.hid (show bad (masks f) t k = true from by unfold bad; rw [hs, hu]; rfl)
            have hge := hlow.out k hlt hbad.out
            rw [hn3.out] at hge
            have hgeI : ¬ ((n3 : Int) ≤ (R : Int)) := by omega
            go_wp2_with fail
            refine (HasQuorum_v (HF.out.ext hx4.out) i4.out ((hasL_mem hfam.out hdl).trans hu)).mono ?_; rintro e w5 ⟨rfl, e5⟩
            by_cases hq : n3 = R + 1
            · have hqI : ((n3 : Int) == (R : Int) + 1) = true := by rw [beq_iff_eq]; omega
              have hnx := Lib.hid (show brokeTo f t R (k + 1) = true from by rw [hst.out, hbad.out, hn3.out, decide_eq_true hq]; cases B <;> rfl)
              clear hq
              cases B
              all_goals
                go_wp2_with fail
                go_roundw
                case rel => exact ⟨k + 1, by omega, by go_num, by rw [hnx.out], hx4.out.trans e5⟩
                case measure => simp [intOf]; omega
            · have hqI : ((n3 : Int) == (R : Int) + 1) = false := by rw [beq_eq_false_iff_ne]; omega
              have hnx := Lib.hid (show brokeTo f t R (k + 1) = B from by rw [hst.out, hbad.out, hn3.out, decide_eq_false hq]; cases B <;> rfl)
              clear hq
              cases B
              all_goals
                go_wp2_with fail
                go_roundw
                case rel => exact ⟨k + 1, by omega, by go_num, by rw [hnx.out], hx4.out.trans e5⟩
                case measure => simp [intOf]; omega
          · have hno := Lib.hid (show bad (masks f) t k = false from by unfold bad; rw [hs, hu]; rfl)
            have hnx := Lib.hid (show brokeTo f t R (k + 1) = B from by rw [hst.out, hno.out, Bool.false_and, Bool.or_false])
            go_wp2_with fail
            refine (HasQuorum_v (HF.out.ext hx4.out) i4.out ((hasL_mem hfam.out hdl).trans hu)).mono ?_; rintro e w5 ⟨rfl, e5⟩
            by_cases hle : n3 ≤ R
            · have hleI : (n3 : Int) ≤ (R : Int) := by omega
              have hqI : ((n3 : Int) == (R : Int) + 1) = false := by rw [beq_eq_false_iff_ne]; omega
              cases B
              all_goals
                go_wp2_with fail
                go_roundw
                case rel => exact ⟨k + 1, by omega, by go_num, by rw [hnx.out]; try simp, hx4.out.trans e5⟩
                case measure => simp [intOf]; omega
            · have hleI : ¬ ((n3 : Int) ≤ (R : Int)) := by omega
              by_cases hq : n3 = R + 1
              · have hqI : ((n3 : Int) == (R : Int) + 1) = true := by rw [beq_iff_eq]; omega
                clear hq
                cases B
                all_goals
                  go_wp2_with fail
                  go_roundw
                  case rel => exact ⟨k + 1, by omega, by go_num, by rw [hnx.out]; try simp, hx4.out.trans e5⟩
                  case measure => simp [intOf]; omega
              · have hqI : ((n3 : Int) == (R : Int) + 1) = false := by rw [beq_eq_false_iff_ne]; omega
                clear hq
                cases B
                all_goals
                  go_wp2_with fail
                  go_roundw
                  case rel => exact ⟨k + 1, by omega, by go_num, by rw [hnx.out]; try simp, hx4.out.trans e5⟩
                  case measure => simp [intOf]; omega
      · obtain rfl : k = 64 := by omega
        rw [hbr.out]
        go_wp2_with fail
        go_ret
        exact ⟨rfl, he.trans hx⟩
end Go.Proofs.Ytfccceogmhjljaa
