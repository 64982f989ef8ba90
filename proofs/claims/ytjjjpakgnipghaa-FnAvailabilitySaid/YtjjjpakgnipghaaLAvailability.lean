/- The walk of laws.FnAvailability: it returns true. Condition: the argument is a slice of bytes. -/
import Derived.Test.YtjjjpakgnipghaaRH
import Derived.Test.YtjjjpakgnipghaaRJ
namespace Go.Proofs.Ytjjjpakgnipghaa
open Go.RowKit
set_option linter.unusedVariables false

theorem first_take {t : Nat} (h : t ≤ 6) : (mem 63).take t = mem (firstM t) := by
  have key : ∀ t ≤ 6, (mem 63).take t = mem (firstM t) := by decide +kernel
  exact key t h
def litA : ByteArray := { data := #[51, 40, 49, 44, 50, 44, 51, 44, 52, 44, 53, 41] }
theorem lit_size : litA.size ≤ 9223372036854775807 := by decide +kernel
theorem lit_ok : okE (byt litA) = true := by decide +kernel
theorem lit_avail : availL (ofExprL (byt litA)) 5 = 16 := by decide +kernel
set_option maxRecDepth 20000 in
set_option maxHeartbeats 2000000 in
theorem FnAvailability_walk {a : Option Addr} {n c : Nat} {w : World} (h : Bytes w a n c) :
    Calls Try.prog 5 #[.slice a n c] w fun e w' => e = .returned (.bool true) ∧ Ext none w w' := by
  rcases Nat.lt_or_ge 1048576 n with hl | hl
  · have hlI : (1048576 : Int) < (n : Int) := by omega
    go_enter Try.func5, Try.ntmps5
    go_wp2_with fail
    go_ret
    exact ⟨rfl, Ext.refl _ _⟩
  have hlI : ¬ (1048576 : Int) < (n : Int) := by omega
  go_enter Try.func5, Try.ntmps5
  go_wp2_with fail
  refine (DrawAvailability_any h).mono ?_; rintro e w_ ⟨a1, n1, c1, f, z, rfl, hf, hn, hz0, hz7, he⟩
  clear h
  obtain ⟨A, hA⟩ : ∃ A, availL f z = A := ⟨_, rfl⟩
  have HA := Lib.hid hA
  have hb := availL_bd f z
  rw [hA] at hb
  clear hA
  by_cases h0 : A < 0
  · skip
    go_wp2_with fail
    refine (Availability_is hf.1 HA.out).mono ?_; rintro e w_ ⟨rfl, e1⟩
    replace hf := hf.ext e1
    replace he := he.trans e1
    clear e1
    go_wp2_with fail
    refine (sAvailability_is hf.1 HA.out).mono ?_; rintro e w_ ⟨rfl, e1⟩
    replace hf := hf.ext e1
    replace he := he.trans e1
    clear e1
    go_wp2_with fail
    refine (sAvailability_is hf.1 HA.out).mono ?_; rintro e w_ ⟨rfl, e1⟩
    replace he := he.trans e1
    clear e1
    go_wp2_with fail
    go_ret
    exact ⟨rfl, he⟩
  · have ho : okR f z = true := by
      cases ho : okR f z
      · have := availL_no ho; rw [HA.out] at this; omega
      · rfl
    have hN := okR_N ho
    obtain ⟨t, rfl⟩ := Int.eq_ofNat_of_zero_le hz0
    have ht6 : t ≤ 6 := by omega
    have hF := firstM_lt ht6
    have hfam := Lib.hid (okT_fam (okR_T ho))
    have hAc := Lib.hid (show (availTo (masks f) t 64 : Int) = A from by have := availL_yes ho; rw [Int.toNat_natCast, HA.out] at this; exact this.symm)
    clear hN ho hz0 hz7
    go_wp2_with fail
    refine (Availability_is hf.1 HA.out).mono ?_; rintro e w_ ⟨rfl, e1⟩
    replace hf := hf.ext e1
    replace he := he.trans e1
    clear e1
    go_wp2_with fail
    refine (sAvailability_is hf.1 HA.out).mono ?_; rintro e w_ ⟨rfl, e1⟩
    replace hf := hf.ext e1
    replace he := he.trans e1
    clear e1
    go_wp2_with fail
    obtain ⟨wl, hwl⟩ : ∃ x, x = w_ := ⟨_, rfl⟩
    rw [← hwl] at hf he ⊢
    clear hwl
    have HF := Lib.hid hf
    clear hf
    go_loopw [6, 7] (fun v i wr => ∃ k : Nat, k ≤ 64 ∧ i = .int .i64 (k : Nat) ∧ v = .int .i64 (availTo (masks f) t k : Nat) ∧ Ext none wl wr)
      (fun _ i _ => 64 - (intOf i).toNat)
    case atStart => exact ⟨0, by omega, rfl, rfl, Ext.refl _ _⟩
    case round =>
      obtain ⟨k, hk, rfl, rfl, hx⟩ := hrel
      have hle := availTo_le (masks f) t k
      have hst := Lib.hid (availTo_succ (masks f) t k)
      by_cases hlt : k < 64
      · have hltI : (k : Int) < 64 := by omega
        go_wp2_with fail
        refine (SetOfMask_any (by omega) (by omega)).mono ?_; rintro e w3 ⟨a3, n3, c3, rfl, o3, e3⟩
        have i3 : Ints w3 a3 n3 (mem k) := by
          have := o3.ints
          rwa [show ofMaskL (k : Int) = mem k from by unfold ofMaskL; rw [show okMask (k : Int) = true from by simp only [okMask, Bool.and_eq_true, decide_eq_true_eq]; omega]; simp] at this
        have hx3 := Lib.hid (hx.trans e3)
        clear o3 e3 hx
        go_wp2_with fail
        refine allMembers_any.mono ?_; rintro e w2 ⟨a2, n2, c2, rfl, o2, e2⟩
        have hn2 : n2 = 6 := by have := o2.len; rw [show (mem 63).length = 6 from rfl] at this; exact this.symm
        subst hn2
        have hcap := o2.cap.1
        have i_m : Ints w2 a2 t (mem (firstM t)) := by
          obtain ⟨b, off, rfl, _⟩ := o2.ints.cell (k := 0) (by omega)
          have := o2.ints.part (i := 0) (m := t) (a := some ⟨b, off, none⟩) (by omega) (.inl rfl)
          rwa [List.drop_zero, first_take ht6] at this
        have htc : t ≤ c2 := by omega
        have htcI : (t : Int) ≤ (c2 : Int) := by omega
        have i4 := i3.ext e2
        have hx4 := Lib.hid (hx3.out.trans e2)
        clear o2 e2 i3
        obtain ⟨u, hu⟩ : ∃ u, u = availTo (masks f) t k := ⟨_, rfl⟩
        rw [← hu] at hle hst ⊢
        clear hu
        cases hs : sub k (firstM t)
        · have hno := Lib.hid (show availTo (masks f) t (k + 1) = u from by rw [hst.out, show hasIn (masks f) t k = false from by unfold hasIn; rw [hs]; rfl]; rfl)
          go_wp2_with fail
          refine (SetSubset_is i4 i_m ((subsetL_mem hlt hF).trans hs)).mono ?_; rintro e w_ ⟨rfl, rfl⟩
          go_wp2_with fail
          go_roundw
          case rel => exact ⟨k + 1, by omega, by go_num, by rw [hno.out], hx4.out⟩
          case measure => simp [intOf]; omega
        · go_wp2_with fail
          refine (SetSubset_is i4 i_m ((subsetL_mem hlt hF).trans hs)).mono ?_; rintro e w_ ⟨rfl, rfl⟩
          cases hb : up (masks f) k
          · have hno := Lib.hid (show availTo (masks f) t (k + 1) = u from by rw [hst.out, show hasIn (masks f) t k = false from by unfold hasIn; rw [hs, hb]; rfl]; rfl)
            go_wp2_with fail
            refine (HasQuorum_v (HF.out.ext hx4.out) i4 ((hasL_mem hfam.out hlt).trans hb)).mono ?_; rintro e w5 ⟨rfl, e5⟩
            go_wp2_with fail
            go_roundw
            case rel => exact ⟨k + 1, by omega, by go_num, by rw [hno.out], hx4.out.trans e5⟩
            case measure => simp [intOf]; omega
          · have hno := Lib.hid (show availTo (masks f) t (k + 1) = u + 1 from by rw [hst.out, show hasIn (masks f) t k = true from by unfold hasIn; rw [hs, hb]; rfl]; rfl)
            go_wp2_with fail
            refine (HasQuorum_v (HF.out.ext hx4.out) i4 ((hasL_mem hfam.out hlt).trans hb)).mono ?_; rintro e w5 ⟨rfl, e5⟩
            go_wp2_with fail
            go_roundw
            case rel => exact ⟨k + 1, by omega, by go_num, by rw [hno.out]; try go_num, hx4.out.trans e5⟩
            case measure => simp [intOf]; omega
      · obtain rfl : k = 64 := by omega
        rw [hAc.out]
        have HX := Lib.hid hx
        have HE := Lib.hid he
        clear hx he
        go_wp2_with fail
        refine (FamilyOfExpr_v lit_size lit_ok).mono ?_; rintro e w5 ⟨a5, n5, c5, rfl, f5, e5⟩
        go_wp2_with fail
        refine (Availability_is f5.1 lit_avail).mono ?_; rintro e w6 ⟨rfl, e6⟩
        go_wp2_with fail
        go_ret
        exact ⟨rfl, HE.out.trans (HX.out.trans (e5.trans e6))⟩
end Go.Proofs.Ytjjjpakgnipghaa
