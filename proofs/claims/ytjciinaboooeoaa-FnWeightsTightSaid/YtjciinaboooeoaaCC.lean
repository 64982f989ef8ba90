/- The quorum systems of package impl: CriticalMembers; contracts with their answer a literal. Conditions: each lemma's own. -/
import Derived.Test.YtjciinaboooeoaaPJ
import Derived.Test.YtjciinaboooeoaaPF
import Derived.Test.YtjciinaboooeoaaPQ
import Derived.Test.YtjciinaboooeoaaX1
import Derived.Test.YtjciinaboooeoaaPB
import Derived.Test.YtjciinaboooeoaaS2
namespace Go.Proofs.Ytjciinaboooeoaa
open Go.RowKit
set_option linter.unusedVariables false

theorem FamilyHasQuorum_is {a : Option Addr} {n cp : Nat} {f : List (List Int)} {b : Option Addr} {m cq : Nat} {s : List Int} {w : World} {q : Bool} (h : Fam w a n f) (hs : Ints w b m s) (hq : hasL f s = q) :
    Calls Try.prog 21 #[.slice a n cp, .slice b m cq] w fun e w' => e = .returned (.bool q) ∧ Ext none w w' := by
  rw [← hq]; exact FamilyHasQuorum_any h hs
theorem Survives_is {a : Option Addr} {n cp : Nat} {f : List (List Int)} {b : Option Addr} {m cq : Nat} {s : List Int} {w : World} {q : Bool} (h : Fam w a n f) (hs : Ints w b m s) (hq : survL f s = q) :
    Calls Try.prog 38 #[.slice a n cp, .slice b m cq] w fun e w' => e = .returned (.bool q) ∧ Ext none w w' := by
  rw [← hq]; exact Survives_any h hs
theorem sSurvives_is {a : Option Addr} {n cp : Nat} {f : List (List Int)} {b : Option Addr} {m cq : Nat} {s : List Int} {w : World} {q : Bool} (h : Fam w a n f) (hs : Ints w b m s) (hq : survL f s = q) :
    Calls Try.prog 39 #[.slice a n cp, .slice b m cq] w fun e w' => e = .returned (.bool q) ∧ Ext none w w' := by
  rw [← hq]; exact sSurvives_any h hs
theorem FamilyValid_is {a : Option Addr} {n cp : Nat} {f : List (List Int)} {w : World} {q : Bool} (h : Fam w a n f) (hq : famB f = q) :
    Calls Try.prog 22 #[.slice a n cp] w fun e w' => e = .returned (.bool q) ∧ Ext none w w' := by
  rw [← hq]; exact FamilyValid_any h
theorem sameInts_is {a : Option Addr} {n c : Nat} {xs : List Int} {b : Option Addr} {m d : Nat} {ys : List Int} {w : World} {q : Bool} (hx : Ints w a n xs) (hy : Ints w b m ys) (hq : same xs ys = q) :
    Calls Try.prog 25 #[.slice a n c, .slice b m d] w fun e w' => e = .returned (.bool q) ∧ Dr w w' := by
  rw [← hq]; exact sameInts_any hx hy

set_option maxHeartbeats 1000000 in
theorem CriticalMembers_any {a : Option Addr} {n cp : Nat} {f : List (List Int)} {w : World} (h : Fam w a n f) :
    Calls Try.prog 24 #[.slice a n cp] w (RI w none (critL f)) := by
  cases hf : famB f
  · have hno := Lib.hid (show critL f = [] from by unfold critL; rw [hf]; rfl)
    go_enter Try.func24, Try.ntmps24
    go_wp2_with fail
    refine (readFamily_is h hf).mono ?_; rintro e w1 ⟨a1, n1, c1, rfl, ho, he⟩
    go_wp2_with fail
    go_ret
    exact ⟨_, _, _, rfl, by rw [hno.out]; exact OwnI.nil _ _, he⟩
  · have hlen := h.len
    by_cases h0 : n = 0
    · subst h0
      have hno := Lib.hid (show critL f = [] from by
        unfold critL
        rw [hf, List.length_eq_zero_iff.1 hlen]; rfl)
      have hr0 := Lib.hid (show (rdF f).length = 0 from by rw [rdF_yes hf, masks_len, hlen])
      go_enter Try.func24, Try.ntmps24
      go_wp2_with fail
      refine (readFamily_is h hf).mono ?_; rintro e w1 ⟨a1, n1, c1, rfl, ho, he⟩
      have hz : n1 = 0 := by rw [← ho.len]; exact hr0.out
      subst hz
      go_wp2_with fail
      go_ret
      exact ⟨_, _, _, rfl, by rw [hno.out]; exact OwnI.nil _ _, he⟩
    · have hb : ((n : Int) == 0) = false := by rw [beq_eq_false_iff_ne]; omega
      have hyes := Lib.hid (critL_yes hf (by rw [hlen]; omega))
      have hr0 := Lib.hid (show (rdF f).length = n from by rw [rdF_yes hf, masks_len, hlen])
      have hR := Lib.hid (rdF_yes hf)
      have H64 := Lib.hid (masks_lt hf)
      have hm := h.max
      clear hlen h0
      go_enter Try.func24, Try.ntmps24
      go_wp2_with fail
      refine (readFamily_is h hf).mono ?_; rintro e w1 ⟨a1, n1, c1, rfl, ho, he⟩
      obtain rfl : n1 = n := by rw [← ho.len]; exact hr0.out
      have hq := ho.crs
      rw [hR.out] at hq
      have he' := Lib.hid he
      clear h ho he hr0
      have hl := Lib.hid hq.len
      go_wp2_with fail
      go_loop [5, 22] (fun c i => ∃ k : Nat, k ≤ n1 ∧ i = .int .i64 k ∧ c = .int .u64 (allOf ((masks f).take k) : Nat))
        (fun _ i => n1 - (intOf i).toNat)
      case atStart => exact ⟨0, by omega, rfl, rfl⟩
      case round =>
        obtain ⟨k, hk, rfl, rfl⟩ := hrel
        by_cases hlt : k < n1
        · obtain ⟨b, off, rfl, hc⟩ := hq.cell hlt
          have hkl : k < (masks f).length := by rw [hl.out]; exact hlt
          have hx64 := getD_lt H64.out hkl
          have hst := Lib.hid (show allOf ((masks f).take (k + 1)) = allOf ((masks f).take k) &&& (masks f).getD k 0 from by rw [snoc_take _ 0 k hkl, allOf_snoc])
          obtain ⟨x, hxx⟩ : ∃ x, x = (masks f).getD k 0 := ⟨_, rfl⟩
          rw [← hxx] at hc hx64
          have HX := Lib.hid hxx
          clear hxx
          have hbits := Lib.hid (bits_and (allOf ((masks f).take k)) x (allOf_lt _) hx64)
          go_wp2_with fail
          go_round
          case rel => exact ⟨k + 1, by omega, by go_num, by rw [hst.out, ← HX.out, ← hbits.out]⟩
          case measure => simp [intOf]; omega
        · obtain rfl : k = n1 := by omega
          have hfin := Lib.hid (show (masks f).take k = masks f from List.take_of_length_le (by rw [hl.out]; exact Nat.le_refl _))
          go_wp2_with fail
          refine (members_any (allOf_lt _)).mono ?_; rintro e w2 ⟨a2, n2, c2, rfl, o2, e2⟩
          go_wp2_with fail
          go_ret
          exact ⟨a2, n2, c2, rfl, by rw [hyes.out, ← hfin.out]; exact o2.mono he'.out.size, he'.out.trans e2⟩
end Go.Proofs.Ytjciinaboooeoaa
