/- The quorum systems of package impl: FamilyValid, FamilyHasQuorum, CriticalMembers, Survives, lists. Conditions: each lemma's own. -/
import Derived.Test.YtnlmcbilhfmenaaCA
import Derived.Test.YtnlmcbilhfmenaaF3
namespace Go.Proofs.Ytnlmcbilhfmenaa
open Go.RowKit
set_option linter.unusedVariables false

set_option maxHeartbeats 1000000 in
theorem FamilyValid_any {a : Option Addr} {n cp : Nat} {f : List (List Int)} {w : World} (h : Fam w a n f) :
    Calls Try.prog 25 #[.slice a n cp] w fun e w' => e = .returned (.bool (famB f)) ∧ Ext none w w' := by
  go_enter Try.func25, Try.ntmps25
  go_wp2_with fail
  refine (readFamily_any h).mono ?_; rintro e w1 ⟨a1, n1, c1, rfl, ho, he⟩
  go_wp2_with fail
  go_ret
  exact ⟨rfl, he⟩

theorem rdF_yes {f : List (List Int)} (h : famB f = true) : rdF f = masks f := by unfold rdF; rw [h]; rfl
/-- readFamily, with its answer a literal -/
theorem readFamily_is {a : Option Addr} {n cp : Nat} {f : List (List Int)} {b : Bool} {w : World} (h : Fam w a n f) (hb : famB f = b) :
    Calls Try.prog 57 #[.slice a n cp] w fun e w' => ∃ a n c, e = .returned (.tuple #[.slice a n c, .bool b]) ∧ OwnC w' w.heap.size a n c (rdF f) ∧ Ext none w w' := by
  rw [← hb]; exact readFamily_any h

set_option maxHeartbeats 1000000 in
theorem FamilyHasQuorum_any {a : Option Addr} {n cp : Nat} {f : List (List Int)} {b : Option Addr} {m cq : Nat} {s : List Int} {w : World} (h : Fam w a n f) (hs : Ints w b m s) :
    Calls Try.prog 29 #[.slice a n cp, .slice b m cq] w fun e w' => e = .returned (.bool (hasL f s)) ∧ Ext none w w' := by
  cases hf : famB f
  · have hno := Lib.hid (show hasL f s = false from by unfold hasL; rw [hf]; rfl)
    go_enter Try.func29, Try.ntmps29
    go_wp2_with fail
    refine (readFamily_is h hf).mono ?_; rintro e w1 ⟨a1, n1, c1, rfl, ho, he⟩
    go_wp2_with fail
    refine (readSet_any (hs.ext he)).mono ?_; rintro e w_ ⟨rfl, rfl⟩
    go_wp2_with fail
    go_ret
    exact ⟨retB hno.out, he⟩
  · cases hv : valid s
    · have hno := Lib.hid (show hasL f s = false from by unfold hasL; rw [hf, hv]; rfl)
      go_enter Try.func29, Try.ntmps29
      go_wp2_with fail
      refine (readFamily_is h hf).mono ?_; rintro e w1 ⟨a1, n1, c1, rfl, ho, he⟩
      go_wp2_with fail
      refine (readSet_is (hs.ext he) hv).mono ?_; rintro e w_ ⟨rfl, rfl⟩
      go_wp2_with fail
      go_ret
      exact ⟨retB hno.out, he⟩
    · have hyes := Lib.hid (show hasL f s = up (masks f) (mask s) from by unfold hasL; rw [hf, hv]; rfl)
      have hm64 := mask_lt hv
      have H64 := Lib.hid (masks_lt hf)
      have HR := Lib.hid (rdF_yes hf)
      go_enter Try.func29, Try.ntmps29
      go_wp2_with fail
      refine (readFamily_is h hf).mono ?_; rintro e w1 ⟨a1, n1, c1, rfl, ho, he⟩
      have hq := ho.crs
      rw [HR.out] at hq
      go_wp2_with fail
      refine (readSet_ok (hs.ext he) hv rfl).mono ?_; rintro e w_ ⟨rfl, rfl⟩
      go_wp2_with fail
      refine (reached_is hq H64.out hm64 rfl).mono ?_; rintro e w_ ⟨rfl, rfl⟩
      go_wp2_with fail
      go_ret
      exact ⟨retB hyes.out, he⟩
theorem not63 {c : Nat} (hc : c < 64) : bits BinOp.andNot IntKind.u64 63 (c : Nat) = ((dif 63 c : Nat) : Int) := by
  have h := u64_andNot_nat 63 c (by omega) (by omega)
  have key : ∀ c < 64, 63 &&& (18446744073709551615 - c) = dif 63 c := by decide +kernel
  rw [show ((63 : Nat) : Int) = 63 from rfl] at h
  rw [h, key c hc]
set_option maxHeartbeats 1000000 in
theorem Survives_any {a : Option Addr} {n cp : Nat} {f : List (List Int)} {b : Option Addr} {m cq : Nat} {s : List Int} {w : World} (h : Fam w a n f) (hs : Ints w b m s) :
    Calls Try.prog 39 #[.slice a n cp, .slice b m cq] w fun e w' => e = .returned (.bool (survL f s)) ∧ Ext none w w' := by
  cases hf : famB f
  · have hno := Lib.hid (show survL f s = false from by unfold survL; rw [hf]; rfl)
    go_enter Try.func39, Try.ntmps39
    go_wp2_with fail
    refine (readFamily_is h hf).mono ?_; rintro e w1 ⟨a1, n1, c1, rfl, ho, he⟩
    go_wp2_with fail
    refine (readSet_any (hs.ext he)).mono ?_; rintro e w_ ⟨rfl, rfl⟩
    go_wp2_with fail
    go_ret
    exact ⟨retB hno.out, he⟩
  · cases hv : valid s
    · have hno := Lib.hid (show survL f s = false from by unfold survL; rw [hf, hv]; rfl)
      go_enter Try.func39, Try.ntmps39
      go_wp2_with fail
      refine (readFamily_is h hf).mono ?_; rintro e w1 ⟨a1, n1, c1, rfl, ho, he⟩
      go_wp2_with fail
      refine (readSet_is (hs.ext he) hv).mono ?_; rintro e w_ ⟨rfl, rfl⟩
      go_wp2_with fail
      go_ret
      exact ⟨retB hno.out, he⟩
    · have hyes := Lib.hid (show survL f s = up (masks f) (dif 63 (mask s)) from by unfold survL; rw [hf, hv]; rfl)
      have hm64 : dif 63 (mask s) < 64 := dif_lt (by decide)
      have hk := Lib.hid (not63 (mask_lt hv))
      have H64 := Lib.hid (masks_lt hf)
      have HR := Lib.hid (rdF_yes hf)
      go_enter Try.func39, Try.ntmps39
      go_wp2_with fail
      refine (readFamily_is h hf).mono ?_; rintro e w1 ⟨a1, n1, c1, rfl, ho, he⟩
      have hq := ho.crs
      rw [HR.out] at hq
      go_wp2_with fail
      refine (readSet_ok (hs.ext he) hv rfl).mono ?_; rintro e w_ ⟨rfl, rfl⟩
      go_wp2_with fail
      rw [hk.out]
      refine (reached_is hq H64.out hm64 rfl).mono ?_; rintro e w_ ⟨rfl, rfl⟩
      go_wp2_with fail
      go_ret
      exact ⟨retB hyes.out, he⟩
end Go.Proofs.Ytnlmcbilhfmenaa
