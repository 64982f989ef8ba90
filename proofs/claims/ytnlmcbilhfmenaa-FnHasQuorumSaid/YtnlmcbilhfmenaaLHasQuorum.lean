/- The walk of laws.FnHasQuorum: it returns true. Condition: the arguments are slices of bytes. -/
import Derived.Test.YtnlmcbilhfmenaaD8
import Derived.Test.YtnlmcbilhfmenaaCC
namespace Go.Proofs.Ytnlmcbilhfmenaa
open Go.RowKit
set_option linter.unusedVariables false

set_option maxHeartbeats 2000000 in
theorem FnHasQuorum_walk {a : Option Addr} {n c : Nat} {a' : Option Addr} {n' c' : Nat} {w : World} (h : Bytes w a n c) (h' : Bytes w a' n' c') :
    Calls Try.prog 6 #[.slice a n c, .slice a' n' c'] w fun e w' => e = .returned (.bool true) ∧ Ext none w w' := by
  clear h'
  rcases Nat.lt_or_ge 1048576 n with hl | hl
  · have hlI : (1048576 : Int) < (n : Int) := by omega
    go_enter Try.func6, Try.ntmps6
    go_wp2_with fail
    go_ret
    exact ⟨rfl, Ext.refl _ _⟩
  have hlI : ¬ (1048576 : Int) < (n : Int) := by omega
  rcases Nat.lt_or_ge 1048576 n' with hl' | hl'
  · have hlI' : (1048576 : Int) < (n' : Int) := by omega
    go_enter Try.func6, Try.ntmps6
    go_wp2_with fail
    go_ret
    exact ⟨rfl, Ext.refl _ _⟩
  have hlI' : ¬ (1048576 : Int) < (n' : Int) := by omega
  go_enter Try.func6, Try.ntmps6
  go_wp2_with fail
  refine (DrawFamilyHasQuorum_any h).mono ?_; rintro e w_ ⟨a1, n1, c1, f, b1, m1, d1, s, rfl, hF, hn, hs, he⟩
  have hf := hF.1
  clear h hF
  have hn1 : (0 : Int) ≤ (n' : Int) := by omega
  have hn2 : (n' : Int) ≤ 2000000 := by omega
  obtain ⟨ok, hok⟩ : ∃ ok, hasL f s = ok := ⟨_, rfl⟩
  have HOK := Lib.hid hok
  clear hok
  cases hv : famB f
  · have hno := Lib.hid (show hasL f s = false from by unfold hasL; rw [hv]; rfl)
    clear HOK
    go_wp2_with fail
    refine (FamilyHasQuorum_is hf hs hno.out).mono ?_; rintro e w_ ⟨rfl, e1⟩
    replace hf := hf.ext e1
    replace hs := hs.ext e1
    replace he := he.trans e1
    clear e1
    go_wp2_with fail
    refine (sFamilyHasQuorum_is hf hs hno.out).mono ?_; rintro e w_ ⟨rfl, d_⟩
    replace hf := hf.ext d_.ext
    replace hs := hs.ext d_.ext
    replace he := he.trans d_.ext
    clear d_
    go_wp2_with fail
    refine (sFamilyValid_is hf hv).mono ?_; rintro e w_ ⟨rfl, d_⟩
    replace hf := hf.ext d_.ext
    replace hs := hs.ext d_.ext
    replace he := he.trans d_.ext
    clear d_
    go_wp2_with fail
    refine (sFamilyHasQuorum_is hf hs hno.out).mono ?_; rintro e w_ ⟨rfl, d_⟩
    replace hf := hf.ext d_.ext
    replace hs := hs.ext d_.ext
    replace he := he.trans d_.ext
    clear d_
    go_wp2_with fail
    go_ret
    exact ⟨rfl, he⟩
  · cases hu : valid s
    · have hno := Lib.hid (show hasL f s = false from by unfold hasL; rw [hv, hu]; rfl)
      clear HOK
      go_wp2_with fail
      refine (FamilyHasQuorum_is hf hs hno.out).mono ?_; rintro e w_ ⟨rfl, e1⟩
      replace hf := hf.ext e1
      replace hs := hs.ext e1
      replace he := he.trans e1
      clear e1
      go_wp2_with fail
      refine (sFamilyHasQuorum_is hf hs hno.out).mono ?_; rintro e w_ ⟨rfl, d_⟩
      replace hf := hf.ext d_.ext
      replace hs := hs.ext d_.ext
      replace he := he.trans d_.ext
      clear d_
      go_wp2_with fail
      refine (sFamilyValid_is hf hv).mono ?_; rintro e w_ ⟨rfl, d_⟩
      replace hf := hf.ext d_.ext
      replace hs := hs.ext d_.ext
      replace he := he.trans d_.ext
      clear d_
      go_wp2_with fail
      refine (sSetValid_is hs hu).mono ?_; rintro e w_ ⟨rfl, d_⟩
      replace hf := hf.ext d_.ext
      replace hs := hs.ext d_.ext
      replace he := he.trans d_.ext
      clear d_
      go_wp2_with fail
      refine (sFamilyHasQuorum_is hf hs hno.out).mono ?_; rintro e w_ ⟨rfl, d_⟩
      replace hf := hf.ext d_.ext
      replace hs := hs.ext d_.ext
      replace he := he.trans d_.ext
      clear d_
      go_wp2_with fail
      go_ret
      exact ⟨rfl, he⟩
    · have hany := Lib.hid (anySub_hasL hv hu)
      go_wp2_with fail
      refine (FamilyHasQuorum_is hf hs HOK.out).mono ?_; rintro e w_ ⟨rfl, e1⟩
      replace hf := hf.ext e1
      replace hs := hs.ext e1
      replace he := he.trans e1
      clear e1
      go_wp2_with fail
      refine (sFamilyHasQuorum_is hf hs HOK.out).mono ?_; rintro e w_ ⟨rfl, d_⟩
      replace hf := hf.ext d_.ext
      replace hs := hs.ext d_.ext
      replace he := he.trans d_.ext
      clear d_
      go_wp2_with fail
      refine (sFamilyValid_is hf hv).mono ?_; rintro e w_ ⟨rfl, d_⟩
      replace hf := hf.ext d_.ext
      replace hs := hs.ext d_.ext
      replace he := he.trans d_.ext
      clear d_
      go_wp2_with fail
      refine (sSetValid_is hs hu).mono ?_; rintro e w_ ⟨rfl, d_⟩
      replace hf := hf.ext d_.ext
      replace hs := hs.ext d_.ext
      replace he := he.trans d_.ext
      clear d_
      go_wp2_with fail
      obtain ⟨wl, hwl⟩ : ∃ x, x = w_ := ⟨_, rfl⟩
      rw [← hwl] at hf hs he ⊢
      clear hwl
      have hm := hf.max
      have hl := Lib.hid hf.len
      go_loop [8, 9] (fun c i => ∃ k : Nat, k ≤ n1 ∧ i = .int .i64 k ∧ c = .bool (anySub (f.take k) s))
        (fun _ i => n1 - (intOf i).toNat)
      case atStart => exact ⟨0, by omega, rfl, rfl⟩
      case round =>
        obtain ⟨k, hk, rfl, rfl⟩ := hrel
        by_cases hlt : k < n1
        · have hltI : (k : Int) < (n1 : Int) := by omega
          obtain ⟨b, off, a2, n2, c2, rfl, hc, hi⟩ := hf.cell hlt
          have hst := Lib.hid (anySub_step f s k (by rw [hl.out]; exact hlt))
          cases hq : anySub (f.take k) s
          · obtain ⟨q, hqq⟩ : ∃ q, subsetL (f.getD k []) s = q := ⟨_, rfl⟩
            have HQ := Lib.hid hqq
            clear hqq
            go_wp2_with fail
            refine (SetSubset_is hi hs HQ.out).mono ?_; rintro e w_ ⟨rfl, rfl⟩
            go_wp2_with fail
            go_round
            case rel => exact ⟨k + 1, by omega, by go_num, by rw [hst.out, hq, HQ.out]; rfl⟩
            case measure => simp [intOf]; omega
          · go_wp2_with fail
            go_round
            case rel => exact ⟨k + 1, by omega, by go_num, by rw [hst.out, hq]; rfl⟩
            case measure => simp [intOf]; omega
        · obtain rfl : k = n1 := by omega
          have hfin := Lib.hid (show anySub (f.take k) s = hasL f s from by rw [List.take_of_length_le (by rw [hl.out]; exact Nat.le_refl _), hany.out])
          rw [hfin.out, HOK.out]
          cases ok
          · skip
            go_wp2_with fail
            go_ret
            exact ⟨rfl, he⟩
          · skip
            go_wp2_with fail
            refine (setOf_any hn1 hn2).mono ?_; rintro e w_x ⟨a_x, n_x, c_x, rfl, o_x, e_x⟩
            have i_x := o_x.ints
            replace hf := hf.ext e_x
            replace hs := hs.ext e_x
            replace he := he.trans e_x
            clear o_x e_x
            go_wp2_with fail
            refine (SetUnion_any hs i_x).mono ?_; rintro e w_y ⟨a_y, n_y, c_y, rfl, o_y, e_y⟩
            have i_y := o_y.ints
            replace hf := hf.ext e_y
            replace hs := hs.ext e_y
            replace he := he.trans e_y
            clear o_y e_y
            go_wp2_with fail
            refine (FamilyHasQuorum_is hf i_y (hasL_union HOK.out (setN_lt _))).mono ?_; rintro e w_ ⟨rfl, e1⟩
            replace he := he.trans e1
            clear e1
            go_wp2_with fail
            go_ret
            exact ⟨rfl, he⟩
end Go.Proofs.Ytnlmcbilhfmenaa
