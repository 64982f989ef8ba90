/- The walk of laws.FnQuorumsMinimal: it returns true. Condition: the argument is a slice of bytes. -/
import Derived.Test.YtnlmcbilhfmenaaD8
import Derived.Test.YtnlmcbilhfmenaaCC
import Derived.Test.YtnlmcbilhfmenaaW3
namespace Go.Proofs.Ytnlmcbilhfmenaa
open Go.RowKit
set_option linter.unusedVariables false

set_option maxRecDepth 20000 in
set_option maxHeartbeats 2000000 in
theorem FnQuorumsMinimal_walk {a : Option Addr} {n c : Nat} {w : World} (h : Bytes w a n c) :
    Calls Try.prog 5 #[.slice a n c] w fun e w' => e = .returned (.bool true) ∧ Ext none w w' := by
  rcases Nat.lt_or_ge 1048576 n with hl | hl
  · have hlI : (1048576 : Int) < (n : Int) := by omega
    go_enter Try.func5, Try.ntmps5
    go_wp2_with fail
    go_ret
    exact ⟨rfl, Ext.refl _ _⟩
  have hlI : ¬ (1048576 : Int) < (n : Int) := by omega
  go_enter Try.func5, Try.ntmps5
  go_wp2_with fail
  refine (DrawFamilyHasQuorum_any h).mono ?_; rintro e w_ ⟨a1, n1, c1, f, b1, m1, d1, s, rfl, hF, hn, hs, he⟩
  have hf := hF.1
  clear h hF
  obtain ⟨ok, hok⟩ : ∃ ok, hasL f s = ok := ⟨_, rfl⟩
  have HOK := Lib.hid hok
  clear hok
  go_wp2_with fail
  refine (FamilyHasQuorum_is hf hs HOK.out).mono ?_; rintro e w_ ⟨rfl, e1⟩
  replace hf := hf.ext e1
  replace hs := hs.ext e1
  replace he := he.trans e1
  clear e1
  go_wp2_with fail
  refine (sFamilyHasQuorum_is hf hs HOK.out).mono ?_; rintro e w_ ⟨rfl, d_⟩
  replace hf := hf.ext d_.ext
  replace hs := hs.ext d_.ext
  replace he := he.trans d_.ext
  clear d_
  cases hv : famB f
  · skip
    go_wp2_with fail
    refine (sFamilyValid_is hf hv).mono ?_; rintro e w_ ⟨rfl, d_⟩
    replace hf := hf.ext d_.ext
    replace hs := hs.ext d_.ext
    replace he := he.trans d_.ext
    clear d_
    go_wp2_with fail
    refine (sFamilyHasQuorum_is hf hs HOK.out).mono ?_; rintro e w_ ⟨rfl, d_⟩
    replace hf := hf.ext d_.ext
    replace hs := hs.ext d_.ext
    replace he := he.trans d_.ext
    clear d_
    go_wp2_with fail
    go_ret
    exact ⟨rfl, he⟩
  · skip
    go_wp2_with fail
    refine (sFamilyValid_is hf hv).mono ?_; rintro e w_ ⟨rfl, d_⟩
    replace hf := hf.ext d_.ext
    replace hs := hs.ext d_.ext
    replace he := he.trans d_.ext
    clear d_
    have hl := Lib.hid hf.len
    have hm := hf.max
    have hself := Lib.hid (fun i (hi : i < f.length) => hasL_self hv hi)
    have hless := Lib.hid (fun i (hi : i < f.length) j (hj : j < (f.getD i []).length) => hasL_less hv hi hj)
    have hval := Lib.hid (fam_valid hv)
    go_wp2_with fail
    obtain ⟨wl, hwl⟩ : ∃ x, x = w_ := ⟨_, rfl⟩
    rw [← hwl] at hf he ⊢
    clear hwl hs
    go_loopw [6] (fun i wr => ∃ k : Nat, k ≤ n1 ∧ i = .int .i64 k ∧ Ext none wl wr)
      (fun i _ => n1 - (intOf i).toNat)
    case atStart => exact ⟨0, by omega, rfl, Ext.refl _ _⟩
    case round =>
      obtain ⟨k, hk, rfl, hx⟩ := hrel
      by_cases hlt : k < n1
      · have hltI : (k : Int) < (n1 : Int) := by omega
        have hkl : k < f.length := by rw [hl.out]; exact hlt
        obtain ⟨b, off, a2, n2, c2, rfl, hc, hi⟩ := (hf.ext hx).cell hlt
        have hm2 := hi.max
        have hfx := hf.ext hx
        go_wp2_with fail
        refine (FamilyHasQuorum_is hfx hi (hself.out k hkl)).mono ?_; rintro e w3 ⟨rfl, e3⟩
        have HC := Lib.hid hc
        have HI := Lib.hid hi
        have hl2 := Lib.hid hi.len
        have hn26 : n2 ≤ 6 := by rw [← hi.len]; exact valid_len (hval.out _ (getD_mem hkl))
        obtain ⟨wo, hwo⟩ : ∃ x, x = wr := ⟨_, rfl⟩
        rw [← hwo] at hx hfx e3
        have HC := Lib.hid (show wo.cell? ⟨b, off + k, none⟩ = some (.slice a2 n2 c2) from by rw [hwo]; exact HC.out)
        have HI := Lib.hid (show Ints wo a2 n2 (f.getD k []) from by rw [hwo]; exact HI.out)
        clear hc hi hwo
        go_wp2_with fail
        go_loopw [7] (fun i wr => ∃ j : Nat, j ≤ n2 ∧ i = .int .i64 j ∧ Ext none wo wr)
          (fun i _ => n2 - (intOf i).toNat)
        case atStart => exact ⟨0, by omega, rfl, e3⟩
        case round =>
          obtain ⟨j, hj, rfl, hy⟩ := hrel
          have hc := hy.cell HC.out
          by_cases hjt : j < n2
          · have hjtI : (j : Int) < (n2 : Int) := by omega
            have hjl : j < (f.getD k []).length := by rw [hl2.out]; exact hjt
            obtain ⟨b2, off2, rfl, hc2⟩ := (HI.out.ext hy).cell hjt
            have hno := Lib.hid (hless.out k hkl j hjl)
            obtain ⟨x, hxx⟩ : ∃ x, x = (f.getD k []).getD j 0 := ⟨_, rfl⟩
            rw [← hxx] at hc2
            have HX := Lib.hid hxx
            clear hxx
            have hdr := Lib.hid (show Ext none wr (wr.alloc (.cells #[.int .i64 x] 3)).drew from ((Ext.refl _ _).alloc _).drew)
            have hcA := ((Ext.refl none wr).alloc (.cells #[.int .i64 x] 3)).cell hc
            have i1 := Lib.hid ((HI.out.ext hy).ext hdr.out)
            have i2 := Lib.hid (show Ints (wr.alloc (.cells #[.int .i64 x] 3)).drew (some ⟨wr.heap.size, 0, none⟩) 1 [x] from ((OwnI.lit1 wr x).ext0 ((Ext.refl none _).drew)).ints)
            have hno2 := Lib.hid (show hasL f (minusL (f.getD k []) [x]) = false from by rw [HX.out]; exact hno.out)
            have hF4 := Lib.hid (hfx.ext ((show Ext none wo (wr.alloc (.cells #[.int .i64 x] 3)).drew from hy.trans hdr.out)))
            go_wp2_with fail
            go_region_law (first
              | (go_simp; go_at_call 31; refine (SetMinus_any i1.out i2.out).mono ?_; rintro e w5 ⟨a5, n5, c5, rfl, o5, e5⟩; have i5 := o5.ints; have E5 := Lib.hid e5; clear o5 e5)
              | (go_simp; go_at_call 29; refine (FamilyHasQuorum_is (hF4.out.ext E5.out) i5 hno2.out).mono ?_; rintro e w6 ⟨rfl, e6⟩; have E6 := Lib.hid (hdr.out.trans (E5.out.trans e6)); clear e6))
            all_goals
              go_wp2_with fail
              go_roundw
              case rel => exact ⟨j + 1, by omega, by go_num, hy.trans E6.out⟩
              case measure => simp [intOf]; omega
          · obtain rfl : j = n2 := by omega
            go_wp2_with fail
            go_roundw
            case rel => exact ⟨k + 1, by omega, by go_num, hx.trans hy⟩
            case measure => simp [intOf]; omega
      · obtain rfl : k = n1 := by omega
        go_wp2_with fail
        go_ret
        exact ⟨rfl, he.trans hx⟩
end Go.Proofs.Ytnlmcbilhfmenaa
