/- The walk of laws.FnTransversals: it returns true. Condition: the arguments are slices of bytes. -/
import Derived.Test.YtjciinaboooeoaaRD
import Derived.Test.YtjciinaboooeoaaCG
namespace Go.Proofs.Ytjciinaboooeoaa
open Go.RowKit
set_option linter.unusedVariables false

set_option maxHeartbeats 2000000 in
theorem FnTransversals_walk {a : Option Addr} {n c : Nat} {a' : Option Addr} {n' c' : Nat} {w : World} (h : Bytes w a n c) (h' : Bytes w a' n' c') :
    Calls Try.prog 3 #[.slice a n c, .slice a' n' c'] w fun e w' => e = .returned (.bool true) ∧ Ext none w w' := by
  clear h'
  rcases Nat.lt_or_ge 1048576 n with hl | hl
  · have hlI : (1048576 : Int) < (n : Int) := by omega
    go_enter Try.func3, Try.ntmps3
    go_wp2_with fail
    go_ret
    exact ⟨rfl, Ext.refl _ _⟩
  have hlI : ¬ (1048576 : Int) < (n : Int) := by omega
  rcases Nat.lt_or_ge 1048576 n' with hl' | hl'
  · have hlI' : (1048576 : Int) < (n' : Int) := by omega
    go_enter Try.func3, Try.ntmps3
    go_wp2_with fail
    go_ret
    exact ⟨rfl, Ext.refl _ _⟩
  have hlI' : ¬ (1048576 : Int) < (n' : Int) := by omega
  go_enter Try.func3, Try.ntmps3
  go_wp2_with fail
  refine (DrawFamilyTransversals_any h).mono ?_; rintro e w_ ⟨a1, n1, c1, f, rfl, hf, hn, he⟩
  clear h
  cases hk : okT f
  · skip
    go_wp2_with fail
    refine (sFamilyTransversals_v hf hk).mono ?_; rintro e w_u ⟨a_u, n_u, c_u, rfl, f_u, e_u⟩
    replace hf := hf.ext e_u
    replace he := he.trans e_u
    clear e_u
    go_wp2_with fail
    refine (FamilyTransversals_v hf hk).mono ?_; rintro e w_v ⟨a_v, n_v, c_v, rfl, f_v, e_v⟩
    replace hf := hf.ext e_v
    replace f_u := f_u.ext e_v
    replace he := he.trans e_v
    clear e_v
    go_wp2_with fail
    refine (sameSets_v f_v f_u).mono ?_; rintro e w_ ⟨rfl, d_⟩
    replace hf := hf.ext d_.ext
    replace f_u := f_u.ext d_.ext
    replace f_v := f_v.ext d_.ext
    replace he := he.trans d_.ext
    clear d_
    go_wp2_with fail
    refine (sameSets_v f_v f_u).mono ?_; rintro e w_ ⟨rfl, d_⟩
    replace he := he.trans d_.ext
    clear d_
    go_wp2_with fail
    go_ret
    exact ⟨rfl, he⟩
  · have hhas := Lib.hid (fun q : Int => transL_hits hk (setN_lt q))
    have hval := Lib.hid (transL_fam hk)
    have hne := okT_ne (transL_okT hk)
    have hl := Lib.hid hf.len
    have hm := hf.max
    go_wp2_with fail
    refine (sFamilyTransversals_v hf hk).mono ?_; rintro e w_u ⟨a_u, n_u, c_u, rfl, f_u, e_u⟩
    replace hf := hf.ext e_u
    replace he := he.trans e_u
    clear e_u
    go_wp2_with fail
    refine (FamilyTransversals_v hf hk).mono ?_; rintro e w_v ⟨a_v, n_v, c_v, rfl, f_v, e_v⟩
    replace hf := hf.ext e_v
    replace f_u := f_u.ext e_v
    replace he := he.trans e_v
    clear e_v
    go_wp2_with fail
    refine (sameSets_v f_v f_u).mono ?_; rintro e w_ ⟨rfl, d_⟩
    replace hf := hf.ext d_.ext
    replace f_v := f_v.ext d_.ext
    replace he := he.trans d_.ext
    clear d_
    have hpos : 0 < n_v := by
      have h1 := f_v.len
      have h2 : (transL f).length ≠ 0 := fun e => hne (List.eq_nil_of_length_eq_zero e)
      omega
    have HPOS := Lib.hid hpos
    clear hpos
    clear hne f_u
    go_wp2_with fail
    obtain ⟨wl, hwl⟩ : ∃ x, x = w_ := ⟨_, rfl⟩
    rw [← hwl] at hf f_v he ⊢
    clear hwl
    go_loopw [10] (fun i wr => ∃ k : Nat, k ≤ 4 ∧ i = .int .i64 (k : Nat) ∧ Ext none wl wr)
      (fun i _ => 4 - (intOf i).toNat)
    case atStart => exact ⟨0, by omega, rfl, Ext.refl _ _⟩
    case round =>
      obtain ⟨k, hk4, rfl, hx⟩ := hrel
      replace hf := hf.ext hx
      replace f_v := f_v.ext hx
      have HE := Lib.hid he
      replace he := hx
      clear hx
      by_cases hlt : k < 4
      · have hltI : (k : Int) < 4 := by omega
        have hq0 : (0 : Int) ≤ (n' : Int) + (k : Int) * 23 := by omega
        have hq1 : (n' : Int) + (k : Int) * 23 ≤ 2000000 := by omega
        have HH := Lib.hid (hhas.out ((n' : Int) + (k : Int) * 23))
        go_wp2_with fail
        refine (setOf_any hq0 hq1).mono ?_; rintro e w_s ⟨a_s, n_s, c_s, rfl, o_s, e_s⟩
        have i_s := o_s.ints
        replace hf := hf.ext e_s
        replace f_v := f_v.ext e_s
        replace he := he.trans e_s
        clear o_s e_s
        obtain ⟨s, hs⟩ : ∃ s, s = mem (setN ((n' : Int) + (k : Int) * 23)) := ⟨_, rfl⟩
        rw [← hs] at i_s HH
        clear hs
        go_wp2_with fail
        obtain ⟨wo, hwo⟩ : ∃ x, x = w_s := ⟨_, rfl⟩
        rw [← hwo] at hf f_v i_s he ⊢
        clear hwo
        have HF9 := Lib.hid hf
        have HV9 := Lib.hid f_v
        have IS9 := Lib.hid i_s
        have HE9 := Lib.hid he
        clear hf f_v i_s he
        go_loopw [12, 13] (fun c i wr => ∃ j : Nat, j ≤ n1 ∧ i = .int .i64 (j : Nat) ∧ c = .bool (hitsL (f.take j) s) ∧ Ext none wo wr)
          (fun _ i _ => n1 - (intOf i).toNat)
        case atStart => exact ⟨0, by omega, rfl, rfl, Ext.refl _ _⟩
        case round =>
          obtain ⟨j, hj, rfl, rfl, hy⟩ := hrel
          by_cases hjt : j < n1
          · have hjtI : (j : Int) < (n1 : Int) := by omega
            have hst := Lib.hid (hitsL_step f s j (by rw [hl.out]; exact hjt))
            cases hq : hitsL (f.take j) s
            · go_wp2_with fail
              go_roundw
              case rel => exact ⟨j + 1, by omega, by go_num, by rw [hst.out, hq]; rfl, hy⟩
              case measure => simp [intOf]; omega
            · obtain ⟨b, off, a2, n2, c2, rfl, hc, hi⟩ := (HF9.out.ext hy).cell hjt
              go_wp2_with fail
              refine (SetIntersect_any hi (IS9.out.ext hy)).mono ?_; rintro e w3 ⟨a3, n3, c3, rfl, o3, e3⟩
              have hn3 := Lib.hid o3.len
              have hE := Lib.hid (hy.trans e3)
              clear o3 e3 hi
              by_cases h0 : 0 < n3
              · have h0I : (0 : Int) < (n3 : Int) := by omega
                go_wp2_with fail
                go_roundw
                case rel => exact ⟨j + 1, by omega, by go_num, by rw [hst.out, hq, hn3.out, decide_eq_true h0]; rfl, hE.out⟩
                case measure => simp [intOf]; omega
              · have h0I : ¬ (0 : Int) < (n3 : Int) := by omega
                go_wp2_with fail
                go_roundw
                case rel => exact ⟨j + 1, by omega, by go_num, by rw [hst.out, hq, hn3.out, decide_eq_false h0]; rfl, hE.out⟩
                case measure => simp [intOf]; omega
          · obtain rfl : j = n1 := by omega
            obtain ⟨q, hqq⟩ : ∃ q, hitsL f s = q := ⟨_, rfl⟩
            have hfin := Lib.hid (show hitsL (f.take j) s = q from by rw [List.take_of_length_le (by rw [hl.out]; exact Nat.le_refl _), hqq])
            have HQ := Lib.hid (HH.out.trans hqq)
            clear hqq
            rw [hfin.out]
            go_wp2_with fail
            refine (HasQuorum_v (HV9.out.ext hy) (IS9.out.ext hy) HQ.out).mono ?_; rintro e w5 ⟨rfl, e5⟩
            go_wp2_with fail
            go_roundw
            case rel => exact ⟨k + 1, by omega, by go_num, (HE9.out.trans hy).trans e5⟩
            case measure => simp [intOf]; omega
      · obtain rfl : k = 4 := by omega
        go_wp2_with fail
        refine (FamilyValid_is f_v.1 hval.out).mono ?_; rintro e w9 ⟨rfl, e9⟩
        go_wp2_with fail
        go_ret
        exact ⟨retB (decide_eq_true HPOS.out).symm, HE.out.trans (he.trans e9)⟩
end Go.Proofs.Ytjciinaboooeoaa
