/- The walk of laws.FnWeightsTight: it returns true. Condition: the argument is a slice of bytes. -/
import Derived.Test.YtjciinaboooeoaaRD
import Derived.Test.YtjciinaboooeoaaCG
import Derived.Test.YtjciinaboooeoaaD3
import Derived.Test.YtjciinaboooeoaaC4
import Derived.Test.YtjciinaboooeoaaF8
import Derived.Test.YtjciinaboooeoaaRV
namespace Go.Proofs.Ytjciinaboooeoaa
open Go.RowKit
set_option linter.unusedVariables false

set_option maxRecDepth 20000 in
set_option maxHeartbeats 16000000 in
theorem FnWeightsTight_walk {a : Option Addr} {n c : Nat} {w : World} (h : Bytes w a n c) :
    Calls Try.prog 12 #[.slice a n c] w fun e w' => e = .returned (.bool true) ∧ Ext none w w' := by
  rcases Nat.lt_or_ge 1048576 n with hl | hl
  · have hlI : (1048576 : Int) < (n : Int) := by omega
    go_enter Try.func12, Try.ntmps12
    go_wp2_with fail
    go_ret
    exact ⟨rfl, Ext.refl _ _⟩
  have hlI : ¬ (1048576 : Int) < (n : Int) := by omega
  go_enter Try.func12, Try.ntmps12
  go_wp2_with fail
  refine (DrawWeightsFamily_any h).mono ?_; rintro e w_ ⟨a1, n1, c1, ws, need, rfl, hi, hq0, hq14, he⟩
  clear h
  cases hk : okW ws need
  · skip
    go_wp2_with fail
    refine (sWeightsFamily_v hi hk).mono ?_; rintro e w_u ⟨a_u, n_u, c_u, rfl, f_u, e_u⟩
    replace hi := hi.ext e_u
    replace he := he.trans e_u
    clear e_u
    go_wp2_with fail
    refine (WeightsFamily_v hi hk).mono ?_; rintro e w_v ⟨a_v, n_v, c_v, rfl, f_v, e_v⟩
    replace hi := hi.ext e_v
    replace f_u := f_u.ext e_v
    replace he := he.trans e_v
    clear e_v
    go_wp2_with fail
    refine (sameSets_v f_v f_u).mono ?_; rintro e w_ ⟨rfl, d_⟩
    replace f_u := f_u.ext d_.ext
    replace f_v := f_v.ext d_.ext
    replace he := he.trans d_.ext
    clear d_
    go_wp2_with fail
    refine (sameSets_v f_v f_u).mono ?_; rintro e w_ ⟨rfl, d_⟩
    replace he := he.trans d_.ext
    clear d_
    go_wp2_with fail
    go_ret
    exact ⟨rfl, he⟩
  · have hsum := Lib.hid (fun i (hi : i < (wFamL ws need).length) => wSum_at hk hi)
    have hti := Lib.hid (fun i (hi : i < (wFamL ws need).length) j (hj : j < ((wFamL ws need).getD i []).length) => tight hk hi hj)
    have hvalid := Lib.hid (fam_valid (wFamL_fam hk))
    have hlw := Lib.hid hi.len
    have hn16 : n1 ≤ 6 := by rw [← hi.len]; exact (valW_len (okW_parts hk).1).2
    go_wp2_with fail
    refine (sWeightsFamily_v hi hk).mono ?_; rintro e w_u ⟨a_u, n_u, c_u, rfl, f_u, e_u⟩
    replace hi := hi.ext e_u
    replace he := he.trans e_u
    clear e_u
    go_wp2_with fail
    refine (WeightsFamily_v hi hk).mono ?_; rintro e w_v ⟨a_v, n_v, c_v, rfl, f_v, e_v⟩
    replace hi := hi.ext e_v
    replace f_u := f_u.ext e_v
    replace he := he.trans e_v
    clear e_v
    go_wp2_with fail
    refine (sameSets_v f_v f_u).mono ?_; rintro e w_ ⟨rfl, d_⟩
    replace hi := hi.ext d_.ext
    replace f_v := f_v.ext d_.ext
    replace he := he.trans d_.ext
    clear d_
    have hlv := Lib.hid f_v.len
    have hmv := f_v.max
    go_wp2_with fail
    obtain ⟨wl, hwl⟩ : ∃ x, x = w_ := ⟨_, rfl⟩
    rw [← hwl] at hi f_v he ⊢
    clear hwl
    have HV := Lib.hid f_v
    have HW := Lib.hid hi
    clear f_v hi
    go_loopw [9] (fun i wr => ∃ k : Nat, k ≤ n_v ∧ i = .int .i64 (k : Nat) ∧ Ext none wl wr)
      (fun i _ => n_v - (intOf i).toNat)
    case atStart => exact ⟨0, by omega, rfl, Ext.refl _ _⟩
    case round =>
      obtain ⟨k, hk2, rfl, hx⟩ := hrel
      by_cases hlt : k < n_v
      · have hltI : (k : Int) < (n_v : Int) := by omega
        have hkl : k < (wFamL ws need).length := by rw [hlv.out]; exact hlt
        obtain ⟨b, off, a2, n2, c2, rfl, hc, hi2⟩ := (HV.out.ext hx).cell hlt
        obtain ⟨V, hVV⟩ : ∃ V, wSumL ws ((wFamL ws need).getD k []) = V := ⟨_, rfl⟩
        have hge := hsum.out k hkl
        rw [hVV] at hge
        have hgeI : ¬ V < need := by omega
        have HVV := Lib.hid hVV
        have hn26 : n2 ≤ 6 := by rw [← hi2.len]; exact valid_len (hvalid.out _ (getD_mem hkl))
        clear hVV
        go_wp2_with fail
        refine (WeightsSum_is (HW.out.ext hx) hi2 HVV.out).mono ?_; rintro e w3 ⟨rfl, e3⟩
        have hl2 := Lib.hid hi2.len
        have HI := Lib.hid hi2
        have HC := Lib.hid hc
        obtain ⟨wo, hwo⟩ : ∃ x, x = wr := ⟨_, rfl⟩
        rw [← hwo] at hx e3
        have HC := Lib.hid (show wo.cell? ⟨b, off + k, none⟩ = some (.slice a2 n2 c2) from by rw [hwo]; exact HC.out)
        have HI := Lib.hid (show Ints wo a2 n2 ((wFamL ws need).getD k []) from by rw [hwo]; exact HI.out)
        clear hc hi2 hwo
        go_wp2_with fail
        go_loopw [10] (fun i wr => ∃ j : Nat, j ≤ n2 ∧ i = .int .i64 j ∧ Ext none wo wr)
          (fun i _ => n2 - (intOf i).toNat)
        case atStart => exact ⟨0, by omega, rfl, e3⟩
        case round =>
          obtain ⟨j, hj, rfl, hy⟩ := hrel
          have hc := hy.cell HC.out
          by_cases hjt : j < n2
          · have hjtI : (j : Int) < (n2 : Int) := by omega
            have hjl : j < ((wFamL ws need).getD k []).length := by rw [hl2.out]; exact hjt
            obtain ⟨b2, off2, rfl, hc2⟩ := (HI.out.ext hy).cell hjt
            obtain ⟨t1, t2, t3, t4⟩ := hti.out k hkl j hjl
            obtain ⟨x, hxx⟩ : ∃ x, x = ((wFamL ws need).getD k []).getD j 0 := ⟨_, rfl⟩
            rw [← hxx] at hc2 t1 t2 t3 t4
            obtain ⟨r, rfl⟩ : ∃ r : Nat, x = (r : Int) + 1 := ⟨(x - 1).toNat, by omega⟩
            clear hxx t2
            rw [hlw.out] at t3
            have hrn : r < n1 := by omega
            have hrnI : (r : Int) < (n1 : Int) := by omega
            rw [show ((r : Int) + 1 - 1).toNat = r from by omega] at t4
            obtain ⟨v, hv⟩ : ∃ v, v = ws.getD r 0 := ⟨_, rfl⟩
            rw [← hv] at t4
            obtain ⟨bw, offw, rfl, hcw⟩ := ((HW.out.ext hx).ext hy).cell hrn
            rw [← hv] at hcw
            clear hv
            have hwr : IntKind.i64.wrap (r : Int) = (r : Int) := IntWalk.i64_in _ (by omega)
            have hr0I : (0 : Int) ≤ (r : Int) := by omega
            have hv0 : (v == 0) = false := by rw [beq_eq_false_iff_ne]; exact t4
            obtain ⟨U, hU⟩ : ∃ U, wSumL ws (minusL ((wFamL ws need).getD k []) [(r : Int) + 1]) = U := ⟨_, rfl⟩
            rw [hU] at t1
            have hUI : decide (need ≤ U) = false := decide_eq_false (by omega)
            have HU := Lib.hid hU
            clear hU t4 t1
            have hdr := Lib.hid (show Ext none wr (wr.alloc (.cells #[.int .i64 ((r : Int) + 1)] 3)).drew from ((Ext.refl _ _).alloc _).drew)
            have i1 := Lib.hid ((HI.out.ext hy).ext hdr.out)
            have i2 := Lib.hid (show Ints (wr.alloc (.cells #[.int .i64 ((r : Int) + 1)] 3)).drew (some ⟨wr.heap.size, 0, none⟩) 1 [(r : Int) + 1] from ((OwnI.lit1 wr ((r : Int) + 1)).ext0 ((Ext.refl none _).drew)).ints)
            have HW4 := Lib.hid (((HW.out.ext hx).ext hy).ext hdr.out)
            have hcA := ((Ext.refl none wr).alloc (.cells #[.int .i64 ((r : Int) + 1)] 3)).cell hc
            have hcB := ((Ext.refl none wr).alloc (.cells #[.int .i64 ((r : Int) + 1)] 3)).cell hc2
            go_wp2_with fail
            go_region_law (first
              | (go_simp; go_at_call 47; refine (SetMinus_any i1.out i2.out).mono ?_; rintro e w5 ⟨a5, n5, c5, rfl, o5, e5⟩; have i5 := o5.ints; have E5 := Lib.hid e5; clear o5 e5)
              | (go_simp; go_at_call 44; refine (WeightsSum_is (HW4.out.ext E5.out) i5 HU.out).mono ?_; rintro e w6 ⟨rfl, e6⟩; have E6 := Lib.hid (hdr.out.trans (E5.out.trans e6)); have k1 := E6.out.cell hc; have k2 := E6.out.cell hc2; have k3 := E6.out.cell hcw; clear e6))
            all_goals
              go_wp2_with fail
              go_roundw
              case rel => exact ⟨j + 1, by omega, by go_num, hy.trans E6.out⟩
              case measure => simp [intOf]; omega
          · obtain rfl : j = n2 := by omega
            go_wp2_with fail
            go_roundw
            case rel => exact ⟨k + 1, by omega, by go_num, hx.trans hy⟩
            case measure => simp [intOf]; omega
      · obtain rfl : k = n_v := by omega
        go_wp2_with fail
        go_ret
        exact ⟨rfl, he.trans hx⟩
end Go.Proofs.Ytjciinaboooeoaa
