/- The walk of laws.FnFamilyOfExpr: it returns true. Condition: the arguments are slices of bytes. -/
import Derived.Test.YtjjjpakgnipghaaRJ
import Derived.Test.YtjjjpakgnipghaaCG
import Derived.Test.YtjjjpakgnipghaaD6
import Derived.Test.YtjjjpakgnipghaaPO
namespace Go.Proofs.Ytjjjpakgnipghaa
open Go.RowKit
set_option linter.unusedVariables false

theorem satE_zero {L : List UInt8} (h : okE L = true) : satE L 0 = false := by
  have := (empty_law h).1
  unfold satisfiedE at this
  rw [h, show valid [] = true from rfl, show mask [] = 0 from rfl] at this
  simpa using this
theorem satE_mono (L : List UInt8) : Mono (satE L) := by
  intro x y hx hy hs h
  unfold satE at h ⊢
  cases he : ex L with
  | none => rw [he] at h; cases h
  | some t => rw [he] at h; exact sat_mono t x y ((sub_iff x y hx).1 hs) h
theorem ofExpr_fam {L : List UInt8} (h : okE L = true) : famB (ofExprL L) = true := by
  rw [ofExprL_yes h]; exact whereL_fam (satE_zero h)
theorem ofExpr_has {L : List UInt8} (h : okE L = true) {s : List Int} (hs : valid s = true) : satisfiedE L s = hasL (ofExprL L) s := by
  obtain ⟨c, hc, rfl⟩ := valid_mem hs
  rw [ofExprL_yes h, whereL_has (satE_zero h) (satE_mono L) hc]
  unfold satisfiedE; rw [h, mem_valid hc, mask_mem hc]; rfl
theorem ofExpr_ne {L : List UInt8} (h : okE L = true) : ofExprL L ≠ [] := by
  intro he
  have h1 := (empty_law h).2.1
  have h2 := (satisfiedE_yes h1).2
  rw [ofExpr_has h h2, he] at h1
  unfold hasL up masks at h1; simp at h1

set_option maxRecDepth 20000 in
set_option maxHeartbeats 2000000 in
theorem FnFamilyOfExpr_walk {a : Option Addr} {n c : Nat} {a' : Option Addr} {n' c' : Nat} {w : World} (h : Bytes w a n c) (h' : Bytes w a' n' c') :
    Calls Try.prog 3 #[.slice a n c, .slice a' n' c'] w fun e w' => e = .returned (.bool true) ∧ Ext none w w' := by
  clear h'
  rcases Nat.lt_or_ge 1048576 n with hl | hl
  · have hlI : (1048576 : Int) < (n : Int) := by omega
    go_enter Try.func3, Try.ntmps3
    go_wp2_with fail
    go_ret
    exact ⟨rfl, Ext.refl _ _⟩
  have hlI : ¬ (1048576 : Int) < (n : Int) := by omega
  rcases Nat.lt_or_ge 1048576 n' with hl' | hl'
  · have hlI' : (1048576 : Int) < (n' : Int) := by omega
    go_enter Try.func3, Try.ntmps3
    go_wp2_with fail
    go_ret
    exact ⟨rfl, Ext.refl _ _⟩
  have hlI' : ¬ (1048576 : Int) < (n' : Int) := by omega
  go_enter Try.func3, Try.ntmps3
  go_wp2_with fail
  refine (DrawFamilyOfExpr_any h).mono ?_; rintro e w_ ⟨text, rfl, hsz, he⟩
  clear h
  have hs9 : text.size ≤ 9223372036854775807 := by omega
  obtain ⟨L, hL⟩ : ∃ L, byt text = L := ⟨_, rfl⟩
  have HL := Lib.hid hL
  cases hk : okE L
  · skip
    go_wp2_with fail
    refine (sFamilyOfExpr_v hs9 ((congrArg okE hL).trans hk)).mono ?_; rintro e w_u ⟨a_u, n_u, c_u, rfl, f_u, e_u⟩
    replace he := he.trans e_u
    clear e_u
    go_wp2_with fail
    refine (FamilyOfExpr_v hs9 ((congrArg okE hL).trans hk)).mono ?_; rintro e w_v ⟨a_v, n_v, c_v, rfl, f_v, e_v⟩
    replace f_u := f_u.ext e_v
    replace he := he.trans e_v
    clear e_v
    rw [hL] at f_u f_v
    go_wp2_with fail
    refine (sameSets_v f_v f_u).mono ?_; rintro e w_ ⟨rfl, d_⟩
    replace f_u := f_u.ext d_.ext
    replace f_v := f_v.ext d_.ext
    replace he := he.trans d_.ext
    clear d_
    go_wp2_with fail
    refine (sameSets_v f_v f_u).mono ?_; rintro e w_ ⟨rfl, d_⟩
    replace he := he.trans d_.ext
    clear d_
    go_wp2_with fail
    refine (ExprValid_is hs9 ((congrArg okE HL.out).trans hk)).mono ?_; rintro e w_ ⟨rfl, e1⟩
    replace he := he.trans e1
    clear e1
    go_wp2_with fail
    go_ret
    exact ⟨rfl, he⟩
  · have hhas := Lib.hid (fun s (hs : valid s = true) => ofExpr_has hk hs)
    have hfam := ofExpr_fam hk
    have hne := ofExpr_ne hk
    have hval := Lib.hid (fam_valid hfam)
    have hless := Lib.hid (fun i (hi : i < (ofExprL L).length) j (hj : j < ((ofExprL L).getD i []).length) => hasL_less hfam hi hj)
    have HFAM := Lib.hid hfam
    go_wp2_with fail
    refine (sFamilyOfExpr_v hs9 ((congrArg okE hL).trans hk)).mono ?_; rintro e w_u ⟨a_u, n_u, c_u, rfl, f_u, e_u⟩
    replace he := he.trans e_u
    clear e_u
    go_wp2_with fail
    refine (FamilyOfExpr_v hs9 ((congrArg okE hL).trans hk)).mono ?_; rintro e w_v ⟨a_v, n_v, c_v, rfl, f_v, e_v⟩
    replace f_u := f_u.ext e_v
    replace he := he.trans e_v
    clear e_v
    rw [hL] at f_u f_v
    go_wp2_with fail
    refine (sameSets_v f_v f_u).mono ?_; rintro e w_ ⟨rfl, d_⟩
    replace f_v := f_v.ext d_.ext
    replace he := he.trans d_.ext
    clear d_
    have hlv := Lib.hid f_v.len
    have hmv := f_v.max
    have hpos : 0 < n_v := by
      have h1 := f_v.len
      have h2 : (ofExprL L).length ≠ 0 := fun e => hne (List.eq_nil_of_length_eq_zero e)
      omega
    have HPOS := Lib.hid hpos
    clear hpos hne hfam f_u hL
    go_wp2_with fail
    obtain ⟨wl, hwl⟩ : ∃ x, x = w_ := ⟨_, rfl⟩
    rw [← hwl] at f_v he ⊢
    clear hwl
    have HV := Lib.hid f_v
    clear f_v
    go_loopw [10] (fun i wr => ∃ k : Nat, k ≤ 4 ∧ i = .int .i64 (k : Nat) ∧ Ext none wl wr)
      (fun i _ => 4 - (intOf i).toNat)
    case atStart => exact ⟨0, by omega, rfl, Ext.refl _ _⟩
    case round =>
      obtain ⟨k, hk4, rfl, hx⟩ := hrel
      by_cases hlt : k < 4
      · have hltI : (k : Int) < 4 := by omega
        have hq0 : (0 : Int) ≤ (n' : Int) + (k : Int) * 17 := by omega
        have hq1 : (n' : Int) + (k : Int) * 17 ≤ 2000000 := by omega
        have HH := Lib.hid (hhas.out _ (mem_valid (setN_lt ((n' : Int) + (k : Int) * 17))))
        go_wp2_with fail
        refine (setOf_any hq0 hq1).mono ?_; rintro e w3 ⟨a3, n3, c3, rfl, o3, e3⟩
        have i3 := o3.ints
        obtain ⟨s, hs⟩ : ∃ s, s = mem (setN ((n' : Int) + (k : Int) * 17)) := ⟨_, rfl⟩
        rw [← hs] at i3 HH
        obtain ⟨q, hq⟩ : ∃ q, hasL (ofExprL L) s = q := ⟨_, rfl⟩
        have HQ := Lib.hid hq
        have HQ2 := Lib.hid (show satisfiedE (byt text) s = q from by rw [HL.out, HH.out, hq])
        have hx3 := Lib.hid (hx.trans e3)
        clear hs hq o3 e3 hx
        go_wp2_with fail
        refine (HasQuorum_v (HV.out.ext hx3.out) i3 HQ.out).mono ?_; rintro e w4 ⟨rfl, e4⟩
        go_wp2_with fail
        refine (ExprSatisfied_is hs9 (i3.ext e4) HQ2.out).mono ?_; rintro e w5 ⟨rfl, e5⟩
        go_wp2_with fail
        go_roundw
        case rel => exact ⟨k + 1, by omega, by go_num, (hx3.out.trans e4).trans e5⟩
        case measure => simp [intOf]; omega
      · have hnI : ¬ ((k : Int) < 4) := by omega
        clear hlt hk4
        go_wp2_with fail
        obtain ⟨w9, hw9⟩ : ∃ x, x = wr := ⟨_, rfl⟩
        rw [← hw9] at hx ⊢
        clear hw9
        go_loopw [12] (fun i wr => ∃ k : Nat, k ≤ n_v ∧ i = .int .i64 (k : Nat) ∧ Ext none wl wr)
          (fun i _ => n_v - (intOf i).toNat)
        case atStart => exact ⟨0, by omega, rfl, hx⟩
        case round =>
          obtain ⟨k, hk2, rfl, hx⟩ := hrel
          by_cases hlt : k < n_v
          · have hltI : (k : Int) < (n_v : Int) := by omega
            have hkl : k < (ofExprL L).length := by rw [hlv.out]; exact hlt
            obtain ⟨b, off, a2, n2, c2, rfl, hc, hi2⟩ := (HV.out.ext hx).cell hlt
            have hn26 : n2 ≤ 6 := by rw [← hi2.len]; exact valid_len (hval.out _ (getD_mem hkl))
            have hvk := Lib.hid (hval.out _ (getD_mem hkl))
            have hl2 := Lib.hid hi2.len
            have HI := Lib.hid hi2
            have HC := Lib.hid hc
            obtain ⟨wo, hwo⟩ : ∃ x, x = wr := ⟨_, rfl⟩
            rw [← hwo] at hx
            have HC := Lib.hid (show wo.cell? ⟨b, off + k, none⟩ = some (.slice a2 n2 c2) from by rw [hwo]; exact HC.out)
            have HI := Lib.hid (show Ints wo a2 n2 ((ofExprL L).getD k []) from by rw [hwo]; exact HI.out)
            have hrefl : Ext none wo wr := by rw [hwo]; exact Ext.refl _ _
            clear hc hi2 hwo
            go_wp2_with fail
            go_loopw [13] (fun i wr => ∃ j : Nat, j ≤ n2 ∧ i = .int .i64 (j : Nat) ∧ Ext none wo wr)
              (fun i _ => n2 - (intOf i).toNat)
            case atStart => exact ⟨0, by omega, rfl, hrefl⟩
            case round =>
              obtain ⟨j, hj, rfl, hy⟩ := hrel
              have hc := hy.cell HC.out
              by_cases hjt : j < n2
              · have hjtI : (j : Int) < (n2 : Int) := by omega
                have hjl : j < ((ofExprL L).getD k []).length := by rw [hl2.out]; exact hjt
                obtain ⟨b2, off2, rfl, hc2⟩ := (HI.out.ext hy).cell hjt
                have hno := hless.out k hkl j hjl
                have hgt := valid_get hvk.out j hjl
                obtain ⟨x, hxx⟩ : ∃ x, x = ((ofExprL L).getD k []).getD j 0 := ⟨_, rfl⟩
                rw [← hxx] at hc2 hno hgt
                clear hxx
                have HNO := Lib.hid (show satisfiedE (byt text) (minusL ((ofExprL L).getD k []) [x]) = false from by
                  rw [HL.out, hhas.out _ (by rw [minusL_yes hvk.out (valid_one hgt.1 hgt.2)]; exact mem_valid (dif_lt (mask_lt hvk.out)))]; exact hno)
                have hdr := Lib.hid (show Ext none wr (wr.alloc (.cells #[.int .i64 x] 3)).drew from ((Ext.refl _ _).alloc _).drew)
                have hcA := ((Ext.refl none wr).alloc (.cells #[.int .i64 x] 3)).cell hc
                have i1 := Lib.hid ((HI.out.ext hy).ext hdr.out)
                have i2 := Lib.hid (show Ints (wr.alloc (.cells #[.int .i64 x] 3)).drew (some ⟨wr.heap.size, 0, none⟩) 1 [x] from ((OwnI.lit1 wr x).ext0 ((Ext.refl none _).drew)).ints)
                clear hno hgt
                go_wp2_with fail
                go_region_law (first
                  | (go_simp; go_at_call 19; refine (SetMinus_any i1.out i2.out).mono ?_; rintro e w5 ⟨a5, n5, c5, rfl, o5, e5⟩; have i5 := o5.ints; have E5 := Lib.hid e5; clear o5 e5)
                  | (go_simp; go_at_call 18; refine (ExprSatisfied_is hs9 i5 HNO.out).mono ?_; rintro e w6 ⟨rfl, e6⟩; have E6 := Lib.hid (hdr.out.trans (E5.out.trans e6)); clear e6))
                all_goals
                  go_wp2_with fail
                  go_roundw
                  case rel => exact ⟨j + 1, by omega, by go_num, hy.trans E6.out⟩
                  case measure => simp [intOf]; omega
              · obtain rfl : j = n2 := by omega
                go_wp2_with fail
                go_roundw
                case rel => exact ⟨k + 1, by omega, by go_num, hx.trans hy⟩
                case measure => simp [intOf]; omega
          · obtain rfl : k = n_v := by omega
            go_wp2_with fail
            refine (FamilyValid_is (HV.out.ext hx).1 HFAM.out).mono ?_; rintro e w7 ⟨rfl, e7⟩
            go_wp2_with fail
            go_ret
            exact ⟨retB (decide_eq_true HPOS.out).symm, he.trans (hx.trans e7)⟩
end Go.Proofs.Ytjjjpakgnipghaa
