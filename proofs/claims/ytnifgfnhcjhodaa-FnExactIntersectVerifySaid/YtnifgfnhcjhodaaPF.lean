/- XPF: several texts in one. Conditions: each lemma's own. -/
import Derived.Test.YtnifgfnhcjhodaaS2
import Derived.Test.YtnifgfnhcjhodaaPN
import Derived.Test.YtnifgfnhcjhodaaPW



namespace Go.Proofs.Ytnifgfnhcjhodaa
open Go.RowKit
set_option linter.unusedVariables false

theorem bit_pow (j : Nat) : bit ((j : Int) + 1) = 2 ^ j := bit_two _ j rfl
theorem pow_le6 (j k : Nat) (h : j ≤ k) (hk : k ≤ 5) : 1 ≤ 2 ^ j ∧ 2 ^ j ≤ 32 := by
  have : j = 0 ∨ j = 1 ∨ j = 2 ∨ j = 3 ∨ j = 4 ∨ j = 5 := by omega
  rcases this with rfl | rfl | rfl | rfl | rfl | rfl <;> decide

set_option maxHeartbeats 1000000 in
theorem l1Mask_any {a : Option Addr} {n cp : Nat} {xs : List Int} {w : World} (h : Ints w a n xs) (hv : valid xs = true) :
    Calls Try.prog 36 #[.slice a n cp] w fun e w' => e = .returned (.int .i64 (mask xs : Nat)) ∧ w = w' := by
  have hfin := Lib.hid (sumB_valid hv)
  have HV := Lib.hid hv
  have hn6 := valid_len hv
  rw [h.len] at hn6
  clear hv
  go_enter Try.func36, Try.ntmps36
  go_wp2_with fail
  go_loop [3, 4] (fun q i => ∃ k : Nat, k ≤ n ∧ i = .int .i64 ((k : Int) - 1) ∧ q = .int .i64 (sumB (xs.drop k) : Nat))
    (fun _ i => ((intOf i) + 1).toNat)
  case atStart => exact ⟨n, by omega, by go_num, by rw [List.drop_of_length_le (by rw [h.len]; exact Nat.le_refl _)]; rfl⟩
  case round =>
    obtain ⟨k, hk, rfl, rfl⟩ := hrel
    by_cases h0 : 0 < k
    · obtain ⟨j, rfl⟩ : ∃ j, k = j + 1 := ⟨k - 1, by omega⟩
      obtain ⟨b, off, rfl, hc⟩ := h.cell (k := j) (by omega)
      have hl : j < xs.length := by rw [h.len]; omega
      have hst := Lib.hid (sumB_drop xs j hl)
      have hg := valid_get HV.out j hl
      have hle := sumB_le xs HV.out (j + 1)
      obtain ⟨x, hxx⟩ : ∃ x, x = xs.getD j 0 := ⟨_, rfl⟩
      rw [← hxx] at hc hg
      have HX := Lib.hid hxx
      clear hxx
      obtain ⟨q, hqq⟩ : ∃ q, q = sumB (xs.drop (j + 1)) := ⟨_, rfl⟩
      rw [← hqq] at hle ⊢
      have HQ := Lib.hid hqq
      clear hqq
      obtain ⟨t, ht⟩ := Int.eq_ofNat_of_zero_le (show 0 ≤ x - 1 by omega)
      obtain rfl : x = (t : Int) + 1 := by omega
      clear ht
      have ht5 : t ≤ 5 := by omega
      have ej : ((j + 1 : Nat) : Int) - 1 = (j : Int) := by omega
      rw [ej]
      clear ej
      go_wp2_with fail
      go_loop [5, 6] (fun p i => ∃ r : Nat, r ≤ t ∧ i = .int .i64 ((r : Int) + 1) ∧ p = .int .i64 (2 ^ r : Nat))
        (fun _ i => 10 - (intOf i).toNat)
      case atStart => exact ⟨0, by omega, by go_num, rfl⟩
      case round =>
        obtain ⟨r, hr, rfl, rfl⟩ := hrel
        obtain ⟨p, hp⟩ : ∃ p, p = 2 ^ r := ⟨_, rfl⟩
        have hp2 := pow_le6 r t hr ht5
        rw [← hp] at hp2 ⊢
        have HP := Lib.hid hp
        clear hp
        by_cases hlt : r < t
        · go_wp2_with fail
          go_round
          case rel => exact ⟨r + 1, by omega, by go_num, by rw [Nat.pow_succ, ← HP.out]; go_num⟩
          case measure => simp [intOf]; omega
        · obtain rfl : r = t := by omega
          have hend := Lib.hid (show sumB (xs.drop j) = p + q from by rw [hst.out, ← HQ.out, ← HX.out, bit_pow, HP.out])
          go_wp2_with fail
          go_round
          case rel => exact ⟨j, by omega, by go_num, by rw [hend.out]; go_num⟩
          case measure => simp [intOf]
    · obtain rfl : k = 0 := by omega
      have hend := Lib.hid (show sumB (xs.drop 0) = mask xs from by rw [List.drop_zero]; exact hfin.out)
      go_wp2_with fail
      go_ret
      exact ⟨by rw [← hend.out]; rfl, rfl⟩

set_option maxHeartbeats 1000000 in
theorem l3Has_any {a : Option Addr} {n cp : Nat} {f : List (List Int)} {b : Option Addr} {m cq : Nat} {s : List Int} {w : World} (h : Fam w a n f) (hs : Ints w b m s) :
    Calls Try.prog 94 #[.slice a n cp, .slice b m cq] w fun e w' => e = .returned (.bool (hasB f s)) ∧ w = w' := by
  have hm := h.max
  go_enter Try.func94, Try.ntmps94
  go_wp2_with fail
  go_loop [5] (fun i => ∃ k : Nat, k ≤ n ∧ i = .int .i64 k ∧ hasB (f.take k) s = false)
    (fun i => n - (intOf i).toNat)
  case atStart => exact ⟨0, by omega, rfl, rfl⟩
  case round =>
    obtain ⟨k, hk, rfl, hv⟩ := hrel
    have hV := Lib.hid hv
    clear hv
    by_cases hlt : k < n
    · obtain ⟨b1, off, a2, n2, c2, rfl, hc, hi⟩ := h.cell hlt
      have hl : k < f.length := by rw [h.len]; exact hlt
      have hst := Lib.hid (show hasB (f.take (k + 1)) s = subB (f.getD k []) s from by rw [hasB_step f s k hl, hV.out]; rfl)
      go_wp2_with fail
      refine (l1Subset_any hi hs).mono ?_; rintro e w_ ⟨rfl, rfl⟩
      cases ht : subB (f.getD k []) s
      · go_wp2_with fail
        go_round
        case rel => exact ⟨k + 1, by omega, by go_num, by rw [hst.out]; exact ht⟩
        case measure => simp [intOf]; omega
      · have hin := Lib.hid (show hasB f s = true from hasB_take (k := k + 1) (by rw [hst.out]; exact ht))
        go_wp2_with fail
        go_ret
        exact ⟨by rw [hin.out]; rfl, rfl⟩
    · obtain rfl : k = n := by omega
      have hfin := Lib.hid (show f.take k = f from List.take_of_length_le (by rw [h.len]; omega))
      go_wp2_with fail
      go_ret
      have hv := hV.out
      rw [hfin.out] at hv
      exact ⟨by rw [hv]; rfl, rfl⟩

theorem mem_take_getD {f : List (List Int)} {j k : Nat} (hj : j < k) (hk : j < f.length) : f.getD j [] ∈ f.take k := by
  rw [List.mem_take_iff_getElem]
  exact ⟨j, by omega, by simp [List.getD, hk]⟩
theorem take_mem_cases {f : List (List Int)} {k : Nat} (hk : k < f.length) {x : List Int} (hx : x ∈ f.take (k + 1)) : x ∈ f.take k ∨ x = f.getD k [] := by
  rw [snoc_take f [] k hk, List.mem_append, List.mem_singleton] at hx; exact hx
theorem famB_no {f : List (List Int)} {k : Nat} (hk : k < f.length) (h : fstep (f.take k) (f.getD k []) = false) : famB f = false := by
  unfold famB; rw [fvp_no hk h]; rfl
theorem len_mask {s : List Int} {n : Nat} (hl : s.length = n) (hv : valid s = true) : mask s = 0 ↔ n = 0 := by
  constructor
  · intro h; rw [mask_zero hv h] at hl; exact hl.symm
  · intro h; rw [h] at hl; rw [List.length_eq_zero_iff.1 hl]; rfl

theorem l1Subset_is {a : Option Addr} {n cp : Nat} {xs : List Int} {b : Option Addr} {m cq : Nat} {ys : List Int} {w : World} {q : Bool} (h : Ints w a n xs) (hy : Ints w b m ys) (hq : subB xs ys = q) :
    Calls Try.prog 37 #[.slice a n cp, .slice b m cq] w fun e w' => e = .returned (.bool q) ∧ w = w' := by
  rw [← hq]; exact l1Subset_any h hy
theorem retB {b c : Bool} (h : b = c) : Ending.returned (Value.bool c) = Ending.returned (Value.bool b) := by rw [h]

set_option maxHeartbeats 4000000 in
theorem sFamilyValid_any {a : Option Addr} {n cp : Nat} {f : List (List Int)} {w : World} (h : Fam w a n f) :
    Calls Try.prog 12 #[.slice a n cp] w fun e w' => e = .returned (.bool (famB f)) ∧ Dr w w' := by
  have hm := h.max
  go_enter Try.func12, Try.ntmps12
  go_wp2_with fail
  go_loopw [3] (fun i wr => ∃ k : Nat, k ≤ n ∧ i = .int .i64 k ∧ fvp (f.take k) = true ∧ Dr w wr)
    (fun i _ => n - (intOf i).toNat)
  case atStart => exact ⟨0, by omega, rfl, rfl, Dr.refl _⟩
  case round =>
    obtain ⟨k, hk, rfl, hv, hd⟩ := hrel
    have hV := Lib.hid hv
    clear hv
    have h9 := h
    replace h := h.ext hd.ext
    by_cases hlt : k < n
    · have hl : k < f.length := by rw [h.len]; exact hlt
      have hltI : (k : Int) < (n : Int) := by omega
      obtain ⟨b1, off, a2, n2, c2, rfl, hc, hi⟩ := h.cell hlt
      have hlen := hi.len
      have hm2 := hi.max
      obtain ⟨s, hs⟩ : ∃ s, s = f.getD k [] := ⟨_, rfl⟩
      rw [← hs] at hi hlen
      have HS := Lib.hid hs
      clear hs
      cases hvs : valid s
      · have hno := Lib.hid (famB_no hl (by rw [← HS.out]; exact fstep_inv hvs))
        go_wp2_with fail
        go_quiet ((go_at_call 35; exact quietR (sSetValid_any (hi.ext (Ext.draws _ _ _)))))
        go_wp2_with fail
        go_ret
        exact ⟨retB hno.out, hd.drewN _⟩
      · have hlm := Lib.hid (len_mask hlen hvs)
        by_cases h0 : n2 = 0
        · have hno := Lib.hid (famB_no hl (by rw [← HS.out]; exact fstep_zero (hlm.out.2 h0)))
          subst h0
          go_wp2_with fail
          go_quiet ((go_at_call 35; exact quietR (sSetValid_any (hi.ext (Ext.draws _ _ _)))))
          go_wp2_with fail
          go_ret
          exact ⟨retB hno.out, hd.drewN _⟩
        · have hb : ((n2 : Int) == 0) = false := by rw [beq_eq_false_iff_ne]; omega
          have hpos := Lib.hid (show mask s ≠ 0 from fun e => h0 (hlm.out.1 e))
          by_cases hk0 : 0 < k
          · obtain ⟨a3, n3, c3, hc3, hi3⟩ := h.cellAt (k := k - 1) (by omega)
            obtain ⟨p, hp⟩ : ∃ p, p = f.getD (k - 1) [] := ⟨_, rfl⟩
            have hvp : valid p = true := by
              rw [hp]
              have := fvp_valid hV.out (k := k - 1) (by rw [List.length_take]; omega)
              rwa [getD_take _ _ _ _ (by omega)] at this
            have hpm := Lib.hid (show p ∈ f.take k from by rw [hp]; exact mem_take_getD (by omega) (by omega))
            rw [← hp] at hi3
            have HP := Lib.hid hp
            clear hp
            have hlp := mask_lt hvp
            have hls := mask_lt hvs
            have hI : (0 : Int) < (k : Int) := by omega
            by_cases hle : mask s ≤ mask p
            · have hno := Lib.hid (famB_no hl (by rw [← HS.out]; exact fstep_bad hpm.out (.inl hle)))
              have hleI : (mask s : Int) ≤ (mask p : Int) := by omega
              go_wp2_with fail
              go_quiet (first
                | (go_at_call 35; exact quietR (sSetValid_any (hi.ext (Ext.draws _ _ _))))
                | (go_at_call 36; exact quietS (l1Mask_any (hi3.ext (Ext.draws _ _ _)) hvp))
                | (go_at_call 36; exact quietS (l1Mask_any (hi.ext (Ext.draws _ _ _)) hvs)))
              go_wp2_with fail
              go_ret
              exact ⟨retB hno.out, hd.drewN _⟩
            · have hno := Lib.hid (show mask (f.getD (k - 1) []) < mask s from by rw [← HP.out]; omega)
              have hleI : ¬ (mask s : Int) ≤ (mask p : Int) := by omega
              go_wp2_with fail
              go_quiet (first
                | (go_at_call 35; exact quietR (sSetValid_any (hi.ext (Ext.draws _ _ _))))
                | (go_at_call 36; exact quietS (l1Mask_any (hi3.ext (Ext.draws _ _ _)) hvp))
                | (go_at_call 36; exact quietS (l1Mask_any (hi.ext (Ext.draws _ _ _)) hvs)))
              go_wp2_with fail
              have hok : (∀ x ∈ f.take k, sub (mask x) (mask s) = false) → fvp (f.take (k + 1)) = true := fun hall => by
                obtain ⟨j, rfl⟩ : ∃ j, k = j + 1 := ⟨k - 1, by omega⟩
                rw [fvp_step f _ hl, hV.out, ← HS.out, fstep_of (by omega) hV.out hvs hpos.out hno.out hall]; rfl
              have HOK := Lib.hid hok
              clear hok
              go_loopw [4] (fun i wr2 => ∃ j : Nat, j ≤ k ∧ i = .int .i64 j ∧ (∀ x ∈ f.take j, sub (mask x) (mask s) = false) ∧ Dr w wr2)
                (fun i _ => k - (intOf i).toNat)
              case atStart => exact ⟨0, by omega, rfl, fun x hx => by simp at hx, hd.drewN _⟩
              case round =>
                obtain ⟨j, hj, rfl, hall, hd2⟩ := hrel
                have HALL := Lib.hid hall
                clear hall
                have h3 := h9.ext hd2.ext
                obtain ⟨a4, n4, c4, hc4, hi4⟩ := h3.cellAt hlt
                by_cases hjk : j < k
                · have hjI : (j : Int) < (n : Int) := by omega
                  obtain ⟨a5, n5, c5, hc5, hi5⟩ := h3.cellAt (k := j) (by omega)
                  rw [← HS.out] at hi4
                  obtain ⟨p5, hp5⟩ : ∃ p, p = f.getD j [] := ⟨_, rfl⟩
                  have hv5 : valid p5 = true := by
                    rw [hp5]
                    have := fvp_valid hV.out (k := j) (by rw [List.length_take]; omega)
                    rwa [getD_take _ _ _ _ (by omega)] at this
                  have hpm5 := Lib.hid (show p5 ∈ f.take k from by rw [hp5]; exact mem_take_getD (by omega) (by omega))
                  rw [← hp5] at hi5
                  have HP5 := Lib.hid hp5
                  clear hp5
                  cases hs1 : subB p5 s
                  · cases hs2 : subB s p5
                    · have hnx := Lib.hid (show ∀ x ∈ f.take (j + 1), sub (mask x) (mask s) = false from fun x hx => by
                        rcases take_mem_cases (by omega) hx with hx | hx
                        · exact HALL.out x hx
                        · rw [hx, ← HP5.out, ← subB_valid hv5 hvs]; exact hs1)
                      go_wp2_with fail
                      go_quiet (first
                        | (go_at_call 37; exact quietS (l1Subset_is (hi5.ext (Ext.draws _ _ _)) (hi4.ext (Ext.draws _ _ _)) hs1))
                        | (go_at_call 37; exact quietS (l1Subset_is (hi4.ext (Ext.draws _ _ _)) (hi5.ext (Ext.draws _ _ _)) hs2)))
                      go_wp2_with fail
                      go_roundw
                      case rel => exact ⟨j + 1, by omega, by go_num, hnx.out, hd2.drewN _⟩
                      case measure => simp [intOf]; omega
                    · have hno := Lib.hid (famB_no hl (by rw [← HS.out]; exact fstep_bad hpm5.out (.inl (sub_le (by rw [← subB_valid hvs hv5]; exact hs2)))))
                      go_wp2_with fail
                      go_quiet (first
                        | (go_at_call 37; exact quietS (l1Subset_is (hi5.ext (Ext.draws _ _ _)) (hi4.ext (Ext.draws _ _ _)) hs1))
                        | (go_at_call 37; exact quietS (l1Subset_is (hi4.ext (Ext.draws _ _ _)) (hi5.ext (Ext.draws _ _ _)) hs2)))
                      go_wp2_with fail
                      go_ret
                      exact ⟨retB hno.out, hd2.drewN _⟩
                  · have hno := Lib.hid (famB_no hl (by rw [← HS.out]; exact fstep_bad hpm5.out (.inr (by rw [← subB_valid hv5 hvs]; exact hs1))))
                    go_wp2_with fail
                    go_quiet ((go_at_call 37; exact quietS (l1Subset_is (hi5.ext (Ext.draws _ _ _)) (hi4.ext (Ext.draws _ _ _)) hs1)))
                    go_wp2_with fail
                    go_ret
                    exact ⟨retB hno.out, hd2.drewN _⟩
                · obtain rfl : j = k := by omega
                  have hok := Lib.hid (HOK.out HALL.out)
                  go_wp2_with fail
                  go_roundw
                  case rel => exact ⟨j + 1, by omega, by go_num, hok.out, hd2⟩
                  case measure => simp [intOf]; omega
          · have hok : (∀ x ∈ f.take k, sub (mask x) (mask s) = false) → fvp (f.take (k + 1)) = true := fun hall => by
              have e : k = 0 := by omega
              rw [fvp_step f _ hl, hV.out, ← HS.out, e, List.take_zero, fstep_first hvs hpos.out]; rfl
            have HOK := Lib.hid hok
            clear hok
            go_wp2_with fail
            go_quiet ((go_at_call 35; exact quietR (sSetValid_any (hi.ext (Ext.draws _ _ _)))))
            go_wp2_with fail
            go_loopw [4] (fun i wr2 => ∃ j : Nat, j ≤ k ∧ i = .int .i64 j ∧ (∀ x ∈ f.take j, sub (mask x) (mask s) = false) ∧ Dr w wr2)
              (fun i _ => k - (intOf i).toNat)
            case atStart => exact ⟨0, by omega, rfl, fun x hx => by simp at hx, hd.drewN _⟩
            case round =>
              obtain ⟨j, hj, rfl, hall, hd2⟩ := hrel
              have HALL := Lib.hid hall
              clear hall
              have h3 := h9.ext hd2.ext
              obtain ⟨a4, n4, c4, hc4, hi4⟩ := h3.cellAt hlt
              by_cases hjk : j < k
              · have hjI : (j : Int) < (n : Int) := by omega
                obtain ⟨a5, n5, c5, hc5, hi5⟩ := h3.cellAt (k := j) (by omega)
                rw [← HS.out] at hi4
                obtain ⟨p5, hp5⟩ : ∃ p, p = f.getD j [] := ⟨_, rfl⟩
                have hv5 : valid p5 = true := by
                  rw [hp5]
                  have := fvp_valid hV.out (k := j) (by rw [List.length_take]; omega)
                  rwa [getD_take _ _ _ _ (by omega)] at this
                have hpm5 := Lib.hid (show p5 ∈ f.take k from by rw [hp5]; exact mem_take_getD (by omega) (by omega))
                rw [← hp5] at hi5
                have HP5 := Lib.hid hp5
                clear hp5
                cases hs1 : subB p5 s
                · cases hs2 : subB s p5
                  · have hnx := Lib.hid (show ∀ x ∈ f.take (j + 1), sub (mask x) (mask s) = false from fun x hx => by
                      rcases take_mem_cases (by omega) hx with hx | hx
                      · exact HALL.out x hx
                      · rw [hx, ← HP5.out, ← subB_valid hv5 hvs]; exact hs1)
                    go_wp2_with fail
                    go_quiet (first
                      | (go_at_call 37; exact quietS (l1Subset_is (hi5.ext (Ext.draws _ _ _)) (hi4.ext (Ext.draws _ _ _)) hs1))
                      | (go_at_call 37; exact quietS (l1Subset_is (hi4.ext (Ext.draws _ _ _)) (hi5.ext (Ext.draws _ _ _)) hs2)))
                    go_wp2_with fail
                    go_roundw
                    case rel => exact ⟨j + 1, by omega, by go_num, hnx.out, hd2.drewN _⟩
                    case measure => simp [intOf]; omega
                  · have hno := Lib.hid (famB_no hl (by rw [← HS.out]; exact fstep_bad hpm5.out (.inl (sub_le (by rw [← subB_valid hvs hv5]; exact hs2)))))
                    go_wp2_with fail
                    go_quiet (first
                      | (go_at_call 37; exact quietS (l1Subset_is (hi5.ext (Ext.draws _ _ _)) (hi4.ext (Ext.draws _ _ _)) hs1))
                      | (go_at_call 37; exact quietS (l1Subset_is (hi4.ext (Ext.draws _ _ _)) (hi5.ext (Ext.draws _ _ _)) hs2)))
                    go_wp2_with fail
                    go_ret
                    exact ⟨retB hno.out, hd2.drewN _⟩
                · have hno := Lib.hid (famB_no hl (by rw [← HS.out]; exact fstep_bad hpm5.out (.inr (by rw [← subB_valid hv5 hvs]; exact hs1))))
                  go_wp2_with fail
                  go_quiet ((go_at_call 37; exact quietS (l1Subset_is (hi5.ext (Ext.draws _ _ _)) (hi4.ext (Ext.draws _ _ _)) hs1)))
                  go_wp2_with fail
                  go_ret
                  exact ⟨retB hno.out, hd2.drewN _⟩
              · obtain rfl : j = k := by omega
                have hok := Lib.hid (HOK.out HALL.out)
                go_wp2_with fail
                go_roundw
                case rel => exact ⟨j + 1, by omega, by go_num, hok.out, hd2⟩
                case measure => simp [intOf]; omega
    · obtain rfl : k = n := by omega
      have hfin := Lib.hid (show f.take k = f from List.take_of_length_le (by rw [h.len]; omega))
      have hl := h.len
      have hv := hV.out
      rw [hfin.out] at hv
      have HF := Lib.hid (show famB f = decide ((k : Int) ≤ 20) from by unfold famB; rw [hv, hl, Bool.true_and, Bool.eq_iff_iff]; simp only [decide_eq_true_eq]; omega)
      clear hv
      go_wp2_with fail
      go_ret
      exact ⟨retB HF.out, hd⟩


theorem l3Has_is {a : Option Addr} {n cp : Nat} {f : List (List Int)} {b : Option Addr} {m cq : Nat} {s : List Int} {w : World} {q : Bool} (h : Fam w a n f) (hs : Ints w b m s) (hq : hasB f s = q) :
    Calls Try.prog 94 #[.slice a n cp, .slice b m cq] w fun e w' => e = .returned (.bool q) ∧ w = w' := by
  rw [← hq]; exact l3Has_any h hs
theorem lessTo_zero (f : List (List Int)) (c : Nat) : lessTo f c 0 = hasB f (mem c) := by unfold lessTo; simp
theorem lessTo_no {f : List (List Int)} {c j k : Nat} (h : lessTo f c j = false) (hjk : j ≤ k) : lessTo f c k = false := by
  induction k with
  | zero => obtain rfl : j = 0 := by omega
            exact h
  | succ k ih =>
    by_cases e : j = k + 1
    · rw [← e]; exact h
    · rw [lessTo_succ, ih (by omega)]; rfl
theorem take_len_mem (c : Nat) : (mem c).length ≤ 6 := mem_len
theorem Ints.part {w : World} {b off n m i : Nat} {xs : List Int} {a : Option Addr} (h : Ints w (some ⟨b, off, none⟩) n xs) (him : i + m ≤ n) (ha : a = some ⟨b, off + i, none⟩ ∨ m = 0) : Ints w a m ((xs.drop i).take m) := by
  have := At.part h him ha
  unfold Ints
  rw [← List.map_drop, ← List.map_take] at this
  exact this

set_option maxHeartbeats 4000000 in
theorem l3Minimize_any {a : Option Addr} {n cp : Nat} {f : List (List Int)} {w : World} (h : Fam w a n f) :
    Calls Try.prog 65 #[.slice a n cp] w (RF w (minL f)) := by
  go_enter Try.func65, Try.ntmps65
  go_wp2_with fail
  go_loopw [3, 4] (fun q i wr => ∃ (k : Nat) (a2 : Option Addr) (n2 c2 : Nat), k ≤ 64 ∧ i = .int .i64 k ∧ q = .slice a2 n2 c2 ∧ OwnF wr w.heap.size w.heap.size a2 n2 c2 (minTo f k) ∧ Ext none w wr)
    (fun _ i _ => 64 - (intOf i).toNat)
  case atStart => exact ⟨0, _, _, _, by omega, rfl, rfl, OwnF.made w _, (Ext.refl _ _).alloc _⟩
  case round =>
    obtain ⟨k, a2, n2, c2, hk, rfl, rfl, ho, he⟩ := hrel
    have h1 := h.ext he
    by_cases hlt : k < 64
    · have hltI : (k : Int) < 64 := by omega
      go_wp2_with fail
      refine (l1Masks_any).mono ?_; rintro e w_ ⟨rfl, rfl⟩
      go_wp2_with fail
      refine (l1OfMask_any hlt).mono ?_; rintro e w1 ⟨a3, n3, c3, rfl, o3, e3⟩
      have hn3 : n3 ≤ 6 := by rw [← o3.len]; exact mem_len
      go_wp2_with fail
      refine (l3Has_any (h1.ext e3) o3.ints).mono ?_; rintro e w_ ⟨rfl, rfl⟩
      go_wp2_with fail
      have he1 := Lib.hid (he.trans e3)
      have hn2 : n2 ≤ 64 := by rw [← ho.len]; exact Nat.le_trans (minTo_len f k) hk
      have ho1 := ho.ext0 e3
      have hcap := o3.cap
      have i3 := o3.ints
      have hrow := Lib.hid (o3.row (r := (Value.slice a2 n2 c2).ownBlock) (R := w.heap.size) (fun j hj => ho.blockLt j hj) he.size)
      have h1' := Lib.hid (h1.ext e3)
      have hl3 := o3.len
      have HL3 := Lib.hid hl3
      clear ho hl3 o3 e3 h1
      have hz := lessTo_zero f k
      rw [← hz]
      clear hz
      go_loopw [6, 7] (fun m i wr2 => ∃ j : Nat, j ≤ n3 ∧ i = .int .i64 j ∧ m = .bool (lessTo f k j) ∧ Ext none w1 wr2)
        (fun _ i _ => n3 - (intOf i).toNat)
      case atStart => exact ⟨0, by omega, rfl, rfl, Ext.refl _ _⟩
      case round =>
        obtain ⟨j, hj, rfl, rfl, hx⟩ := hrel
        have i4 := i3.ext hx
        have hstep := Lib.hid (lessTo_succ f k j)
        have hbig := Lib.hid hx.size
        cases hq : lessTo f k j
        · have hno := Lib.hid (show isMin (fun c => hasB f (mem c)) k = false from by rw [← lessTo_min f k hlt]; exact lessTo_no hq (by rw [HL3.out]; exact hj))
          by_cases hjn : j < n3
          all_goals
            go_wp2_with fail
            go_roundw
            case rel => exact ⟨k + 1, a2, n2, c2, by omega, by go_num, rfl, by rw [minTo_succ, hno.out]; exact ho1.ext0 hx, he1.out.trans hx⟩
            case measure => simp [intOf]; omega
        · by_cases hjn : j < n3
          · have hjnI : (j : Int) < (n3 : Int) := by omega
            have hj6 : j ≤ 5 := by omega
            obtain ⟨b, off, rfl⟩ : ∃ b off, a3 = some ⟨b, off, none⟩ := by obtain ⟨b, off, e, _⟩ := i4.cell hjn; exact ⟨b, off, e⟩
            go_wp2_with fail
            have hw := show IntKind.i64.wrap ((j : Int) + 1) = ((j + 1 : Nat) : Int) from by rw [IntWalk.i64_in _ (by omega)]; omega
            have hjc : j ≤ c3 := by omega
            have hj1 : j + 1 ≤ n3 := hjn
            have hnc := hcap.1
            have hj1I : (j : Int) + 1 ≤ (n3 : Int) := by omega
            have hj0I : (0 : Int) ≤ (j : Int) + 1 := by omega
            have hjT : ((j : Int) + 1).toNat = j + 1 := by omega
            obtain ⟨A, hA, hA2⟩ : ∃ A, (if c3 = j + 1 then some (⟨b, off, none⟩ : Addr) else some ⟨b, off + (j + 1), none⟩) = some A ∧ (some A = some (⟨b, off + (j + 1), none⟩ : Addr) ∨ n3 - (j + 1) = 0) := by
              by_cases e : c3 = j + 1
              · exact ⟨_, if_pos e, .inr (by omega)⟩
              · exact ⟨_, if_neg e, .inl rfl⟩
            have hA2 := Lib.hid hA2
            have hs1 : ∀ W, Ext none wr W → Ints W (some ⟨b, off, none⟩) j ((mem k).take j) := fun W hW => by
              have := (i4.ext hW).part (i := 0) (m := j) (a := some ⟨b, off, none⟩) (by omega) (.inl rfl)
              simpa using this
            have hs2 : ∀ W, Ext none wr W → Ints W (some A) (n3 - (j + 1)) ((mem k).drop (j + 1)) := fun W hW => by
              have := (i4.ext hW).part (i := j + 1) (m := n3 - (j + 1)) (a := some A) (by omega) hA2.out
              rwa [List.take_of_length_le (by rw [List.length_drop, HL3.out]; exact Nat.le_refl _)] at this
            have HS1 := Lib.hid hs1
            have HS2 := Lib.hid hs2
            clear hs1 hs2
            go_region_law (first
              | (refine step_ints rfl (.tmp 29) (.tmp 32) rfl wr.heap.size (some ⟨wr.heap.size, 0, none⟩) 0 0 [] rfl ((OwnI.made wr).ext0 ((Ext.refl none _).drew)) ⟨b, off, none⟩ j c3 _ rfl (HS1.out _ (((Ext.refl none wr).alloc _).drew)) (by omega) (by simp) ?_; intro a5 c5 w5 ho5 hg5; have he5 := (((Ext.refl none wr).alloc (.cells #[] 3)).drew).grown hg5 (fun j hj => .inl (by cases hj; exact Nat.le_refl _)); simp only [Nat.zero_add, List.nil_append] at ho5; have HE5 := Lib.hid he5; clear hg5 he5)
              | (refine step_ints rfl (.tmp 33) (.tmp 37) rfl wr.heap.size a5 j c5 _ rfl ho5 A (n3 - (j + 1)) _ _ rfl (HS2.out _ HE5.out) (by omega) HE5.out.size ?_; intro a6 c6 w6 ho6 hg6))
            have he6 := Lib.hid (HE5.out.grown hg6 (fun q hq => .inl (ho5.block q hq)))
            have i6 := ho6.ints
            have hE := Lib.hid (show (mem k).take j ++ (mem k).drop (j + 1) = (mem k).eraseIdx j from (List.eraseIdx_eq_take_drop_succ ..).symm)
            rw [hE.out] at i6
            have hs9 := Lib.hid (show lessTo f k (j + 1) = !hasB f ((mem k).eraseIdx j) from by rw [hstep.out, hq]; rfl)
            clear ho5 ho6 hg6 hA hw hj1I hj0I hjT
            go_wp2_with fail
            refine (l3Has_any ((h1'.out.ext hx).ext he6.out) i6).mono ?_; rintro e w_ ⟨rfl, rfl⟩
            go_wp2_with fail
            go_roundw
            case rel => exact ⟨j + 1, by omega, by go_num, by rw [hs9.out], hx.trans he6.out⟩
            case measure => simp [intOf]; omega
          · obtain rfl : j = n3 := by omega
            have hyes := Lib.hid (show minTo f (k + 1) = minTo f k ++ [mem k] from by rw [minTo_succ, ← lessTo_min f k hlt, HL3.out, hq, if_pos rfl])
            have ho2 := ho1.ext0 hx
            have hr2 := hrow.out.ext hx
            go_wp2_with (at_builtin; refine app_row _ rfl _ _ rfl w.heap.size w.heap.size a2 n2 c2 _ ho2 a3 j c3 _ hr2 rfl rfl (by omega) (he1.out.trans hx).size ?_; intro g c' w9 ho9 hg9)
            go_roundw
            case rel => exact ⟨k + 1, _, _, _, by omega, by go_num, rfl, by rw [hyes.out]; exact ho9, (he1.out.trans hx).grown hg9 (fun q hq => .inl (ho2.block q hq))⟩
            case measure => simp [intOf]; omega
    · obtain rfl : k = 64 := by omega
      go_wp2_with fail
      refine (l1Masks_any).mono ?_; rintro e w_ ⟨rfl, rfl⟩
      go_wp2_with fail
      go_ret
      exact ⟨a2, n2, c2, rfl, ho, he⟩


theorem sSetValid_is {a : Option Addr} {n cp : Nat} {xs : List Int} {w : World} {q : Bool} (h : Ints w a n xs) (hq : valid xs = q) :
    Calls Try.prog 35 #[.slice a n cp] w fun e w' => e = .returned (.bool q) ∧ Dr w w' := by
  rw [← hq]; exact sSetValid_any h
theorem sFamilyValid_is {a : Option Addr} {n cp : Nat} {f : List (List Int)} {w : World} {q : Bool} (h : Fam w a n f) (hq : famB f = q) :
    Calls Try.prog 12 #[.slice a n cp] w fun e w' => e = .returned (.bool q) ∧ Dr w w' := by
  rw [← hq]; exact sFamilyValid_any h

theorem critL_yes {f : List (List Int)} (h : famB f = true) (hn : 0 < f.length) : critL f = mem (allOf (masks f)) := by
  unfold critL
  have : f ≠ [] := by rintro rfl; simp at hn
  rw [h, decide_eq_true this]; rfl
theorem allOf_step (f : List (List Int)) (k : Nat) (h : k < f.length) : allOf (masks (f.take (k + 1))) = allOf (masks (f.take k)) &&& mask (f.getD k []) := by
  rw [snoc_take f [] k h, masks_app]; exact allOf_snoc _ _
theorem and63 (x : Nat) (h : x < 64) : 63 &&& x = x := by
  have key : ∀ x < 64, 63 &&& x = x := by decide +kernel
  exact key x h

theorem okM_bad {f : List (List Int)} {k : Nat} (hk : k < f.length) (h : valid (f.getD k []) = false ∨ mask (f.getD k []) = 0) : okM f = false := by
  cases ho : okM f
  · rfl
  · have := okM_valid ho _ (getD_mem hk)
    rcases h with h | h
    · rw [this.1] at h; cases h
    · exact absurd h this.2
theorem minimizeL_no {f : List (List Int)} (h : okM f = false) : minimizeL f = [] := by unfold minimizeL; rw [h]; rfl

end Go.Proofs.Ytnifgfnhcjhodaa
