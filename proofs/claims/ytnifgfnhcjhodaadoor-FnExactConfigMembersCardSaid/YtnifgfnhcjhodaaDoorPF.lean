/- XPF: several texts in one. Conditions: each lemma's own. -/
import Derived.Test.YtnifgfnhcjhodaaDoorS2
import Derived.Test.YtnifgfnhcjhodaaDoorPN
import Derived.Test.YtnifgfnhcjhodaaDoorPW



namespace Go.Proofs.YtnifgfnhcjhodaaDoor
open Go.RowKit
set_option linter.unusedVariables false

theorem bit_pow (j : Nat) : bit ((j : Int) + 1) = 2 ^ j := bit_two _ j rfl
theorem pow_le6 (j k : Nat) (h : j ≤ k) (hk : k ≤ 5) : 1 ≤ 2 ^ j ∧ 2 ^ j ≤ 32 := by
  have : j = 0 ∨ j = 1 ∨ j = 2 ∨ j = 3 ∨ j = 4 ∨ j = 5 := by omega
  rcases this with rfl | rfl | rfl | rfl | rfl | rfl <;> decide

set_option maxHeartbeats 1000000 in
theorem l1Mask_any {a : Option Addr} {n cp : Nat} {xs : List Int} {w : World} (h : Ints w a n xs) (hv : valid xs = true) :
    Calls Tryd.prog 35 #[.slice a n cp] w fun e w' => e = .returned (.int .i64 (mask xs : Nat)) ∧ w = w' := by
  have hfin := Lib.hid (sumB_valid hv)
  have HV := Lib.hid hv
  have hn6 := valid_len hv
  rw [h.len] at hn6
  clear hv
  go_enter Tryd.func35, Tryd.ntmps35
  go_wp2_with fail
  go_loop [3, 4] (fun q i => ∃ k : Nat, k ≤ n ∧ i = .int .i64 ((k : Int) - 1) ∧ q = .int .i64 (sumB (xs.drop k) : Nat))
    (fun _ i => ((intOf i) + 1).toNat)
  case atStart => exact ⟨n, by omega, by go_num, by rw [List.drop_of_length_le (by rw [h.len]; exact Nat.le_refl _)]; rfl⟩
  case round =>
    obtain ⟨k, hk, rfl, rfl⟩ := hrel
    by_cases h0 : 0 < k
    · obtain ⟨j, rfl⟩ : ∃ j, k = j + 1 := ⟨k - 1, by omega⟩
      obtain ⟨b, off, rfl, hc⟩ := h.cell (k := j) (by omega)
      have hl : j < xs.length := by rw [h.len]; omega
      have hst := Lib.hid (sumB_drop xs j hl)
      have hg := valid_get HV.out j hl
      have hle := sumB_le xs HV.out (j + 1)
      obtain ⟨x, hxx⟩ : ∃ x, x = xs.getD j 0 := ⟨_, rfl⟩
      rw [← hxx] at hc hg
      have HX := Lib.hid hxx
      clear hxx
      obtain ⟨q, hqq⟩ : ∃ q, q = sumB (xs.drop (j + 1)) := ⟨_, rfl⟩
      rw [← hqq] at hle ⊢
      have HQ := Lib.hid hqq
      clear hqq
      obtain ⟨t, ht⟩ := Int.eq_ofNat_of_zero_le (show 0 ≤ x - 1 by omega)
      obtain rfl : x = (t : Int) + 1 := by omega
      clear ht
      have ht5 : t ≤ 5 := by omega
      have ej : ((j + 1 : Nat) : Int) - 1 = (j : Int) := by omega
      rw [ej]
      clear ej
      go_wp2_with fail
      go_loop [5, 6] (fun p i => ∃ r : Nat, r ≤ t ∧ i = .int .i64 ((r : Int) + 1) ∧ p = .int .i64 (2 ^ r : Nat))
        (fun _ i => 10 - (intOf i).toNat)
      case atStart => exact ⟨0, by omega, by go_num, rfl⟩
      case round =>
        obtain ⟨r, hr, rfl, rfl⟩ := hrel
        obtain ⟨p, hp⟩ : ∃ p, p = 2 ^ r := ⟨_, rfl⟩
        have hp2 := pow_le6 r t hr ht5
        rw [← hp] at hp2 ⊢
        have HP := Lib.hid hp
        clear hp
        by_cases hlt : r < t
        · go_wp2_with fail
          go_round
          case rel => exact ⟨r + 1, by omega, by go_num, by rw [Nat.pow_succ, ← HP.out]; go_num⟩
          case measure => simp [intOf]; omega
        · obtain rfl : r = t := by omega
          have hend := Lib.hid (show sumB (xs.drop j) = p + q from by rw [hst.out, ← HQ.out, ← HX.out, bit_pow, HP.out])
          go_wp2_with fail
          go_round
          case rel => exact ⟨j, by omega, by go_num, by rw [hend.out]; go_num⟩
          case measure => simp [intOf]
    · obtain rfl : k = 0 := by omega
      have hend := Lib.hid (show sumB (xs.drop 0) = mask xs from by rw [List.drop_zero]; exact hfin.out)
      go_wp2_with fail
      go_ret
      exact ⟨by rw [← hend.out]; rfl, rfl⟩

theorem mem_take_getD {f : List (List Int)} {j k : Nat} (hj : j < k) (hk : j < f.length) : f.getD j [] ∈ f.take k := by
  rw [List.mem_take_iff_getElem]
  exact ⟨j, by omega, by simp [List.getD, hk]⟩
theorem take_mem_cases {f : List (List Int)} {k : Nat} (hk : k < f.length) {x : List Int} (hx : x ∈ f.take (k + 1)) : x ∈ f.take k ∨ x = f.getD k [] := by
  rw [snoc_take f [] k hk, List.mem_append, List.mem_singleton] at hx; exact hx
theorem famB_no {f : List (List Int)} {k : Nat} (hk : k < f.length) (h : fstep (f.take k) (f.getD k []) = false) : famB f = false := by
  unfold famB; rw [fvp_no hk h]; rfl
theorem len_mask {s : List Int} {n : Nat} (hl : s.length = n) (hv : valid s = true) : mask s = 0 ↔ n = 0 := by
  constructor
  · intro h; rw [mask_zero hv h] at hl; exact hl.symm
  · intro h; rw [h] at hl; rw [List.length_eq_zero_iff.1 hl]; rfl

theorem l1Subset_is {a : Option Addr} {n cp : Nat} {xs : List Int} {b : Option Addr} {m cq : Nat} {ys : List Int} {w : World} {q : Bool} (h : Ints w a n xs) (hy : Ints w b m ys) (hq : subB xs ys = q) :
    Calls Tryd.prog 36 #[.slice a n cp, .slice b m cq] w fun e w' => e = .returned (.bool q) ∧ w = w' := by
  rw [← hq]; exact l1Subset_any h hy
theorem retB {b c : Bool} (h : b = c) : Ending.returned (Value.bool c) = Ending.returned (Value.bool b) := by rw [h]

set_option maxHeartbeats 4000000 in
theorem sFamilyValid_any {a : Option Addr} {n cp : Nat} {f : List (List Int)} {w : World} (h : Fam w a n f) :
    Calls Tryd.prog 24 #[.slice a n cp] w fun e w' => e = .returned (.bool (famB f)) ∧ Dr w w' := by
  have hm := h.max
  go_enter Tryd.func24, Tryd.ntmps24
  go_wp2_with fail
  go_loopw [3] (fun i wr => ∃ k : Nat, k ≤ n ∧ i = .int .i64 k ∧ fvp (f.take k) = true ∧ Dr w wr)
    (fun i _ => n - (intOf i).toNat)
  case atStart => exact ⟨0, by omega, rfl, rfl, Dr.refl _⟩
  case round =>
    obtain ⟨k, hk, rfl, hv, hd⟩ := hrel
    have hV := Lib.hid hv
    clear hv
    have h9 := h
    replace h := h.ext hd.ext
    by_cases hlt : k < n
    · have hl : k < f.length := by rw [h.len]; exact hlt
      have hltI : (k : Int) < (n : Int) := by omega
      obtain ⟨b1, off, a2, n2, c2, rfl, hc, hi⟩ := h.cell hlt
      have hlen := hi.len
      have hm2 := hi.max
      obtain ⟨s, hs⟩ : ∃ s, s = f.getD k [] := ⟨_, rfl⟩
      rw [← hs] at hi hlen
      have HS := Lib.hid hs
      clear hs
      cases hvs : valid s
      · have hno := Lib.hid (famB_no hl (by rw [← HS.out]; exact fstep_inv hvs))
        go_wp2_with fail
        go_quiet ((go_at_call 34; exact quietR (sSetValid_any (hi.ext (Ext.draws _ _ _)))))
        go_wp2_with fail
        go_ret
        exact ⟨retB hno.out, hd.drewN _⟩
      · have hlm := Lib.hid (len_mask hlen hvs)
        by_cases h0 : n2 = 0
        · have hno := Lib.hid (famB_no hl (by rw [← HS.out]; exact fstep_zero (hlm.out.2 h0)))
          subst h0
          go_wp2_with fail
          go_quiet ((go_at_call 34; exact quietR (sSetValid_any (hi.ext (Ext.draws _ _ _)))))
          go_wp2_with fail
          go_ret
          exact ⟨retB hno.out, hd.drewN _⟩
        · have hb : ((n2 : Int) == 0) = false := by rw [beq_eq_false_iff_ne]; omega
          have hpos := Lib.hid (show mask s ≠ 0 from fun e => h0 (hlm.out.1 e))
          by_cases hk0 : 0 < k
          · obtain ⟨a3, n3, c3, hc3, hi3⟩ := h.cellAt (k := k - 1) (by omega)
            obtain ⟨p, hp⟩ : ∃ p, p = f.getD (k - 1) [] := ⟨_, rfl⟩
            have hvp : valid p = true := by
              rw [hp]
              have := fvp_valid hV.out (k := k - 1) (by rw [List.length_take]; omega)
              rwa [getD_take _ _ _ _ (by omega)] at this
            have hpm := Lib.hid (show p ∈ f.take k from by rw [hp]; exact mem_take_getD (by omega) (by omega))
            rw [← hp] at hi3
            have HP := Lib.hid hp
            clear hp
            have hlp := mask_lt hvp
            have hls := mask_lt hvs
            have hI : (0 : Int) < (k : Int) := by omega
            by_cases hle : mask s ≤ mask p
            · have hno := Lib.hid (famB_no hl (by rw [← HS.out]; exact fstep_bad hpm.out (.inl hle)))
              have hleI : (mask s : Int) ≤ (mask p : Int) := by omega
              go_wp2_with fail
              go_quiet (first
                | (go_at_call 34; exact quietR (sSetValid_any (hi.ext (Ext.draws _ _ _))))
                | (go_at_call 35; exact quietS (l1Mask_any (hi3.ext (Ext.draws _ _ _)) hvp))
                | (go_at_call 35; exact quietS (l1Mask_any (hi.ext (Ext.draws _ _ _)) hvs)))
              go_wp2_with fail
              go_ret
              exact ⟨retB hno.out, hd.drewN _⟩
            · have hno := Lib.hid (show mask (f.getD (k - 1) []) < mask s from by rw [← HP.out]; omega)
              have hleI : ¬ (mask s : Int) ≤ (mask p : Int) := by omega
              go_wp2_with fail
              go_quiet (first
                | (go_at_call 34; exact quietR (sSetValid_any (hi.ext (Ext.draws _ _ _))))
                | (go_at_call 35; exact quietS (l1Mask_any (hi3.ext (Ext.draws _ _ _)) hvp))
                | (go_at_call 35; exact quietS (l1Mask_any (hi.ext (Ext.draws _ _ _)) hvs)))
              go_wp2_with fail
              have hok : (∀ x ∈ f.take k, sub (mask x) (mask s) = false) → fvp (f.take (k + 1)) = true := fun hall => by
                obtain ⟨j, rfl⟩ : ∃ j, k = j + 1 := ⟨k - 1, by omega⟩
                rw [fvp_step f _ hl, hV.out, ← HS.out, fstep_of (by omega) hV.out hvs hpos.out hno.out hall]; rfl
              have HOK := Lib.hid hok
              clear hok
              go_loopw [4] (fun i wr2 => ∃ j : Nat, j ≤ k ∧ i = .int .i64 j ∧ (∀ x ∈ f.take j, sub (mask x) (mask s) = false) ∧ Dr w wr2)
                (fun i _ => k - (intOf i).toNat)
              case atStart => exact ⟨0, by omega, rfl, fun x hx => by simp at hx, hd.drewN _⟩
              case round =>
                obtain ⟨j, hj, rfl, hall, hd2⟩ := hrel
                have HALL := Lib.hid hall
                clear hall
                have h3 := h9.ext hd2.ext
                obtain ⟨a4, n4, c4, hc4, hi4⟩ := h3.cellAt hlt
                by_cases hjk : j < k
                · have hjI : (j : Int) < (n : Int) := by omega
                  obtain ⟨a5, n5, c5, hc5, hi5⟩ := h3.cellAt (k := j) (by omega)
                  rw [← HS.out] at hi4
                  obtain ⟨p5, hp5⟩ : ∃ p, p = f.getD j [] := ⟨_, rfl⟩
                  have hv5 : valid p5 = true := by
                    rw [hp5]
                    have := fvp_valid hV.out (k := j) (by rw [List.length_take]; omega)
                    rwa [getD_take _ _ _ _ (by omega)] at this
                  have hpm5 := Lib.hid (show p5 ∈ f.take k from by rw [hp5]; exact mem_take_getD (by omega) (by omega))
                  rw [← hp5] at hi5
                  have HP5 := Lib.hid hp5
                  clear hp5
                  cases hs1 : subB p5 s
                  · cases hs2 : subB s p5
                    · have hnx := Lib.hid (show ∀ x ∈ f.take (j + 1), sub (mask x) (mask s) = false from fun x hx => by
                        rcases take_mem_cases (by omega) hx with hx | hx
                        · exact HALL.out x hx
                        · rw [hx, ← HP5.out, ← subB_valid hv5 hvs]; exact hs1)
                      go_wp2_with fail
                      go_quiet (first
                        | (go_at_call 36; exact quietS (l1Subset_is (hi5.ext (Ext.draws _ _ _)) (hi4.ext (Ext.draws _ _ _)) hs1))
                        | (go_at_call 36; exact quietS (l1Subset_is (hi4.ext (Ext.draws _ _ _)) (hi5.ext (Ext.draws _ _ _)) hs2)))
                      go_wp2_with fail
                      go_roundw
                      case rel => exact ⟨j + 1, by omega, by go_num, hnx.out, hd2.drewN _⟩
                      case measure => simp [intOf]; omega
                    · have hno := Lib.hid (famB_no hl (by rw [← HS.out]; exact fstep_bad hpm5.out (.inl (sub_le (by rw [← subB_valid hvs hv5]; exact hs2)))))
                      go_wp2_with fail
                      go_quiet (first
                        | (go_at_call 36; exact quietS (l1Subset_is (hi5.ext (Ext.draws _ _ _)) (hi4.ext (Ext.draws _ _ _)) hs1))
                        | (go_at_call 36; exact quietS (l1Subset_is (hi4.ext (Ext.draws _ _ _)) (hi5.ext (Ext.draws _ _ _)) hs2)))
                      go_wp2_with fail
                      go_ret
                      exact ⟨retB hno.out, hd2.drewN _⟩
                  · have hno := Lib.hid (famB_no hl (by rw [← HS.out]; exact fstep_bad hpm5.out (.inr (by rw [← subB_valid hv5 hvs]; exact hs1))))
                    go_wp2_with fail
                    go_quiet ((go_at_call 36; exact quietS (l1Subset_is (hi5.ext (Ext.draws _ _ _)) (hi4.ext (Ext.draws _ _ _)) hs1)))
                    go_wp2_with fail
                    go_ret
                    exact ⟨retB hno.out, hd2.drewN _⟩
                · obtain rfl : j = k := by omega
                  have hok := Lib.hid (HOK.out HALL.out)
                  go_wp2_with fail
                  go_roundw
                  case rel => exact ⟨j + 1, by omega, by go_num, hok.out, hd2⟩
                  case measure => simp [intOf]; omega
          · have hok : (∀ x ∈ f.take k, sub (mask x) (mask s) = false) → fvp (f.take (k + 1)) = true := fun hall => by
              have e : k = 0 := by omega
              rw [fvp_step f _ hl, hV.out, ← HS.out, e, List.take_zero, fstep_first hvs hpos.out]; rfl
            have HOK := Lib.hid hok
            clear hok
            go_wp2_with fail
            go_quiet ((go_at_call 34; exact quietR (sSetValid_any (hi.ext (Ext.draws _ _ _)))))
            go_wp2_with fail
            go_loopw [4] (fun i wr2 => ∃ j : Nat, j ≤ k ∧ i = .int .i64 j ∧ (∀ x ∈ f.take j, sub (mask x) (mask s) = false) ∧ Dr w wr2)
              (fun i _ => k - (intOf i).toNat)
            case atStart => exact ⟨0, by omega, rfl, fun x hx => by simp at hx, hd.drewN _⟩
            case round =>
              obtain ⟨j, hj, rfl, hall, hd2⟩ := hrel
              have HALL := Lib.hid hall
              clear hall
              have h3 := h9.ext hd2.ext
              obtain ⟨a4, n4, c4, hc4, hi4⟩ := h3.cellAt hlt
              by_cases hjk : j < k
              · have hjI : (j : Int) < (n : Int) := by omega
                obtain ⟨a5, n5, c5, hc5, hi5⟩ := h3.cellAt (k := j) (by omega)
                rw [← HS.out] at hi4
                obtain ⟨p5, hp5⟩ : ∃ p, p = f.getD j [] := ⟨_, rfl⟩
                have hv5 : valid p5 = true := by
                  rw [hp5]
                  have := fvp_valid hV.out (k := j) (by rw [List.length_take]; omega)
                  rwa [getD_take _ _ _ _ (by omega)] at this
                have hpm5 := Lib.hid (show p5 ∈ f.take k from by rw [hp5]; exact mem_take_getD (by omega) (by omega))
                rw [← hp5] at hi5
                have HP5 := Lib.hid hp5
                clear hp5
                cases hs1 : subB p5 s
                · cases hs2 : subB s p5
                  · have hnx := Lib.hid (show ∀ x ∈ f.take (j + 1), sub (mask x) (mask s) = false from fun x hx => by
                      rcases take_mem_cases (by omega) hx with hx | hx
                      · exact HALL.out x hx
                      · rw [hx, ← HP5.out, ← subB_valid hv5 hvs]; exact hs1)
                    go_wp2_with fail
                    go_quiet (first
                      | (go_at_call 36; exact quietS (l1Subset_is (hi5.ext (Ext.draws _ _ _)) (hi4.ext (Ext.draws _ _ _)) hs1))
                      | (go_at_call 36; exact quietS (l1Subset_is (hi4.ext (Ext.draws _ _ _)) (hi5.ext (Ext.draws _ _ _)) hs2)))
                    go_wp2_with fail
                    go_roundw
                    case rel => exact ⟨j + 1, by omega, by go_num, hnx.out, hd2.drewN _⟩
                    case measure => simp [intOf]; omega
                  · have hno := Lib.hid (famB_no hl (by rw [← HS.out]; exact fstep_bad hpm5.out (.inl (sub_le (by rw [← subB_valid hvs hv5]; exact hs2)))))
                    go_wp2_with fail
                    go_quiet (first
                      | (go_at_call 36; exact quietS (l1Subset_is (hi5.ext (Ext.draws _ _ _)) (hi4.ext (Ext.draws _ _ _)) hs1))
                      | (go_at_call 36; exact quietS (l1Subset_is (hi4.ext (Ext.draws _ _ _)) (hi5.ext (Ext.draws _ _ _)) hs2)))
                    go_wp2_with fail
                    go_ret
                    exact ⟨retB hno.out, hd2.drewN _⟩
                · have hno := Lib.hid (famB_no hl (by rw [← HS.out]; exact fstep_bad hpm5.out (.inr (by rw [← subB_valid hv5 hvs]; exact hs1))))
                  go_wp2_with fail
                  go_quiet ((go_at_call 36; exact quietS (l1Subset_is (hi5.ext (Ext.draws _ _ _)) (hi4.ext (Ext.draws _ _ _)) hs1)))
                  go_wp2_with fail
                  go_ret
                  exact ⟨retB hno.out, hd2.drewN _⟩
              · obtain rfl : j = k := by omega
                have hok := Lib.hid (HOK.out HALL.out)
                go_wp2_with fail
                go_roundw
                case rel => exact ⟨j + 1, by omega, by go_num, hok.out, hd2⟩
                case measure => simp [intOf]; omega
    · obtain rfl : k = n := by omega
      have hfin := Lib.hid (show f.take k = f from List.take_of_length_le (by rw [h.len]; omega))
      have hl := h.len
      have hv := hV.out
      rw [hfin.out] at hv
      have HF := Lib.hid (show famB f = decide ((k : Int) ≤ 20) from by unfold famB; rw [hv, hl, Bool.true_and, Bool.eq_iff_iff]; simp only [decide_eq_true_eq]; omega)
      clear hv
      go_wp2_with fail
      go_ret
      exact ⟨retB HF.out, hd⟩


theorem lessTo_zero (f : List (List Int)) (c : Nat) : lessTo f c 0 = hasB f (mem c) := by unfold lessTo; simp
theorem lessTo_no {f : List (List Int)} {c j k : Nat} (h : lessTo f c j = false) (hjk : j ≤ k) : lessTo f c k = false := by
  induction k with
  | zero => obtain rfl : j = 0 := by omega
            exact h
  | succ k ih =>
    by_cases e : j = k + 1
    · rw [← e]; exact h
    · rw [lessTo_succ, ih (by omega)]; rfl
theorem take_len_mem (c : Nat) : (mem c).length ≤ 6 := mem_len
theorem Ints.part {w : World} {b off n m i : Nat} {xs : List Int} {a : Option Addr} (h : Ints w (some ⟨b, off, none⟩) n xs) (him : i + m ≤ n) (ha : a = some ⟨b, off + i, none⟩ ∨ m = 0) : Ints w a m ((xs.drop i).take m) := by
  have := At.part h him ha
  unfold Ints
  rw [← List.map_drop, ← List.map_take] at this
  exact this

theorem sSetValid_is {a : Option Addr} {n cp : Nat} {xs : List Int} {w : World} {q : Bool} (h : Ints w a n xs) (hq : valid xs = q) :
    Calls Tryd.prog 34 #[.slice a n cp] w fun e w' => e = .returned (.bool q) ∧ Dr w w' := by
  rw [← hq]; exact sSetValid_any h
theorem sFamilyValid_is {a : Option Addr} {n cp : Nat} {f : List (List Int)} {w : World} {q : Bool} (h : Fam w a n f) (hq : famB f = q) :
    Calls Tryd.prog 24 #[.slice a n cp] w fun e w' => e = .returned (.bool q) ∧ Dr w w' := by
  rw [← hq]; exact sFamilyValid_any h

theorem critL_yes {f : List (List Int)} (h : famB f = true) (hn : 0 < f.length) : critL f = mem (allOf (masks f)) := by
  unfold critL
  have : f ≠ [] := by rintro rfl; simp at hn
  rw [h, decide_eq_true this]; rfl
theorem allOf_step (f : List (List Int)) (k : Nat) (h : k < f.length) : allOf (masks (f.take (k + 1))) = allOf (masks (f.take k)) &&& mask (f.getD k []) := by
  rw [snoc_take f [] k h, masks_app]; exact allOf_snoc _ _
theorem and63 (x : Nat) (h : x < 64) : 63 &&& x = x := by
  have key : ∀ x < 64, 63 &&& x = x := by decide +kernel
  exact key x h

theorem okM_bad {f : List (List Int)} {k : Nat} (hk : k < f.length) (h : valid (f.getD k []) = false ∨ mask (f.getD k []) = 0) : okM f = false := by
  cases ho : okM f
  · rfl
  · have := okM_valid ho _ (getD_mem hk)
    rcases h with h | h
    · rw [this.1] at h; cases h
    · exact absurd h this.2
theorem minimizeL_no {f : List (List Int)} (h : okM f = false) : minimizeL f = [] := by unfold minimizeL; rw [h]; rfl

end Go.Proofs.YtnifgfnhcjhodaaDoor
