/- The quorum systems of package impl: readFamily, FamilyValid. Conditions: each lemma's own. -/
import Derived.Test.YtnlmcbilhfmenaaC9
import Derived.Test.YtnlmcbilhfmenaaS8
namespace Go.Proofs.Ytnlmcbilhfmenaa
open Go.RowKit
set_option linter.unusedVariables false

/-- the masks of a quorum system; none of another list -/
def rdF (f : List (List Int)) : List Nat := if famB f then masks f else []
/-- what readFamily leaves -/
def RQ (w : World) (f : List (List Int)) (e : Ending) (w' : World) : Prop :=
  ∃ a n c, e = .returned (.tuple #[.slice a n c, .bool (famB f)]) ∧ OwnC w' w.heap.size a n c (rdF f) ∧ Ext none w w'
theorem readSet_is {a : Option Addr} {n cp : Nat} {xs : List Int} {b : Bool} {w : World} (h : Ints w a n xs) (hb : valid xs = b) :
    Calls Try.prog 66 #[.slice a n cp] w fun e w' => e = .returned (.tuple #[.int .u64 (rdC xs : Nat), .bool b]) ∧ w = w' := by
  rw [← hb]; exact readSet_any h
theorem readSet_ok {a : Option Addr} {n cp : Nat} {xs : List Int} {m : Nat} {w : World} (h : Ints w a n xs) (hv : valid xs = true) (hm : mask xs = m) :
    Calls Try.prog 66 #[.slice a n cp] w fun e w' => e = .returned (.tuple #[.int .u64 (m : Nat), .bool true]) ∧ w = w' := by
  have : rdC xs = m := by unfold rdC; rw [hv, if_pos rfl, hm]
  rw [← this, ← hv]; exact readSet_any h
theorem masks_getD (f : List (List Int)) (k j : Nat) (hj : j < k) (hk : k ≤ f.length) : (masks (f.take k)).getD j 0 = mask (f.getD j []) := by
  unfold masks
  have h1 : j < f.length := by omega
  simp [List.getD, hj, h1]
theorem masks_snoc (f : List (List Int)) (s : List Int) : masks (f ++ [s]) = masks f ++ [mask s] := by simp [masks]
theorem masks_take_len (f : List (List Int)) (k : Nat) (h : k ≤ f.length) : (masks (f.take k)).length = k := by simp [masks]; omega
theorem rdF_no {f : List (List Int)} (h : famB f = false) : rdF f = [] := by unfold rdF; rw [h]; rfl
theorem up_masks_bad {f : List (List Int)} {k : Nat} {s : List Int} (h : up (masks (f.take k)) (mask s) = true) : fstep (f.take k) s = false := by
  unfold up masks at h
  rw [List.any_map, List.any_eq_true] at h
  obtain ⟨x, hx, hs⟩ := h
  exact fstep_bad hx (.inr hs)
theorem up_masks_ok {f : List (List Int)} {k : Nat} {s : List Int} (h : up (masks (f.take k)) (mask s) = false) : ∀ x ∈ f.take k, sub (mask x) (mask s) = false := by
  intro x hx
  unfold up masks at h
  rw [List.any_map, List.any_eq_false] at h
  simpa using h x hx

set_option maxHeartbeats 4000000 in
theorem readFamily_any {a : Option Addr} {n cp : Nat} {f : List (List Int)} {w : World} (h : Fam w a n f) :
    Calls Try.prog 57 #[.slice a n cp] w (RQ w f) := by
  have hm := h.max
  rcases Nat.lt_or_ge 20 n with hbig | hsm
  · have hI : (20 : Int) < (n : Int) := by omega
    have hno := Lib.hid (show famB f = false from by unfold famB; rw [show decide (f.length ≤ 20) = false from by rw [decide_eq_false_iff_not, h.len]; omega, Bool.and_false])
    go_enter Try.func57, Try.ntmps57
    go_wp2_with fail
    go_ret2
    exact ⟨_, _, _, by rw [hno.out]; rfl, by rw [rdF_no hno.out]; exact OwnC.nil _ _, Ext.refl _ _⟩
  have hI : ¬ (20 : Int) < (n : Int) := by omega
  go_enter Try.func57, Try.ntmps57
  go_wp2_with fail
  go_loopw [4, 14] (fun q i wr => ∃ (k : Nat) (a2 : Option Addr) (n2 c2 : Nat), k ≤ n ∧ n2 = k ∧ i = .int .i64 k ∧ q = .slice a2 n2 c2 ∧ fvp (f.take k) = true ∧ OwnC wr w.heap.size a2 n2 c2 (masks (f.take k)) ∧ Ext none w wr)
    (fun _ i _ => n - (intOf i).toNat)
  case atStart => exact ⟨0, none, 0, 0, by omega, rfl, rfl, rfl, rfl, OwnC.nil _ _, Ext.refl _ _⟩
  case round =>
    obtain ⟨k, a2, n2, c2, hk, hn2, rfl, rfl, hv, ho, he⟩ := hrel
    subst hn2
    have HV := Lib.hid hv
    clear hv
    have h1 := h.ext he
    by_cases hlt : n2 < n
    · have hl : n2 < f.length := by rw [h.len]; exact hlt
      obtain ⟨b1, off, a3, n3, c3, rfl, hc, hi⟩ := h1.cell hlt
      obtain ⟨s, hs⟩ : ∃ s, s = f.getD n2 [] := ⟨_, rfl⟩
      rw [← hs] at hi
      have HS := Lib.hid hs
      clear hs
      cases hvs : valid s
      · have hno := Lib.hid (famB_no hl (by rw [← HS.out]; exact fstep_inv hvs))
        go_wp2_with fail
        refine (readSet_is hi hvs).mono ?_; rintro e w_ ⟨rfl, rfl⟩
        go_wp2_with fail
        go_ret2
        exact ⟨_, _, _, by rw [hno.out]; rfl, by rw [rdF_no hno.out]; exact OwnC.nil _ _, he⟩
      · obtain ⟨m, hmm⟩ : ∃ m, m = mask s := ⟨_, rfl⟩
        have hm64 : m < 64 := by rw [hmm]; exact mask_lt hvs
        have HM := Lib.hid hmm.symm
        clear hmm
        by_cases h0 : m = 0
        · subst h0
          have hno := Lib.hid (famB_no hl (by rw [← HS.out]; exact fstep_zero HM.out))
          go_wp2_with fail
          refine (readSet_ok hi hvs HM.out).mono ?_; rintro e w_ ⟨rfl, rfl⟩
          go_wp2_with fail
          go_ret2
          exact ⟨_, _, _, by rw [hno.out]; rfl, by rw [rdF_no hno.out]; exact OwnC.nil _ _, he⟩
        · have hb0 : ((m : Int) == 0) = false := by rw [beq_eq_false_iff_ne]; omega
          have hpos := Lib.hid (show mask s ≠ 0 from by rw [HM.out]; exact h0)
          by_cases hk0 : 0 < n2
          · obtain ⟨b2, off2, rfl, hc2⟩ := ho.crs.cell (k := n2 - 1) (by omega)
            rw [masks_getD f n2 (n2 - 1) (by omega) (by omega)] at hc2
            obtain ⟨x, hx⟩ : ∃ x, x = mask (f.getD (n2 - 1) []) := ⟨_, rfl⟩
            rw [← hx] at hc2
            have HX := Lib.hid hx
            clear hx
            have hI : (0 : Int) < (n2 : Int) := by omega
            by_cases hle : m ≤ x
            · have hleI : (m : Int) ≤ (x : Int) := by omega
              have hno := Lib.hid (famB_no hl (by rw [← HS.out]; exact fstep_bad (mem_take_getD (j := n2 - 1) (by omega) (by omega)) (.inl (by rw [HM.out, ← HX.out]; exact hle))))
              go_wp2_with fail
              refine (readSet_ok hi hvs HM.out).mono ?_; rintro e w_ ⟨rfl, rfl⟩
              go_wp2_with fail
              go_ret2
              exact ⟨_, _, _, by rw [hno.out]; rfl, by rw [rdF_no hno.out]; exact OwnC.nil _ _, he⟩
            · have hleI : ¬ (m : Int) ≤ (x : Int) := by omega
              have h64 : ∀ x ∈ masks (f.take n2), x < 64 := fun x hx => by
                obtain ⟨t, ht, rfl⟩ := List.mem_map.1 hx
                exact mask_lt (fvp_all HV.out t ht).1
              have H64 := Lib.hid h64
              clear h64
              cases hup : up (masks (f.take n2)) m
              · have hok := Lib.hid (show fvp (f.take (n2 + 1)) = true from by
                  rw [fvp_step f n2 hl, HV.out, ← HS.out]
                  obtain ⟨j, rfl⟩ : ∃ j, n2 = j + 1 := ⟨n2 - 1, by omega⟩
                  rw [fstep_of (by omega) HV.out hvs hpos.out (by rw [HM.out]; have := HX.out; simp only [Nat.add_sub_cancel] at this; rw [← this]; omega) (up_masks_ok (by rw [HM.out]; exact hup))]; rfl)
                have hmk := Lib.hid (show masks (f.take n2) ++ [m] = masks (f.take (n2 + 1)) from by rw [snoc_take f [] n2 hl, masks_snoc, ← HS.out, HM.out])
                go_wp2_with fail
                refine (readSet_ok hi hvs HM.out).mono ?_; rintro e w_ ⟨rfl, rfl⟩
                go_wp2_with fail
                refine (reached_is ho.crs H64.out hm64 hup).mono ?_; rintro e w_ ⟨rfl, rfl⟩
                go_wp2_with (at_builtin; refine app_crew 50 Try.underlying50 _ rfl _ _ rfl w.heap.size _ n2 c2 _ ho m rfl rfl (by omega) he.size ?_; intro g c' w1 ho1 hg1)
                go_roundw
                case rel => exact ⟨n2 + 1, _, _, _, by omega, rfl, by go_num, rfl, hok.out, by rw [← hmk.out]; exact ho1, he.grown hg1 (fun j hj => .inl (Own.block ho j hj))⟩
                case measure => simp [intOf]; omega
              · have hno := Lib.hid (famB_no hl (by rw [← HS.out]; exact up_masks_bad (by rw [HM.out]; exact hup)))
                go_wp2_with fail
                refine (readSet_ok hi hvs HM.out).mono ?_; rintro e w_ ⟨rfl, rfl⟩
                go_wp2_with fail
                refine (reached_is ho.crs H64.out hm64 hup).mono ?_; rintro e w_ ⟨rfl, rfl⟩
                go_wp2_with fail
                go_ret2
                exact ⟨_, _, _, by rw [hno.out]; rfl, by rw [rdF_no hno.out]; exact OwnC.nil _ _, he⟩
          · have hI : ¬ (0 : Int) < (n2 : Int) := by omega
            have h64 : ∀ x ∈ masks (f.take n2), x < 64 := fun x hx => by
              obtain ⟨t, ht, rfl⟩ := List.mem_map.1 hx
              exact mask_lt (fvp_all HV.out t ht).1
            have H64 := Lib.hid h64
            clear h64
            cases hup : up (masks (f.take n2)) m
            · have hok := Lib.hid (show fvp (f.take (n2 + 1)) = true from by
                rw [fvp_step f n2 hl, HV.out, ← HS.out]
                have e : n2 = 0 := by omega
                rw [e, List.take_zero, fstep_first hvs hpos.out]; rfl)
              have hmk := Lib.hid (show masks (f.take n2) ++ [m] = masks (f.take (n2 + 1)) from by rw [snoc_take f [] n2 hl, masks_snoc, ← HS.out, HM.out])
              go_wp2_with fail
              refine (readSet_ok hi hvs HM.out).mono ?_; rintro e w_ ⟨rfl, rfl⟩
              go_wp2_with fail
              refine (reached_is ho.crs H64.out hm64 hup).mono ?_; rintro e w_ ⟨rfl, rfl⟩
              go_wp2_with (at_builtin; refine app_crew 50 Try.underlying50 _ rfl _ _ rfl w.heap.size _ n2 c2 _ ho m rfl rfl (by omega) he.size ?_; intro g c' w1 ho1 hg1)
              go_roundw
              case rel => exact ⟨n2 + 1, _, _, _, by omega, rfl, by go_num, rfl, hok.out, by rw [← hmk.out]; exact ho1, he.grown hg1 (fun j hj => .inl (Own.block ho j hj))⟩
              case measure => simp [intOf]; omega
            · have hno := Lib.hid (famB_no hl (by rw [← HS.out]; exact up_masks_bad (by rw [HM.out]; exact hup)))
              go_wp2_with fail
              refine (readSet_ok hi hvs HM.out).mono ?_; rintro e w_ ⟨rfl, rfl⟩
              go_wp2_with fail
              refine (reached_is ho.crs H64.out hm64 hup).mono ?_; rintro e w_ ⟨rfl, rfl⟩
              go_wp2_with fail
              go_ret2
              exact ⟨_, _, _, by rw [hno.out]; rfl, by rw [rdF_no hno.out]; exact OwnC.nil _ _, he⟩
    · obtain rfl : n2 = n := by omega
      have hfin := Lib.hid (show f.take n2 = f from List.take_of_length_le (by rw [h.len]; omega))
      have hyes := Lib.hid (show famB f = true from by
        have := HV.out
        rw [hfin.out] at this
        unfold famB; rw [this, h.len]; simp; omega)
      go_wp2_with fail
      go_ret2
      exact ⟨_, _, _, by rw [hyes.out]; rfl, by unfold rdF; rw [hyes.out, if_pos rfl, ← hfin.out]; exact ho, he⟩
end Go.Proofs.Ytnlmcbilhfmenaa
