/- The measures of package impl: SmallestQuorum. Conditions: each lemma's own. -/
import Derived.Test.YtjciinaboooeoaaRH
namespace Go.Proofs.Ytjciinaboooeoaa
open Go.RowKit
set_option linter.unusedVariables false

theorem smallTo_le (f : List (List Int)) (k : Nat) : smallTo f k ≤ 6 := by
  unfold smallTo; exact (fold_min _ 6).1.1
theorem mask_getD {f : List (List Int)} {k : Nat} (h : k < f.length) : (masks f).getD k 0 = mask (f.getD k []) := by
  unfold masks; simp [List.getD, h]
set_option maxRecDepth 20000 in
set_option maxHeartbeats 2000000 in
theorem SmallestQuorum_is {a : Option Addr} {n cp : Nat} {f : List (List Int)} {q : Int} {w : World} (h : Fam w a n f) (hq : smallQ f = q) :
    Calls Try.prog 36 #[.slice a n cp] w fun e w' => e = .returned (.int .i64 q) ∧ Ext none w w' := by
  have hl := h.len
  cases hv : famB f
  · have hno := Lib.hid (show q = -1 from by rw [← hq]; unfold smallQ okT; rw [hv]; rfl)
    clear hq
    go_enter Try.func36, Try.ntmps36
    go_wp2_with fail
    refine (readFamily_is h hv).mono ?_; rintro e w1 ⟨a1, n1, c1, rfl, ho, he⟩
    go_wp2_with fail
    go_ret
    exact ⟨retI hno.out, he⟩
  · have hrd := Lib.hid (show rdF f = masks f from by unfold rdF; rw [hv]; rfl)
    have hlt64 := Lib.hid (masks_lt hv)
    have hval := Lib.hid (fam_valid hv)
    by_cases h0 : n = 0
    · subst h0
      have hno := Lib.hid (show q = -1 from by rw [← hq]; unfold smallQ; rw [okT_len hv, decide_eq_false (by omega)]; rfl)
      have HL := Lib.hid hl
      clear hq hl
      go_enter Try.func36, Try.ntmps36
      go_wp2_with fail
      refine (readFamily_is h hv).mono ?_; rintro e w1 ⟨a1, n1, c1, rfl, ho, he⟩
      rw [hrd.out] at ho
      have hl1 := ho.len
      rw [masks_len, HL.out] at hl1
      subst hl1
      clear ho h
      go_wp2_with fail
      go_ret
      exact ⟨retI hno.out, he⟩
    · have hne : ((n : Int) == 0) = false := by rw [beq_eq_false_iff_ne]; omega
      have hyes := Lib.hid (show q = (smallTo f n : Int) from by rw [← hq]; unfold smallQ; rw [okT_len hv, decide_eq_true (by omega), hl]; rfl)
      have HL := Lib.hid hl
      clear hq hl
      go_enter Try.func36, Try.ntmps36
      go_wp2_with fail
      refine (readFamily_is h hv).mono ?_; rintro e w1 ⟨a1, n1, c1, rfl, ho, he⟩
      rw [hrd.out] at ho
      have hl1 := ho.len
      rw [masks_len, HL.out] at hl1
      subst hl1
      have HO := Lib.hid ho.crs
      have hmax := ho.crs.max
      clear ho h
      go_wp2_with fail
      go_loop [5, 22] (fun s i => ∃ k : Nat, k ≤ n ∧ i = .int .i64 (k : Nat) ∧ s = .int .i64 (smallTo f k : Nat))
        (fun _ i => n - (intOf i).toNat)
      case atStart => exact ⟨0, by omega, rfl, rfl⟩
      case round =>
        obtain ⟨k, hk, rfl, rfl⟩ := hrel
        have hle := smallTo_le f k
        by_cases hlt : k < n
        · have hltI : (k : Int) < (n : Int) := by omega
          have hkl : k < f.length := by rw [HL.out]; exact hlt
          obtain ⟨b, off, rfl, hc⟩ := HO.out.cell hlt
          have hst := Lib.hid (smallTo_step f k hkl)
          have hvk := hval.out _ (getD_mem hkl)
          have hm64 := mask_lt hvk
          rw [mask_getD hkl] at hc
          have hmany := Lib.hid (show many (mask (f.getD k [])) = (f.getD k []).length from by unfold many; rw [mem_mask hvk])
          have hlen6 := valid_len hvk
          obtain ⟨x, hx⟩ : ∃ x, x = mask (f.getD k []) := ⟨_, rfl⟩
          obtain ⟨m, hm⟩ : ∃ m, m = (f.getD k []).length := ⟨_, rfl⟩
          rw [← hx, ← hm] at hmany
          rw [← hx] at hc hm64
          rw [← hm] at hst hlen6
          clear hx hm hvk
          obtain ⟨u, hu⟩ : ∃ u, u = smallTo f k := ⟨_, rfl⟩
          rw [← hu] at hle hst ⊢
          clear hu
          by_cases hmin : u ≤ m
          · have hminI : (u : Int) ≤ (m : Int) := by omega
            have hmm := Lib.hid (show smallTo f (k + 1) = u from by rw [hst.out]; omega)
            go_wp2_with fail
            refine (many_is hm64 hmany.out).mono ?_; rintro e w_ ⟨rfl, rfl⟩
            go_wp2_with fail
            go_round
            case rel => exact ⟨k + 1, by omega, by go_num, by rw [hmm.out]; try rfl⟩
            case measure => simp [intOf]; omega
          · have hminI : ¬ ((u : Int) ≤ (m : Int)) := by omega
            have hminJ : (m : Int) < (u : Int) := by omega
            have hmm := Lib.hid (show smallTo f (k + 1) = m from by rw [hst.out]; omega)
            go_wp2_with fail
            refine (many_is hm64 hmany.out).mono ?_; rintro e w_ ⟨rfl, rfl⟩
            go_wp2_with fail
            go_round
            case rel => exact ⟨k + 1, by omega, by go_num, by rw [hmm.out]; try rfl⟩
            case measure => simp [intOf]; omega
        · obtain rfl : k = n := by omega
          go_wp2_with fail
          go_ret
          exact ⟨retI hyes.out, he⟩
theorem smallQ_bd (f : List (List Int)) : -1 ≤ smallQ f ∧ smallQ f ≤ 6 := by
  unfold smallQ; split
  · have := smallTo_le f f.length; omega
  · omega
end Go.Proofs.Ytjciinaboooeoaa
