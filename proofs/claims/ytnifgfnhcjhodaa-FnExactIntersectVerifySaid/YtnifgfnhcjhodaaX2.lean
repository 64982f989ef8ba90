/- The helpers of the laws, on families: sameSets, eqIntSS, szIntSS, toIntSS, markIntSS, heldIntSS. Conditions: each lemma's own. -/
import Derived.Test.YtnifgfnhcjhodaaW4
import Derived.Test.YtnifgfnhcjhodaaPN
namespace Go.Proofs.Ytnifgfnhcjhodaa
open Go.RowKit
set_option linter.unusedVariables false

theorem sameF_len {f g : List (List Int)} (h : f.length ≠ g.length) : sameF f g = false := by
  unfold sameF; rw [decide_eq_false_iff_not]; rintro rfl; exact h rfl
theorem sameF_at {f g : List (List Int)} {k : Nat} (h : same (f.getD k []) (g.getD k []) = false) : sameF f g = false := by
  unfold sameF; rw [decide_eq_false_iff_not]; rintro rfl; rw [same_refl] at h; cases h
theorem sameF_take {f g : List (List Int)} {k : Nat} (h : f.take k = g.take k) (hx : k < f.length) (hy : k < g.length) (he : same (f.getD k []) (g.getD k []) = true) : f.take (k + 1) = g.take (k + 1) := by
  rw [snoc_take f [] k hx, snoc_take g [] k hy, h]
  unfold same at he
  rw [decide_eq_true_eq] at he
  rw [he]
theorem eqIntS_lit {a : Option Addr} {n c : Nat} {xs : List Int} {b : Option Addr} {m d : Nat} {ys : List Int} {w : World} {q : Bool} (hx : Ints w a n xs) (hy : Ints w b m ys) (hq : same xs ys = q) :
    Calls Try.prog 22 #[.slice a n c, .slice b m d] w fun e w' => e = .returned (.bool q) ∧ Dr w w' := by
  rw [← hq]; exact eqIntS_any hx hy
set_option maxRecDepth 20000 in
set_option maxHeartbeats 2000000 in
theorem eqIntSS_any {a : Option Addr} {n c : Nat} {f : List (List Int)} {b : Option Addr} {m d : Nat} {g : List (List Int)} {w : World} (hx : Fam w a n f) (hy : Fam w b m g) :
    Calls Try.prog 21 #[.slice a n c, .slice b m d] w fun e w' => e = .returned (.bool (sameF f g)) ∧ Dr w w' := by
  have hm := hx.max
  have HX := Lib.hid hx
  have HY := Lib.hid hy
  by_cases hnm : n = m
  · subst hnm
    have hl := Lib.hid hx.len
    have hl' := Lib.hid hy.len
    clear hx hy
    go_enter Try.func21, Try.ntmps21
    go_wp2_with fail
    go_loopw [5] (fun i wr => ∃ k : Nat, k ≤ n ∧ i = .int .i64 k ∧ f.take k = g.take k ∧ Dr w wr)
      (fun i _ => n - (intOf i).toNat)
    case atStart => exact ⟨0, by omega, rfl, rfl, Dr.refl _⟩
    case round =>
      obtain ⟨k, hk, rfl, ht, hd⟩ := hrel
      have HT := Lib.hid ht
      clear ht
      by_cases hlt : k < n
      · have hltI : (k : Int) < (n : Int) := by omega
        have hkf : k < f.length := by rw [hl.out]; exact hlt
        have hkg : k < g.length := by rw [hl'.out]; exact hlt
        obtain ⟨b1, off, a2, n2, c2, rfl, hc, hi⟩ := (HX.out.ext hd.ext).cell hlt
        obtain ⟨b3, off3, a4, n4, c4, rfl, hc2, hi2⟩ := (HY.out.ext hd.ext).cell hlt
        have HI := Lib.hid hi
        have HI2 := Lib.hid hi2
        clear hi hi2
        cases hs : same (f.getD k []) (g.getD k [])
        · have hno := Lib.hid (sameF_at hs)
          go_wp2_with fail
          go_quiet ((go_at_call 22; exact quietR (eqIntS_lit (HI.out.ext (Ext.draws _ _ _)) (HI2.out.ext (Ext.draws _ _ _)) hs)))
          go_wp2_with fail
          go_ret
          exact ⟨by rw [hno.out]; rfl, hd.drewN _⟩
        · have hnx := Lib.hid (sameF_take HT.out hkf hkg hs)
          go_wp2_with fail
          go_quiet ((go_at_call 22; exact quietR (eqIntS_lit (HI.out.ext (Ext.draws _ _ _)) (HI2.out.ext (Ext.draws _ _ _)) hs)))
          go_wp2_with fail
          go_roundw
          case rel => exact ⟨k + 1, by omega, by go_num, hnx.out, hd.drewN _⟩
          case measure => simp [intOf]; omega
      · obtain rfl : k = n := by omega
        have hyes := Lib.hid (show sameF f g = true from by
          have := HT.out
          rw [List.take_of_length_le (by rw [hl.out]; omega), List.take_of_length_le (by rw [hl'.out]; omega)] at this
          rw [this]; exact sameF_refl _)
        go_wp2_with fail
        go_ret
        exact ⟨by rw [hyes.out]; rfl, hd⟩
  · have hno := Lib.hid (sameF_len (show f.length ≠ g.length from by rw [hx.len, hy.len]; exact hnm))
    have hb : ((n : Int) != (m : Int)) = true := by rw [bne_iff_ne]; omega
    go_enter Try.func21, Try.ntmps21
    go_wp2_with fail
    go_ret
    exact ⟨by rw [hno.out]; rfl, Dr.refl _⟩
theorem eqIntSS_is {a : Option Addr} {n c : Nat} {f : List (List Int)} {b : Option Addr} {m d : Nat} {g : List (List Int)} {w : World} {q : Bool} (hx : Fam w a n f) (hy : Fam w b m g) (hq : sameF f g = q) :
    Calls Try.prog 21 #[.slice a n c, .slice b m d] w fun e w' => e = .returned (.bool q) ∧ Dr w w' := by
  rw [← hq]; exact eqIntSS_any hx hy
theorem sameInts_lit {a : Option Addr} {n c : Nat} {xs : List Int} {b : Option Addr} {m d : Nat} {ys : List Int} {w : World} {q : Bool} (hx : Ints w a n xs) (hy : Ints w b m ys) (hq : same xs ys = q) :
    Calls Try.prog 11 #[.slice a n c, .slice b m d] w fun e w' => e = .returned (.bool q) ∧ Dr w w' := by
  rw [← hq]; exact sameInts_any hx hy
end Go.Proofs.Ytnifgfnhcjhodaa
