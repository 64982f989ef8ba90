/- Duals: contracts with their answer a literal, and the plain law of duals. Conditions: each lemma's own. -/
import Derived.Test.YtjjjpakgnipghaaJ3
import Derived.Test.YtjjjpakgnipghaaJ4
import Derived.Test.YtjjjpakgnipghaaRJ
import Derived.Test.YtjjjpakgnipghaaD6
import Derived.Test.YtjjjpakgnipghaaPO
import Derived.Test.YtjjjpakgnipghaaX1
namespace Go.Proofs.Ytjjjpakgnipghaa
open Go.RowKit
set_option linter.unusedVariables false

theorem ExprDual_is {s D : ByteArray} {w : World} (hs : s.size ≤ 9223372036854775807) (hD : bs (dualL (byt s)) = D) :
    Calls Try.prog 40 #[.string s] w fun e w' => e = .returned (.string D) ∧ Ext none w w' := by
  rw [← hD]; exact ExprDual_any hs
theorem sExprDual_is {s D : ByteArray} {w : World} (hs : s.size ≤ 9223372036854775807) (hD : bs (dualL (byt s)) = D) :
    Calls Try.prog 41 #[.string s] w fun e w' => e = .returned (.string D) ∧ Ext none w w' := by
  rw [← hD]; exact sExprDual_any hs
theorem ExprDepth_is {s : ByteArray} {w : World} {q : Int} (hs : s.size ≤ 9223372036854775807) (hq : depL (byt s) = q) :
    Calls Try.prog 44 #[.string s] w fun e w' => e = .returned (.int .i64 q) ∧ Ext none w w' := by
  rw [← hq]; exact ExprDepth_any hs
theorem sExprSatisfied_is {s : ByteArray} {a : Option Addr} {n cp : Nat} {xs : List Int} {w : World} {q : Bool} (hs : s.size ≤ 9223372036854775807) (hx : Ints w a n xs) (hq : satisfiedE (byt s) xs = q) :
    Calls Try.prog 46 #[.string s, .slice a n cp] w fun e w' => e = .returned (.bool q) ∧ Ext none w w' := by
  rw [← hq]; exact sExprSatisfied_any hs hx

theorem satisfiedE_mem {L : List UInt8} (h : okE L = true) {c : Nat} (hc : c < 64) : satisfiedE L (mem c) = satE L c := by
  unfold satisfiedE; rw [h, mem_valid hc, mask_mem hc]; rfl
/-- the law: a set satisfies the dual if its complement does not satisfy the expression -/
theorem dual_law {L : List UInt8} (h : okE L = true) {s : List Int} (hs : valid s = true) : satisfiedE (dualL L) s = !satisfiedE L (minusL (mem 63) s) := by
  obtain ⟨c, hc, rfl⟩ := valid_mem hs
  rw [minusL_yes (by decide) (mem_valid hc), mask_mem hc, mask_mem (by decide), satisfiedE_mem (dual_ok h).1 hc, satisfiedE_mem h (dif_lt (by decide)), dual_sat h hc]
theorem sub_meet {c d : Nat} (hc : c < 64) (hd : d < 64) (h : c &&& d = 0) : sub c (dif 63 d) = true := by
  have key : ∀ c < 64, ∀ d < 64, c &&& d = 0 → sub c (dif 63 d) = true := by decide +kernel
  exact key c hc d hd h
theorem meet_pos {c : Nat} (hc : c < 64) (h : c ≠ 0) : 0 < (mem c).length := by
  have key : ∀ c < 64, c ≠ 0 → 0 < (mem c).length := by decide +kernel
  exact key c hc h
/-- the law: whatever satisfies an expression meets whatever satisfies its dual -/
theorem dual_meets {L : List UInt8} {s t : List Int} (hs : satisfiedE L s = true) (ht : satisfiedE (dualL L) t = true) : 0 < (interL s t).length := by
  obtain ⟨ho, hv⟩ := satisfiedE_yes hs
  have hv2 := (satisfiedE_yes ht).2
  obtain ⟨c, hc, rfl⟩ := valid_mem hv
  obtain ⟨d, hd, rfl⟩ := valid_mem hv2
  rw [interL_yes hv hv2, mask_mem hc, mask_mem hd]
  refine meet_pos (Nat.lt_of_le_of_lt Nat.and_le_left hc) (fun h0 => ?_)
  rw [satisfiedE_mem ho hc] at hs
  rw [satisfiedE_mem (dual_ok ho).1 hd, dual_sat ho hd] at ht
  obtain ⟨t, ht2⟩ := ok_ex ho
  unfold satE at hs ht
  rw [ht2] at hs ht
  simp only at hs ht
  rw [sat_mono t c (dif 63 d) ((sub_iff c _ hc).1 (sub_meet hc hd h0)) hs] at ht
  cases ht
end Go.Proofs.Ytjjjpakgnipghaa
