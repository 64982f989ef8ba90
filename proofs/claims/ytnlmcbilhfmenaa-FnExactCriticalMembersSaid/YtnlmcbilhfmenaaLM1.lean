/- Plain mathematics behind the laws of sets and votes. No program text. -/
import Derived.Test.YtnlmcbilhfmenaaM2
namespace Go.Proofs.Ytnlmcbilhfmenaa

theorem interL_comm (xs ys : List Int) : interL ys xs = interL xs ys := by
  unfold interL; rw [Bool.and_comm, Nat.and_comm]
theorem interL_valid (xs ys : List Int) : valid (interL xs ys) = true := by
  unfold interL; split
  · rename_i h; rw [Bool.and_eq_true] at h; exact mem_valid (and_lt (mask_lt h.1))
  · rfl
theorem interL_yes {xs ys : List Int} (h : valid xs = true) (k : valid ys = true) : interL xs ys = mem (mask xs &&& mask ys) := by unfold interL; rw [h, k]; rfl
theorem unionL_yes {xs ys : List Int} (h : valid xs = true) (k : valid ys = true) : unionL xs ys = mem (mask xs ||| mask ys) := by unfold unionL; rw [h, k]; rfl
theorem minusL_yes {xs ys : List Int} (h : valid xs = true) (k : valid ys = true) : minusL xs ys = mem (dif (mask xs) (mask ys)) := by unfold minusL; rw [h, k]; rfl
theorem subsetL_yes {xs ys : List Int} (h : valid xs = true) (k : valid ys = true) : subsetL xs ys = sub (mask xs) (mask ys) := by unfold subsetL; rw [h, k]; rfl
theorem maskL_yes {xs : List Int} (h : valid xs = true) : maskL xs = (mask xs : Int) := by unfold maskL; rw [h]; rfl
theorem interL_mem {x y : Nat} (hx : x < 64) (hy : y < 64) : interL (mem x) (mem y) = mem (x &&& y) := by
  rw [interL_yes (mem_valid hx) (mem_valid hy), mask_mem hx, mask_mem hy]
theorem unionL_mem {x y : Nat} (hx : x < 64) (hy : y < 64) : unionL (mem x) (mem y) = mem (x ||| y) := by
  rw [unionL_yes (mem_valid hx) (mem_valid hy), mask_mem hx, mask_mem hy]
theorem minusL_mem {x y : Nat} (hx : x < 64) (hy : y < 64) : minusL (mem x) (mem y) = mem (dif x y) := by
  rw [minusL_yes (mem_valid hx) (mem_valid hy), mask_mem hx, mask_mem hy]
theorem subsetL_mem {x y : Nat} (hx : x < 64) (hy : y < 64) : subsetL (mem x) (mem y) = sub x y := by
  rw [subsetL_yes (mem_valid hx) (mem_valid hy), mask_mem hx, mask_mem hy]
theorem maskL_mem {x : Nat} (hx : x < 64) : maskL (mem x) = (x : Int) := by
  rw [maskL_yes (mem_valid hx), mask_mem hx]
theorem containsL_mem {x : Nat} (hx : x < 64) (m : Int) : containsL (mem x) m = has x m := by
  unfold containsL; rw [mem_valid hx, mask_mem hx]; rfl
theorem interL_has {xs ys : List Int} (h : valid xs = true) (k : valid ys = true) (m : Int) : containsL (interL xs ys) m = (containsL xs m && containsL ys m) := by
  obtain ⟨x, hx, rfl⟩ := valid_mem h
  obtain ⟨y, hy, rfl⟩ := valid_mem k
  rw [interL_mem hx hy, containsL_mem (and_lt hx), containsL_mem hx, containsL_mem hy, has_and]
theorem distrib_law {xs ys : List Int} (h : valid xs = true) (k : valid ys = true) {z : Nat} (hz : z < 64) :
    interL xs (unionL ys (mem z)) = unionL (interL xs ys) (interL xs (mem z)) := by
  obtain ⟨x, hx, rfl⟩ := valid_mem h
  obtain ⟨y, hy, rfl⟩ := valid_mem k
  rw [unionL_mem hy hz, interL_mem hx (or_lt hy hz), interL_mem hx hy, interL_mem hx hz, unionL_mem (and_lt hx) (and_lt hx), Nat.and_or_distrib_left]
theorem order_law {xs ys : List Int} (h : subsetL xs ys = true) : ∃ x y : Nat, maskL xs = x ∧ maskL ys = y ∧ x ≤ y ∧ y < 64 ∧ maskL (minusL ys xs) = (y : Int) - x := by
  have hv : valid xs = true ∧ valid ys = true := by
    unfold subsetL at h; rw [Bool.and_eq_true, Bool.and_eq_true] at h; exact h.1
  obtain ⟨x, hx, rfl⟩ := valid_mem hv.1
  obtain ⟨y, hy, rfl⟩ := valid_mem hv.2
  rw [subsetL_mem hx hy] at h
  have key : ∀ x < 64, ∀ y < 64, sub x y = true → x ≤ y ∧ dif y x = y - x := by decide +kernel
  obtain ⟨h1, h2⟩ := key x hx y hy h
  refine ⟨x, y, maskL_mem hx, maskL_mem hy, h1, hy, ?_⟩
  rw [minusL_mem hy hx, maskL_mem (dif_lt hy), h2]; omega
def same (xs ys : List Int) : Bool := decide (xs = ys)
theorem same_refl (xs : List Int) : same xs xs = true := by simp [same]
theorem same_mem {x y : Nat} (hx : x < 64) (hy : y < 64) : same (mem x) (mem y) = decide (x = y) := by
  unfold same
  by_cases h : x = y
  · subst h; simp
  · rw [decide_eq_false h, decide_eq_false_iff_not]; exact fun e => h (mask_inj hx hy e)
theorem subset_law1 {xs ys : List Int} (h : valid xs = true) (k : valid ys = true) : same (interL xs ys) xs = subsetL xs ys := by
  obtain ⟨x, hx, rfl⟩ := valid_mem h
  obtain ⟨y, hy, rfl⟩ := valid_mem k
  rw [interL_mem hx hy, same_mem (and_lt hx) hx, subsetL_mem hx hy]; unfold sub; rw [Bool.eq_iff_iff]; simp
theorem subset_law2 {xs ys : List Int} (h : valid xs = true) (k : valid ys = true) : same xs ys = (subsetL xs ys && subsetL ys xs) := by
  obtain ⟨x, hx, rfl⟩ := valid_mem h
  obtain ⟨y, hy, rfl⟩ := valid_mem k
  rw [same_mem hx hy, subsetL_mem hx hy, subsetL_mem hy hx]
  have key : ∀ x < 64, ∀ y < 64, decide (x = y) = (sub x y && sub y x) := by decide +kernel
  exact key x hx y hy
theorem subset_nil {xs : List Int} (h : valid xs = true) : subsetL [] xs = true := by
  obtain ⟨x, hx, rfl⟩ := valid_mem h
  have : ([] : List Int) = mem 0 := by decide
  rw [this, subsetL_mem (by decide) hx]; simp [sub]
theorem wSumL_yes {w : List Int} (hw : valW w = true) {x : Nat} (hx : x < 64) : wSumL w (mem x) = sumW w x := by
  unfold wSumL; rw [mem_valid hx, hw, mask_mem hx]; rfl
theorem wSumL_law {w s : List Int} (h : 0 ≤ wSumL w s) (z : Nat) (hz : z < 64) :
    valW w = true ∧ valid s = true ∧ wSumL w (unionL s (mem z)) + wSumL w (interL s (mem z)) = wSumL w s + wSumL w (mem z) ∧ wSumL w [] = 0 := by
  have hv : valid s = true ∧ valW w = true := by
    unfold wSumL at h; split at h
    · rename_i h'; rwa [Bool.and_eq_true] at h'
    · omega
  obtain ⟨x, hx, rfl⟩ := valid_mem hv.1
  refine ⟨hv.2, hv.1, ?_, ?_⟩
  · rw [unionL_mem hx hz, interL_mem hx hz, wSumL_yes hv.2 (or_lt hx hz), wSumL_yes hv.2 (and_lt hx), wSumL_yes hv.2 hx, wSumL_yes hv.2 hz, sumW_and_or]
  · have : ([] : List Int) = mem 0 := by decide
    rw [this, wSumL_yes hv.2 (by decide)]; exact sumTo_zero _ _
theorem wSumL_bd (w s : List Int) : -1 ≤ wSumL w s ∧ wSumL w s ≤ 54 := by
  unfold wSumL; split
  · rename_i h'; rw [Bool.and_eq_true] at h'; have := sumW_bd h'.2 (mask s); omega
  · omega
end Go.Proofs.Ytnlmcbilhfmenaa
