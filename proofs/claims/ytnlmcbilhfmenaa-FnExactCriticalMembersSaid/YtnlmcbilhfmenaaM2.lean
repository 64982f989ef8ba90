/- Plain mathematics of weighted votes. No program text. -/
import Derived.Test.YtnlmcbilhfmenaaM1
namespace Go.Proofs.Ytnlmcbilhfmenaa

def okV (v : Int) : Bool := decide (0 ≤ v) && decide (v ≤ 9)
def allV (w : List Int) : Bool := w.all okV
def valW (w : List Int) : Bool := allV w && (decide (1 ≤ w.length) && decide (w.length ≤ 6))
def sumTo (w : List Int) (c : Nat) : Nat → Int
  | 0 => 0
  | k + 1 => sumTo w c k + (if has c ((k : Int) + 1) then w.getD k 0 else 0)
def sumW (w : List Int) (c : Nat) : Int := sumTo w c w.length
def sumS (w : List Int) (s : List Int) : Int := (s.map (fun m => if m ≤ (w.length : Int) then w.getD (m - 1).toNat 0 else 0)).sum
def wSumL (w s : List Int) : Int := if valid s && valW w then sumW w (mask s) else -1
def majL (w : List Int) : Int := if valW w then sumW w 63 / 2 + 1 else 0

theorem allV_snoc (xs : List Int) (x : Int) : allV (xs ++ [x]) = (allV xs && okV x) := by simp [allV]
theorem allV_step (xs : List Int) (k : Nat) (hk : k < xs.length) (h : allV (xs.take k) = true) : allV (xs.take (k + 1)) = okV (xs.getD k 0) := by
  rw [take_snoc xs k hk, allV_snoc, h]; rfl
theorem allV_no {xs : List Int} {k : Nat} (h : allV (xs.take k) = false) : allV xs = false := by
  cases hv : allV xs with
  | false => rfl
  | true =>
    unfold allV at h hv
    rw [List.all_eq_true] at hv
    rw [List.all_eq_false] at h
    obtain ⟨x, hx, hn⟩ := h
    exact absurd (hv x (List.mem_of_mem_take hx)) hn
theorem allV_get {w : List Int} (h : allV w = true) (k : Nat) : 0 ≤ w.getD k 0 ∧ w.getD k 0 ≤ 9 := by
  by_cases hk : k < w.length
  · have e : w.getD k 0 = w[k] := by simp [List.getD, hk]
    unfold allV at h
    rw [List.all_eq_true] at h
    have := h w[k] (List.getElem_mem hk)
    rw [e]; simpa [okV] using this
  · simp [List.getD, List.getElem?_eq_none (by omega : w.length ≤ k)]
theorem sumTo_bd {w : List Int} (h : allV w = true) (c k : Nat) : 0 ≤ sumTo w c k ∧ sumTo w c k ≤ 9 * k := by
  induction k with
  | zero => simp [sumTo]
  | succ k ih =>
    have hg := allV_get h k
    unfold sumTo
    split <;> omega
theorem valW_all {w : List Int} (h : valW w = true) : allV w = true := by
  simp only [valW, Bool.and_eq_true] at h; exact h.1
theorem valW_len {w : List Int} (h : valW w = true) : 1 ≤ w.length ∧ w.length ≤ 6 := by
  simp only [valW, Bool.and_eq_true, decide_eq_true_eq] at h; exact h.2
theorem sumW_bd {w : List Int} (h : valW w = true) (c : Nat) : 0 ≤ sumW w c ∧ sumW w c ≤ 54 := by
  have h1 := sumTo_bd (valW_all h) c w.length
  have h2 := valW_len h
  unfold sumW; omega
theorem sumS_snoc (w s : List Int) (m : Int) : sumS w (s ++ [m]) = sumS w s + (if m ≤ (w.length : Int) then w.getD (m - 1).toNat 0 else 0) := by
  unfold sumS; rw [List.map_append, List.sum_append]; simp
theorem sumS_step (w s : List Int) (k : Nat) (hk : k < s.length) : sumS w (s.take (k + 1)) = sumS w (s.take k) + (if s.getD k 0 ≤ (w.length : Int) then w.getD (s.getD k 0 - 1).toNat 0 else 0) := by
  rw [take_snoc s k hk, sumS_snoc]
theorem sumS_bd {w : List Int} (h : allV w = true) (s : List Int) : 0 ≤ sumS w s ∧ sumS w s ≤ 9 * s.length := by
  induction s with
  | nil => simp [sumS]
  | cons m r ih =>
    have hg := allV_get h (m - 1).toNat
    unfold sumS at ih ⊢
    rw [List.map_cons, List.sum_cons, List.length_cons]
    split <;> omega
theorem sum_filter (l : List Int) (p : Int → Bool) (g : Int → Int) : ((l.filter p).map g).sum = (l.map (fun m => if p m then g m else 0)).sum := by
  induction l with
  | nil => rfl
  | cons x r ih =>
    rw [List.filter_cons, List.map_cons, List.sum_cons]
    cases h : p x
    · simp [ih]
    · simp [ih]
theorem sumS_mem (w : List Int) (c : Nat) (hw : w.length ≤ 6) : sumS w (mem c) = sumW w c := by
  unfold sumS mem
  rw [sum_filter]
  unfold sumW
  have : w.length = 0 ∨ w.length = 1 ∨ w.length = 2 ∨ w.length = 3 ∨ w.length = 4 ∨ w.length = 5 ∨ w.length = 6 := by omega
  rcases this with h | h | h | h | h | h | h <;> rw [h] <;> simp [sumTo] <;> omega
theorem sumS_valid {w s : List Int} (hw : valW w = true) (hs : valid s = true) : sumS w s = sumW w (mask s) := by
  obtain ⟨c, hc, rfl⟩ := valid_mem hs
  rw [mask_mem hc]; exact sumS_mem w c (valW_len hw).2
theorem sumTo_and_or (w : List Int) (x y k : Nat) : sumTo w (x ||| y) k + sumTo w (x &&& y) k = sumTo w x k + sumTo w y k := by
  induction k with
  | zero => rfl
  | succ k ih =>
    unfold sumTo
    rw [has_or, has_and]
    cases has x ((k : Int) + 1) <;> cases has y ((k : Int) + 1) <;> simp <;> omega
theorem sumW_and_or (w : List Int) (x y : Nat) : sumW w (x ||| y) + sumW w (x &&& y) = sumW w x + sumW w y := sumTo_and_or w x y _
theorem sumTo_zero (w : List Int) (k : Nat) : sumTo w 0 k = 0 := by
  induction k with
  | zero => rfl
  | succ k ih => unfold sumTo; rw [ih, show has 0 ((k : Int) + 1) = false from by simp [has]]; rfl
end Go.Proofs.Ytnlmcbilhfmenaa
