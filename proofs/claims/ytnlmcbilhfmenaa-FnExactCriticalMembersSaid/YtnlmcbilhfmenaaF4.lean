/- Plain mathematics of quorum systems that are given by a test: expressions and votes. No program text. -/
import Derived.Test.YtnlmcbilhfmenaaF3
import Derived.Test.YtnlmcbilhfmenaaE2
namespace Go.Proofs.Ytnlmcbilhfmenaa

/-- the sets below a mask that pass -/
def fltrTo (U : Nat → Bool) (k : Nat) : List Nat := (List.range k).filter U
theorem fltrTo_succ (U : Nat → Bool) (k : Nat) : fltrTo U (k + 1) = if U k then fltrTo U k ++ [k] else fltrTo U k := by
  unfold fltrTo; rw [List.range_succ, List.filter_append]
  cases h : U k <;> simp [h]
theorem fltrTo_len (U : Nat → Bool) (k : Nat) : (fltrTo U k).length ≤ k := by
  unfold fltrTo; exact Nat.le_trans (List.length_filter_le _ _) (by simp)
theorem fltrTo_lt {U : Nat → Bool} {k x : Nat} (h : x ∈ fltrTo U k) : x < k := by
  unfold fltrTo at h; rw [List.mem_filter, List.mem_range] at h; exact h.1
theorem mem_fltr (U : Nat → Bool) (x : Nat) : x ∈ fltrTo U 64 ↔ x < 64 ∧ U x = true := by
  unfold fltrTo; rw [List.mem_filter, List.mem_range]
theorem up_fltr (U : Nat → Bool) (c : Nat) : up (fltrTo U 64) c = true ↔ ∃ x, x < 64 ∧ U x = true ∧ sub x c = true := by
  unfold up; rw [List.any_eq_true]
  constructor
  · rintro ⟨x, hx, hs⟩; exact ⟨x, ((mem_fltr U x).1 hx).1, ((mem_fltr U x).1 hx).2, hs⟩
  · rintro ⟨x, h1, h2, hs⟩; exact ⟨x, (mem_fltr U x).2 ⟨h1, h2⟩, hs⟩
/-- the minimal sets of those that pass are the minimal ones that pass -/
theorem minOf_fltr (U : Nat → Bool) : minOf (up (fltrTo U 64)) = minOf U := by
  refine sorted_ext (minOf_sorted _) (minOf_sorted _) fun c => ?_
  rw [mem_minOf, mem_minOf, isMin_iff, isMin_iff]
  constructor
  · rintro ⟨hc, hu, hmin⟩
    obtain ⟨x, hx, hUx, hs⟩ := (up_fltr U c).1 hu
    have : x = c := hmin x hx hs ((up_fltr U x).2 ⟨x, hx, hUx, sub_refl x⟩)
    subst this
    exact ⟨hx, hUx, fun d hd hs2 hUd => hmin d hd hs2 ((up_fltr U d).2 ⟨d, hd, hUd, sub_refl d⟩)⟩
  · rintro ⟨hc, hU, hmin⟩
    refine ⟨hc, (up_fltr U c).2 ⟨c, hc, hU, sub_refl c⟩, fun d hd hs hu => ?_⟩
    obtain ⟨x, hx, hUx, hs2⟩ := (up_fltr U d).1 hu
    have : x = c := hmin x hx (sub_trans hx hd hs2 hs) hUx
    subst this
    exact sub_anti hs hs2
/-- the quorums that a test gives -/
def whereL (U : Nat → Bool) : List (List Int) := famL (minOf U)
theorem minL_fltr (U : Nat → Bool) : minL (famL (fltrTo U 64)) = whereL U := by
  have h : ∀ x ∈ fltrTo U 64, x < 64 := fun x hx => fltrTo_lt hx
  rw [minL_yes (famL_valid h), masks_famL h, minOf_fltr]; rfl
theorem whereL_fam {U : Nat → Bool} (h0 : U 0 = false) : famB (whereL U) = true := famB_famL (minOf_anti U h0)
theorem whereL_has {U : Nat → Bool} (h0 : U 0 = false) (hM : Mono U) {c : Nat} (hc : c < 64) : hasL (whereL U) (mem c) = U c := by
  rw [hasL_mem (whereL_fam h0) hc]
  unfold whereL
  rw [masks_famL fun x hx => minOf_lt hx]
  exact up_minOf hM hc
theorem famL_snoc (q : List Nat) (c : Nat) : famL (q ++ [c]) = famL q ++ [mem c] := by simp [famL]
theorem famL_len (q : List Nat) : (famL q).length = q.length := by simp [famL]

/-! expressions -/
def ofExprL (s : List UInt8) : List (List Int) := if okE s then whereL (satE s) else []
theorem ofExprL_yes {s : List UInt8} (h : okE s = true) : ofExprL s = whereL (satE s) := by unfold ofExprL; rw [h]; rfl
theorem ofExprL_no {s : List UInt8} (h : okE s = false) : ofExprL s = [] := by unfold ofExprL; rw [h]; rfl

/-! unions of two systems, as the reference makes them -/
theorem unis_step (p q : List Nat) (x : Nat) : unis (p ++ [x]) q = unis p q ++ q.map (fun y => x ||| y) := by
  unfold unis; rw [List.flatMap_append]; simp
theorem masks_step (f : List (List Int)) (k : Nat) (h : k < f.length) : masks (f.take (k + 1)) = masks (f.take k) ++ [mask (f.getD k [])] := by
  rw [snoc_take f [] k h, masks_app]; rfl
theorem unis_len (p q : List Nat) : (unis p q).length = p.length * q.length := by
  induction p with
  | nil => simp [unis]
  | cons x r ih => simp only [unis, List.flatMap_cons, List.length_append, List.length_map, List.length_cons] at ih ⊢; rw [ih, Nat.add_mul]; omega
theorem masks_len (f : List (List Int)) : (masks f).length = f.length := by simp [masks]
theorem unis_take_len {f g : List (List Int)} (hf : famB f = true) (hg : famB g = true) (k j : Nat) : (unis (masks (f.take k)) (masks g) ++ (masks (g.take j)).map (fun y => mask (f.getD k []) ||| y)).length ≤ 420 := by
  have h1 := famB_len hf
  have h2 := famB_len hg
  rw [List.length_append, unis_len, masks_len, masks_len, List.length_map, masks_len, List.length_take, List.length_take]
  have h3 : min k f.length * g.length ≤ 20 * 20 := Nat.mul_le_mul (by omega) h2
  omega
theorem bothL_min {f g : List (List Int)} (h : ok2 f g = true) : minL (famL (unis (masks f) (masks g))) = bothL f g := by
  obtain ⟨h1, h2⟩ := ok2_iff h
  have h64 : ∀ x ∈ unis (masks f) (masks g), x < 64 := fun x hx => (unis_pos (fam_pos h1) (fam_pos h2) x hx).1
  rw [bothL_yes h, minL_yes (famL_valid h64), masks_famL h64]
end Go.Proofs.Ytnlmcbilhfmenaa
