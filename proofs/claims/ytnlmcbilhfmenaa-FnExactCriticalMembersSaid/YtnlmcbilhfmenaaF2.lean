/- Plain mathematics of quorum systems as lists of lists of members. No program text. -/
import Derived.Test.YtnlmcbilhfmenaaF1
namespace Go.Proofs.Ytnlmcbilhfmenaa

/-- does a list contain one of these lists? -/
def hasB (f : List (List Int)) (s : List Int) : Bool := f.any (fun x => subB x s)
/-- may s follow the sets l? -/
def fstep (l : List (List Int)) (s : List Int) : Bool := valid s && (decide (mask s ≠ 0) && l.all (fun x => decide (mask x < mask s) && !sub (mask x) (mask s)))
def fvp (f : List (List Int)) : Bool := (List.range f.length).all (fun k => fstep (f.take k) (f.getD k []))
/-- is it a quorum system? -/
def famB (f : List (List Int)) : Bool := fvp f && decide (f.length ≤ 20)
def famL (q : List Nat) : List (List Int) := q.map mem
def masks (f : List (List Int)) : List Nat := f.map mask
/-- the minimal sets, as lists -/
def minL (f : List (List Int)) : List (List Int) := famL (minOf (fun c => hasB f (mem c)))

theorem snoc_take {α : Type} (xs : List α) (d : α) (k : Nat) (h : k < xs.length) : xs.take (k + 1) = xs.take k ++ [xs.getD k d] := by
  rw [List.take_add_one, List.getElem?_eq_getElem h]; simp [List.getD, h]
theorem take_full {α : Type} (xs : List α) (k : Nat) (h : xs.length ≤ k) : xs.take k = xs := List.take_of_length_le h
theorem getD_take {α : Type} (xs : List α) (d : α) (k j : Nat) (h : j < k) : (xs.take k).getD j d = xs.getD j d := by
  simp [List.getD, h]
theorem hasB_snoc (f : List (List Int)) (x s : List Int) : hasB (f ++ [x]) s = (hasB f s || subB x s) := by simp [hasB]
theorem hasB_step (f : List (List Int)) (s : List Int) (k : Nat) (h : k < f.length) : hasB (f.take (k + 1)) s = (hasB (f.take k) s || subB (f.getD k []) s) := by
  rw [snoc_take f [] k h, hasB_snoc]
theorem hasB_take {f : List (List Int)} {s : List Int} {k : Nat} (h : hasB (f.take k) s = true) : hasB f s = true := by
  unfold hasB at *
  rw [List.any_eq_true] at *
  obtain ⟨x, hx, hs⟩ := h
  exact ⟨x, List.mem_of_mem_take hx, hs⟩

theorem fvp_step (f : List (List Int)) (k : Nat) (h : k < f.length) : fvp (f.take (k + 1)) = (fvp (f.take k) && fstep (f.take k) (f.getD k [])) := by
  unfold fvp
  rw [List.length_take_of_le (by omega), List.length_take_of_le (by omega), List.range_succ, List.all_append, List.all_cons, List.all_nil, Bool.and_true,
    List.take_take, Nat.min_eq_left (by omega), getD_take _ _ _ _ (by omega)]
  congr 1
  rw [Bool.eq_iff_iff, List.all_eq_true, List.all_eq_true]
  constructor
  · intro hh j hj
    have hj' := List.mem_range.1 hj
    have := hh j hj
    rwa [List.take_take, Nat.min_eq_left (by omega), getD_take _ _ _ _ (by omega)] at this ⊢
  · intro hh j hj
    have hj' := List.mem_range.1 hj
    have := hh j hj
    rwa [List.take_take, Nat.min_eq_left (by omega), getD_take _ _ _ _ (by omega)] at this ⊢
theorem fvp_iff (f : List (List Int)) : fvp f = true ↔ ∀ k, k < f.length → fstep (f.take k) (f.getD k []) = true := by
  unfold fvp; rw [List.all_eq_true]
  exact ⟨fun h k hk => h k (List.mem_range.2 hk), fun h k hk => h k (List.mem_range.1 hk)⟩
theorem fvp_no {f : List (List Int)} {k : Nat} (hk : k < f.length) (h : fstep (f.take k) (f.getD k []) = false) : fvp f = false := by
  cases hf : fvp f
  · rfl
  · rw [(fvp_iff f).1 hf k hk] at h; cases h
theorem fstep_valid {l : List (List Int)} {s : List Int} (h : fstep l s = true) : valid s = true := by
  unfold fstep at h; rw [Bool.and_eq_true] at h; exact h.1
theorem fstep_all {l : List (List Int)} {s : List Int} (h : fstep l s = true) : ∀ x ∈ l, mask x < mask s ∧ sub (mask x) (mask s) = false := by
  unfold fstep at h
  simp only [Bool.and_eq_true, List.all_eq_true, decide_eq_true_eq, Bool.not_eq_true'] at h
  exact h.2.2
theorem fstep_pos {l : List (List Int)} {s : List Int} (h : fstep l s = true) : mask s ≠ 0 := by
  unfold fstep at h
  simp only [Bool.and_eq_true, decide_eq_true_eq] at h
  exact h.2.1
theorem fvp_valid {f : List (List Int)} (h : fvp f = true) {k : Nat} (hk : k < f.length) : valid (f.getD k []) = true := fstep_valid ((fvp_iff f).1 h k hk)
theorem getD_mem {f : List (List Int)} {k : Nat} (hk : k < f.length) : f.getD k [] ∈ f := by
  simp only [List.getD, List.getElem?_eq_getElem hk, Option.getD_some]; exact List.getElem_mem hk
theorem mem_getD {f : List (List Int)} {s : List Int} (h : s ∈ f) : ∃ k, k < f.length ∧ f.getD k [] = s := by
  obtain ⟨k, hk, rfl⟩ := List.getElem_of_mem h
  exact ⟨k, hk, by simp [List.getD, hk]⟩
theorem fvp_all {f : List (List Int)} (h : fvp f = true) : ∀ s ∈ f, valid s = true ∧ mask s ≠ 0 := by
  intro s hs
  obtain ⟨k, hk, rfl⟩ := mem_getD hs
  exact ⟨fvp_valid h hk, fstep_pos ((fvp_iff f).1 h k hk)⟩
/-- the masks of a valid prefix lie below its last -/
theorem fvp_last {f : List (List Int)} {k : Nat} (hk : k < f.length) (h : fvp (f.take (k + 1)) = true) : ∀ x ∈ f.take (k + 1), mask x ≤ mask (f.getD k []) := by
  rw [fvp_step f k hk, Bool.and_eq_true] at h
  intro x hx
  rw [snoc_take f [] k hk, List.mem_append] at hx
  rcases hx with hx | hx
  · exact Nat.le_of_lt (fstep_all h.2 x hx).1
  · rw [List.mem_singleton.1 hx]; exact Nat.le_refl _
/-- what the two programs test instead: the last mask alone -/
theorem fstep_of {f : List (List Int)} {k : Nat} {s : List Int} (hk : k < f.length) (h : fvp (f.take (k + 1)) = true) (hv : valid s = true) (h0 : mask s ≠ 0) (hl : mask (f.getD k []) < mask s)
    (hs : ∀ x ∈ f.take (k + 1), sub (mask x) (mask s) = false) : fstep (f.take (k + 1)) s = true := by
  unfold fstep
  simp only [Bool.and_eq_true, List.all_eq_true, decide_eq_true_eq, Bool.not_eq_true']
  exact ⟨hv, h0, fun x hx => ⟨Nat.lt_of_le_of_lt (fvp_last hk h x hx) hl, hs x hx⟩⟩
theorem fstep_first {s : List Int} (hv : valid s = true) (h0 : mask s ≠ 0) : fstep [] s = true := by
  unfold fstep; rw [hv]; simp [h0]
theorem fstep_bad {l : List (List Int)} {s x : List Int} (hx : x ∈ l) (h : mask s ≤ mask x ∨ sub (mask x) (mask s) = true) : fstep l s = false := by
  cases hf : fstep l s
  · rfl
  · have := fstep_all hf x hx
    rcases h with h | h
    · omega
    · rw [this.2] at h; cases h
theorem fstep_inv {l : List (List Int)} {s : List Int} (h : valid s = false) : fstep l s = false := by unfold fstep; rw [h]; rfl
theorem fstep_zero {l : List (List Int)} {s : List Int} (h : mask s = 0) : fstep l s = false := by unfold fstep; simp [h]
theorem mask_nil : mask [] = 0 := rfl
theorem mask_zero {s : List Int} (hv : valid s = true) (h : mask s = 0) : s = [] := by rw [← mem_mask hv, h]; rfl

theorem pairwise_masks {f : List (List Int)} (h : fvp f = true) : f.Pairwise (fun x y => mask x < mask y ∧ sub (mask x) (mask y) = false) := by
  rw [List.pairwise_iff_getElem]
  intro i j hi hj hij
  have := fstep_all ((fvp_iff f).1 h j hj) f[i] (by
    rw [List.mem_take_iff_getElem]
    exact ⟨i, by omega, rfl⟩)
  simpa [List.getD, hj] using this
theorem masks_anti {f : List (List Int)} (h : fvp f = true) : anti (masks f) := by
  refine ⟨?_, fun x hx => ?_⟩
  · unfold masks; rw [List.pairwise_map]; exact pairwise_masks h
  · obtain ⟨s, hs, rfl⟩ := List.mem_map.1 hx
    exact ⟨mask_lt (fvp_all h s hs).1, (fvp_all h s hs).2⟩
theorem famL_masks {f : List (List Int)} (h : ∀ s ∈ f, valid s = true) : famL (masks f) = f := by
  unfold famL masks; rw [List.map_map]
  conv => rhs; rw [← List.map_id f]
  exact List.map_congr_left fun s hs => by simp [mem_mask (h s hs)]
theorem famL_of {f : List (List Int)} (h : fvp f = true) : famL (masks f) = f := famL_masks fun s hs => (fvp_all h s hs).1
theorem masks_famL {q : List Nat} (h : ∀ x ∈ q, x < 64) : masks (famL q) = q := by
  unfold famL masks; rw [List.map_map]
  conv => rhs; rw [← List.map_id q]
  exact List.map_congr_left fun s hs => by simp [mask_mem (h s hs)]
theorem famL_valid {q : List Nat} (h : ∀ x ∈ q, x < 64) : ∀ s ∈ famL q, valid s = true := by
  intro s hs
  obtain ⟨c, hc, rfl⟩ := List.mem_map.1 hs
  exact mem_valid (h c hc)
theorem fvp_of_anti {f : List (List Int)} (hv : ∀ s ∈ f, valid s = true) (h : anti (masks f)) : fvp f = true := by
  rw [fvp_iff]
  intro k hk
  unfold fstep
  simp only [Bool.and_eq_true, List.all_eq_true, decide_eq_true_eq, Bool.not_eq_true']
  have hp := h.1
  unfold masks at hp
  rw [List.pairwise_map, List.pairwise_iff_getElem] at hp
  refine ⟨hv _ (getD_mem hk), (h.2 _ (List.mem_map_of_mem (getD_mem hk))).2, fun x hx => ?_⟩
  rw [List.mem_take_iff_getElem] at hx
  obtain ⟨i, hi, rfl⟩ := hx
  have := hp i k (by omega) hk (by omega)
  simpa [List.getD, hk] using this

/-- a partition of all sets into 20 chains -/
def chainTab : List Nat := [0, 0, 1, 0, 2, 2, 1, 0, 3, 3, 4, 3, 5, 2, 1, 0, 6, 6, 7, 6, 8, 8, 7, 6, 9, 9, 4, 3, 5, 2, 1, 0, 10, 10, 11, 10, 12, 12, 11, 10, 13, 13, 14, 13, 15, 12, 11, 10, 16, 16, 17, 16, 18, 8, 7, 6, 19, 9, 4, 3, 5, 2, 1, 0]
def chainOf (c : Nat) : Nat := chainTab.getD c 0
theorem chain_lt (c : Nat) (hc : c < 64) : chainOf c < 20 := by
  have key : ∀ c < 64, chainOf c < 20 := by decide +kernel
  exact key c hc
theorem chain_sub (x y : Nat) (hx : x < 64) (hy : y < 64) (h : chainOf x = chainOf y) : sub x y = true ∨ sub y x = true := by
  have key : ∀ x < 64, ∀ y < 64, chainOf x = chainOf y → sub x y = true ∨ sub y x = true := by decide +kernel
  exact key x hx y hy h
theorem nodup_len (n : Nat) : ∀ (l : List Nat), l.Nodup → (∀ x ∈ l, x < n) → l.length ≤ n := by
  intro l hl hb
  have := List.Nodup.length_le_of_subset hl (l₂ := List.range n) (fun x hx => List.mem_range.2 (hb x hx))
  simpa using this
/-- Sperner, for six members -/
theorem anti_len {q : List Nat} (h : anti q) : q.length ≤ 20 := by
  have hn : (q.map chainOf).Nodup := by
    unfold List.Nodup
    rw [List.pairwise_map]
    refine List.Pairwise.imp_of_mem ?_ h.1
    intro x y hx hy hxy he
    rcases chain_sub x y (anti_lt h x hx) (anti_lt h y hy) he with hs | hs
    · rw [hxy.2] at hs; cases hs
    · have := sub_le hs; omega
  have := nodup_len 20 _ hn (fun x hx => by
    obtain ⟨c, hc, rfl⟩ := List.mem_map.1 hx
    exact chain_lt c (anti_lt h c hc))
  simpa using this
theorem sub_len (x y : Nat) : sub x y = true → x ≤ y := sub_le
theorem famB_famL {q : List Nat} (h : anti q) : famB (famL q) = true := by
  have hl := anti_len h
  unfold famB
  rw [fvp_of_anti (famL_valid (anti_lt h)) (by rw [masks_famL (anti_lt h)]; exact h)]
  simp [famL, hl]
theorem famB_fvp {f : List (List Int)} (h : famB f = true) : fvp f = true := by unfold famB at h; rw [Bool.and_eq_true] at h; exact h.1
theorem famB_len {f : List (List Int)} (h : famB f = true) : f.length ≤ 20 := by unfold famB at h; simp only [Bool.and_eq_true, decide_eq_true_eq] at h; exact h.2

theorem subB_mono {x s t : List Int} (h : ∀ m, cont s m = true → cont t m = true) (k : subB x s = true) : subB x t = true := by
  unfold subB at *
  rw [List.all_eq_true] at *
  exact fun y hy => h y (k y hy)
theorem hasB_mono {f : List (List Int)} {s t : List Int} (h : ∀ m, cont s m = true → cont t m = true) (k : hasB f s = true) : hasB f t = true := by
  unfold hasB at *
  rw [List.any_eq_true] at *
  obtain ⟨x, hx, hs⟩ := k
  exact ⟨x, hx, subB_mono h hs⟩
theorem hasB_up (f : List (List Int)) : Mono (fun c => hasB f (mem c)) := by
  intro x y hx hy hs hu
  refine hasB_mono (fun m hm => ?_) hu
  rw [cont_valid m (mem_valid hx), mask_mem hx] at hm
  rw [cont_valid m (mem_valid hy), mask_mem hy]
  exact (sub_iff x y hx).1 hs m hm
theorem hasB_masks {f : List (List Int)} (h : ∀ s ∈ f, valid s = true) {s : List Int} (hs : valid s = true) : hasB f s = up (masks f) (mask s) := by
  unfold hasB up masks
  rw [List.any_map]
  have key : ∀ (l : List (List Int)), (∀ s ∈ l, valid s = true) → l.any (fun x => subB x s) = l.any ((fun x => sub x (mask s)) ∘ mask) := by
    intro l hl
    induction l with
    | nil => rfl
    | cons x r ih =>
      rw [List.any_cons, List.any_cons, ih (fun s hs => hl s (List.mem_cons_of_mem _ hs)), Function.comp_apply, subB_valid (hl x (List.mem_cons_self ..)) hs]
  exact key f h
theorem hasB_mem {f : List (List Int)} (h : ∀ s ∈ f, valid s = true) {c : Nat} (hc : c < 64) : hasB f (mem c) = up (masks f) c := by
  rw [hasB_masks h (mem_valid hc), mask_mem hc]
theorem minL_masks {f : List (List Int)} (h : ∀ s ∈ f, valid s = true) : minL f = famL (minOf (up (masks f))) := by
  unfold minL; rw [minOf_congr (fun c hc => hasB_mem h hc)]

/-- minimality, tested one member at a time -/
def lessTo (f : List (List Int)) (c k : Nat) : Bool := hasB f (mem c) && (List.range k).all (fun i => !hasB f ((mem c).eraseIdx i))
theorem erase_mem (c : Nat) (hc : c < 64) (i : Nat) (hi : i < (mem c).length) : ∃ d, d < 64 ∧ (mem c).eraseIdx i = mem d ∧ sub d c = true ∧ d ≠ c := by
  have key : ∀ c < 64, ∀ i < 6, i < (mem c).length → ∃ d, d < 64 ∧ (mem c).eraseIdx i = mem d ∧ sub d c = true ∧ d ≠ c := by decide +kernel
  exact key c hc i (Nat.lt_of_lt_of_le hi mem_len) hi
theorem erase_above (c d : Nat) (hc : c < 64) (hd : d < 64) (hs : sub d c = true) (hne : d ≠ c) : ∃ i, i < (mem c).length ∧ subB (mem d) ((mem c).eraseIdx i) = true := by
  have key : ∀ c < 64, ∀ d < 64, sub d c = true → d ≠ c → ∃ i, i < 6 ∧ i < (mem c).length ∧ subB (mem d) ((mem c).eraseIdx i) = true := by decide +kernel
  obtain ⟨i, _, h⟩ := key c hc d hd hs hne
  exact ⟨i, h⟩
theorem lessTo_min (f : List (List Int)) (c : Nat) (hc : c < 64) : lessTo f c (mem c).length = isMin (fun c => hasB f (mem c)) c := by
  rw [Bool.eq_iff_iff, isMin_iff]
  unfold lessTo
  rw [Bool.and_eq_true, List.all_eq_true]
  constructor
  · rintro ⟨h1, h2⟩
    refine ⟨h1, fun d hd hs hu => Classical.byContradiction fun hne => ?_⟩
    obtain ⟨i, hi, hsub⟩ := erase_above c d hc hd hs hne
    have := h2 i (List.mem_range.2 hi)
    have h3 : hasB f ((mem c).eraseIdx i) = true := by
      refine hasB_mono (fun m hm => ?_) hu
      unfold subB at hsub
      rw [List.all_eq_true] at hsub
      exact hsub m (by simpa [cont] using hm)
    rw [h3] at this; cases this
  · rintro ⟨h1, h2⟩
    refine ⟨h1, fun i hi => ?_⟩
    obtain ⟨d, hd, he, hs, hne⟩ := erase_mem c hc i (List.mem_range.1 hi)
    rw [he]
    cases hu : hasB f (mem d)
    · rfl
    · exact absurd (h2 d hd hs hu) hne
theorem lessTo_succ (f : List (List Int)) (c k : Nat) : lessTo f c (k + 1) = (lessTo f c k && !hasB f ((mem c).eraseIdx k)) := by
  unfold lessTo; rw [List.range_succ, List.all_append]; simp [Bool.and_assoc]
/-- the minimal sets below a mask -/
def minTo (f : List (List Int)) (k : Nat) : List (List Int) := ((List.range k).filter (isMin (fun c => hasB f (mem c)))).map mem
theorem minTo_succ (f : List (List Int)) (k : Nat) : minTo f (k + 1) = if isMin (fun c => hasB f (mem c)) k then minTo f k ++ [mem k] else minTo f k := by
  unfold minTo; rw [List.range_succ, List.filter_append]
  cases h : isMin (fun c => hasB f (mem c)) k <;> simp [h]
theorem minTo_len (f : List (List Int)) (k : Nat) : (minTo f k).length ≤ k := by
  unfold minTo; rw [List.length_map]
  exact Nat.le_trans (List.length_filter_le _ _) (by simp)
theorem minTo_all (f : List (List Int)) : minTo f 64 = minL f := rfl
end Go.Proofs.Ytnlmcbilhfmenaa
