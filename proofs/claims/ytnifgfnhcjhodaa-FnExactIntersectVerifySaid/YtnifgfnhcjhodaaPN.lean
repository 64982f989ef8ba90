/- XPN: several texts in one. Conditions: each lemma's own. -/
import Derived.Test.YtnifgfnhcjhodaaPM



namespace Go.Proofs.Ytnifgfnhcjhodaa

/-- does a set contain one of these? -/
def up (q : List Nat) (c : Nat) : Bool := q.any (fun x => sub x c)
/-- a property of sets that supersets keep -/
def Mono (U : Nat → Bool) : Prop := ∀ x y, x < 64 → y < 64 → sub x y = true → U x = true → U y = true
/-- c is in U, and no smaller set is -/
def isMin (U : Nat → Bool) (c : Nat) : Bool := U c && (List.range 64).all (fun d => !(sub d c && U d) || d == c)
/-- the minimal sets, ascending -/
def minOf (U : Nat → Bool) : List Nat := (List.range 64).filter (isMin U)

theorem sub_refl (x : Nat) : sub x x = true := by simp [sub]
theorem sub_trans {x y z : Nat} (hx : x < 64) (hy : y < 64) (h : sub x y = true) (k : sub y z = true) : sub x z = true := by
  rw [sub_iff x z hx]
  intro m hm
  exact (sub_iff y z hy).1 k m ((sub_iff x y hx).1 h m hm)
theorem sub_le {x y : Nat} (h : sub x y = true) : x ≤ y := by
  simp only [sub, beq_iff_eq] at h
  rw [← h]; exact Nat.and_le_right
theorem sub_anti {x y : Nat} (h : sub x y = true) (k : sub y x = true) : x = y := Nat.le_antisymm (sub_le h) (sub_le k)
theorem up_mono {q : List Nat} (hq : ∀ x ∈ q, x < 64) : Mono (up q) := by
  intro x y hx hy h hu
  unfold up at hu ⊢
  rw [List.any_eq_true] at hu ⊢
  obtain ⟨z, hz, hzx⟩ := hu
  exact ⟨z, hz, sub_trans (hq z hz) hx hzx h⟩
theorem isMin_iff (U : Nat → Bool) (c : Nat) : isMin U c = true ↔ U c = true ∧ ∀ d, d < 64 → sub d c = true → U d = true → d = c := by
  unfold isMin
  rw [Bool.and_eq_true, List.all_eq_true]
  constructor
  · rintro ⟨h1, h2⟩
    refine ⟨h1, fun d hd hs hU => ?_⟩
    have := h2 d (List.mem_range.2 hd)
    rw [hs, hU] at this
    simpa using this
  · rintro ⟨h1, h2⟩
    refine ⟨h1, fun d hd => ?_⟩
    cases hs : sub d c
    · rfl
    · cases hU : U d
      · rfl
      · have := h2 d (List.mem_range.1 hd) hs hU
        simp [this]
theorem mem_minOf (U : Nat → Bool) (c : Nat) : c ∈ minOf U ↔ c < 64 ∧ isMin U c = true := by
  unfold minOf; rw [List.mem_filter, List.mem_range]
theorem minOf_lt {U : Nat → Bool} {c : Nat} (h : c ∈ minOf U) : c < 64 := ((mem_minOf U c).1 h).1
theorem minOf_sorted (U : Nat → Bool) : (minOf U).Pairwise (· < ·) := by
  unfold minOf; exact List.Pairwise.filter _ List.pairwise_lt_range
/-- below every set of U lies a minimal one -/
theorem below_min (U : Nat → Bool) (c : Nat) : c < 64 → U c = true → ∃ d ∈ minOf U, sub d c = true := by
  induction c using Nat.strongRecOn with
  | _ c ih =>
    intro hc hU
    by_cases hm : isMin U c = true
    · exact ⟨c, (mem_minOf U c).2 ⟨hc, hm⟩, sub_refl c⟩
    · have : ∃ d, d < 64 ∧ sub d c = true ∧ U d = true ∧ d ≠ c := by
        refine Classical.byContradiction fun hno => hm ?_
        rw [isMin_iff]
        refine ⟨hU, fun d hd hs hu => ?_⟩
        exact Classical.byContradiction fun hne => hno ⟨d, hd, hs, hu, hne⟩
      obtain ⟨d, hd, hs, hu, hne⟩ := this
      have hlt : d < c := Nat.lt_of_le_of_ne (sub_le hs) hne
      obtain ⟨e, he, hes⟩ := ih d hlt hd hu
      exact ⟨e, he, sub_trans (minOf_lt he) hd hes hs⟩
theorem up_minOf {U : Nat → Bool} (hM : Mono U) {c : Nat} (hc : c < 64) : up (minOf U) c = U c := by
  rw [Bool.eq_iff_iff]
  unfold up
  rw [List.any_eq_true]
  constructor
  · rintro ⟨d, hd, hs⟩
    have h1 := (mem_minOf U d).1 hd
    exact hM d c h1.1 hc hs ((isMin_iff U d).1 h1.2).1
  · intro hU
    obtain ⟨d, hd, hs⟩ := below_min U c hc hU
    exact ⟨d, hd, hs⟩
theorem isMin_congr {U V : Nat → Bool} (h : ∀ c, c < 64 → U c = V c) {c : Nat} (hc : c < 64) : isMin U c = isMin V c := by
  rw [Bool.eq_iff_iff, isMin_iff, isMin_iff, h c hc]
  constructor
  · rintro ⟨h1, h2⟩; exact ⟨h1, fun d hd hs hv => h2 d hd hs (by rw [h d hd]; exact hv)⟩
  · rintro ⟨h1, h2⟩; exact ⟨h1, fun d hd hs hv => h2 d hd hs (by rw [← h d hd]; exact hv)⟩
theorem minOf_congr {U V : Nat → Bool} (h : ∀ c, c < 64 → U c = V c) : minOf U = minOf V := by
  unfold minOf
  exact List.filter_congr fun c hc => isMin_congr h (List.mem_range.1 hc)

/-- an ascending antichain of nonempty sets -/
def anti (q : List Nat) : Prop := q.Pairwise (fun x y => x < y ∧ sub x y = false) ∧ ∀ x ∈ q, x < 64 ∧ x ≠ 0
theorem minOf_anti (U : Nat → Bool) (h0 : U 0 = false) : anti (minOf U) := by
  refine ⟨?_, fun x hx => ?_⟩
  · refine List.Pairwise.imp_of_mem ?_ (minOf_sorted U)
    intro x y hx hy hlt
    refine ⟨hlt, ?_⟩
    cases hs : sub x y
    · rfl
    · have h1 := (mem_minOf U y).1 hy
      have h2 := (mem_minOf U x).1 hx
      have := ((isMin_iff U y).1 h1.2).2 x h2.1 hs ((isMin_iff U x).1 h2.2).1
      omega
  · refine ⟨minOf_lt hx, ?_⟩
    rintro rfl
    have := ((isMin_iff U 0).1 ((mem_minOf U 0).1 hx).2).1
    rw [h0] at this; cases this
theorem anti_lt {q : List Nat} (h : anti q) : ∀ x ∈ q, x < 64 := fun x hx => (h.2 x hx).1
theorem anti_sub {q : List Nat} (h : anti q) {x y : Nat} (hx : x ∈ q) (hy : y ∈ q) (hs : sub x y = true) : x = y := by
  have key : ∀ (l : List Nat), l.Pairwise (fun x y => x < y ∧ sub x y = false) → ∀ x ∈ l, ∀ y ∈ l, sub x y = true → x = y := by
    intro l hl
    induction l with
    | nil => intro x hx; cases hx
    | cons a r ih =>
      rw [List.pairwise_cons] at hl
      intro x hx y hy hs
      rcases List.mem_cons.1 hx with e | hx'
      · rcases List.mem_cons.1 hy with e' | hy'
        · rw [e, e']
        · have := hl.1 y hy'; rw [e, this.2] at hs; cases hs
      · rcases List.mem_cons.1 hy with e' | hy'
        · have := (hl.1 x hx').1
          have := sub_le hs; omega
        · exact ih hl.2 x hx' y hy' hs
  exact key q h.1 x hx y hy hs
/-- ascending lists with the same elements are one -/
theorem sorted_ext {p q : List Nat} (hp : p.Pairwise (· < ·)) (hq : q.Pairwise (· < ·)) (h : ∀ x, x ∈ p ↔ x ∈ q) : p = q := by
  induction p generalizing q with
  | nil =>
    cases q with
    | nil => rfl
    | cons b s => exact absurd ((h b).2 (List.mem_cons_self ..)) (by simp)
  | cons a r ih =>
    cases q with
    | nil => exact absurd ((h a).1 (List.mem_cons_self ..)) (by simp)
    | cons b s =>
      rw [List.pairwise_cons] at hp hq
      have hab : a = b := by
        have h1 := (h a).1 (List.mem_cons_self ..)
        have h2 := (h b).2 (List.mem_cons_self ..)
        rcases List.mem_cons.1 h1 with e | h1
        · exact e
        · rcases List.mem_cons.1 h2 with e | h2
          · exact e.symm
          · have := hq.1 a h1; have := hp.1 b h2; omega
      subst hab
      rw [ih hp.2 hq.2 (fun x => ?_)]
      constructor
      · intro hx
        rcases List.mem_cons.1 ((h x).1 (List.mem_cons_of_mem _ hx)) with rfl | hx'
        · have := hp.1 x hx; omega
        · exact hx'
      · intro hx
        rcases List.mem_cons.1 ((h x).2 (List.mem_cons_of_mem _ hx)) with rfl | hx'
        · have := hq.1 x hx; omega
        · exact hx'
/-- an antichain is the list of the minimal sets of what lies above it -/
theorem minOf_up {q : List Nat} (h : anti q) : minOf (up q) = q := by
  refine sorted_ext (minOf_sorted _) (h.1.imp (fun h => h.1)) (fun x => ?_)
  rw [mem_minOf, isMin_iff]
  constructor
  · rintro ⟨hx, hu, hmin⟩
    unfold up at hu
    rw [List.any_eq_true] at hu
    obtain ⟨y, hy, hs⟩ := hu
    have : y = x := hmin y (anti_lt h y hy) hs (by unfold up; rw [List.any_eq_true]; exact ⟨y, hy, sub_refl y⟩)
    subst this; exact hy
  · intro hx
    refine ⟨anti_lt h x hx, by unfold up; rw [List.any_eq_true]; exact ⟨x, hx, sub_refl x⟩, fun d hd hs hu => ?_⟩
    unfold up at hu
    rw [List.any_eq_true] at hu
    obtain ⟨y, hy, hsd⟩ := hu
    have : y = x := anti_sub h hy hx (sub_trans (anti_lt h y hy) hd hsd hs)
    subst this
    exact sub_anti hs hsd


/-- does a list contain one of these lists? -/
def hasB (f : List (List Int)) (s : List Int) : Bool := f.any (fun x => subB x s)
/-- may s follow the sets l? -/
def fstep (l : List (List Int)) (s : List Int) : Bool := valid s && (decide (mask s ≠ 0) && l.all (fun x => decide (mask x < mask s) && !sub (mask x) (mask s)))
def fvp (f : List (List Int)) : Bool := (List.range f.length).all (fun k => fstep (f.take k) (f.getD k []))
/-- is it a quorum system? -/
def famB (f : List (List Int)) : Bool := fvp f && decide (f.length ≤ 20)
def famL (q : List Nat) : List (List Int) := q.map mem
def masks (f : List (List Int)) : List Nat := f.map mask
/-- the minimal sets, as lists -/
def minL (f : List (List Int)) : List (List Int) := famL (minOf (fun c => hasB f (mem c)))

theorem snoc_take {α : Type} (xs : List α) (d : α) (k : Nat) (h : k < xs.length) : xs.take (k + 1) = xs.take k ++ [xs.getD k d] := by
  rw [List.take_add_one, List.getElem?_eq_getElem h]; simp [List.getD, h]
theorem take_full {α : Type} (xs : List α) (k : Nat) (h : xs.length ≤ k) : xs.take k = xs := List.take_of_length_le h
theorem getD_take {α : Type} (xs : List α) (d : α) (k j : Nat) (h : j < k) : (xs.take k).getD j d = xs.getD j d := by
  simp [List.getD, h]
theorem hasB_snoc (f : List (List Int)) (x s : List Int) : hasB (f ++ [x]) s = (hasB f s || subB x s) := by simp [hasB]
theorem hasB_step (f : List (List Int)) (s : List Int) (k : Nat) (h : k < f.length) : hasB (f.take (k + 1)) s = (hasB (f.take k) s || subB (f.getD k []) s) := by
  rw [snoc_take f [] k h, hasB_snoc]
theorem hasB_take {f : List (List Int)} {s : List Int} {k : Nat} (h : hasB (f.take k) s = true) : hasB f s = true := by
  unfold hasB at *
  rw [List.any_eq_true] at *
  obtain ⟨x, hx, hs⟩ := h
  exact ⟨x, List.mem_of_mem_take hx, hs⟩

theorem fvp_step (f : List (List Int)) (k : Nat) (h : k < f.length) : fvp (f.take (k + 1)) = (fvp (f.take k) && fstep (f.take k) (f.getD k [])) := by
  unfold fvp
  rw [List.length_take_of_le (by omega), List.length_take_of_le (by omega), List.range_succ, List.all_append, List.all_cons, List.all_nil, Bool.and_true,
    List.take_take, Nat.min_eq_left (by omega), getD_take _ _ _ _ (by omega)]
  congr 1
  rw [Bool.eq_iff_iff, List.all_eq_true, List.all_eq_true]
  constructor
  · intro hh j hj
    have hj' := List.mem_range.1 hj
    have := hh j hj
    rwa [List.take_take, Nat.min_eq_left (by omega), getD_take _ _ _ _ (by omega)] at this ⊢
  · intro hh j hj
    have hj' := List.mem_range.1 hj
    have := hh j hj
    rwa [List.take_take, Nat.min_eq_left (by omega), getD_take _ _ _ _ (by omega)] at this ⊢
theorem fvp_iff (f : List (List Int)) : fvp f = true ↔ ∀ k, k < f.length → fstep (f.take k) (f.getD k []) = true := by
  unfold fvp; rw [List.all_eq_true]
  exact ⟨fun h k hk => h k (List.mem_range.2 hk), fun h k hk => h k (List.mem_range.1 hk)⟩
theorem fvp_no {f : List (List Int)} {k : Nat} (hk : k < f.length) (h : fstep (f.take k) (f.getD k []) = false) : fvp f = false := by
  cases hf : fvp f
  · rfl
  · rw [(fvp_iff f).1 hf k hk] at h; cases h
theorem fstep_valid {l : List (List Int)} {s : List Int} (h : fstep l s = true) : valid s = true := by
  unfold fstep at h; rw [Bool.and_eq_true] at h; exact h.1
theorem fstep_all {l : List (List Int)} {s : List Int} (h : fstep l s = true) : ∀ x ∈ l, mask x < mask s ∧ sub (mask x) (mask s) = false := by
  unfold fstep at h
  simp only [Bool.and_eq_true, List.all_eq_true, decide_eq_true_eq, Bool.not_eq_true'] at h
  exact h.2.2
theorem fstep_pos {l : List (List Int)} {s : List Int} (h : fstep l s = true) : mask s ≠ 0 := by
  unfold fstep at h
  simp only [Bool.and_eq_true, decide_eq_true_eq] at h
  exact h.2.1
theorem fvp_valid {f : List (List Int)} (h : fvp f = true) {k : Nat} (hk : k < f.length) : valid (f.getD k []) = true := fstep_valid ((fvp_iff f).1 h k hk)
theorem getD_mem {f : List (List Int)} {k : Nat} (hk : k < f.length) : f.getD k [] ∈ f := by
  simp only [List.getD, List.getElem?_eq_getElem hk, Option.getD_some]; exact List.getElem_mem hk
theorem mem_getD {f : List (List Int)} {s : List Int} (h : s ∈ f) : ∃ k, k < f.length ∧ f.getD k [] = s := by
  obtain ⟨k, hk, rfl⟩ := List.getElem_of_mem h
  exact ⟨k, hk, by simp [List.getD, hk]⟩
theorem fvp_all {f : List (List Int)} (h : fvp f = true) : ∀ s ∈ f, valid s = true ∧ mask s ≠ 0 := by
  intro s hs
  obtain ⟨k, hk, rfl⟩ := mem_getD hs
  exact ⟨fvp_valid h hk, fstep_pos ((fvp_iff f).1 h k hk)⟩
/-- the masks of a valid prefix lie below its last -/
theorem fvp_last {f : List (List Int)} {k : Nat} (hk : k < f.length) (h : fvp (f.take (k + 1)) = true) : ∀ x ∈ f.take (k + 1), mask x ≤ mask (f.getD k []) := by
  rw [fvp_step f k hk, Bool.and_eq_true] at h
  intro x hx
  rw [snoc_take f [] k hk, List.mem_append] at hx
  rcases hx with hx | hx
  · exact Nat.le_of_lt (fstep_all h.2 x hx).1
  · rw [List.mem_singleton.1 hx]; exact Nat.le_refl _
/-- what the two programs test instead: the last mask alone -/
theorem fstep_of {f : List (List Int)} {k : Nat} {s : List Int} (hk : k < f.length) (h : fvp (f.take (k + 1)) = true) (hv : valid s = true) (h0 : mask s ≠ 0) (hl : mask (f.getD k []) < mask s)
    (hs : ∀ x ∈ f.take (k + 1), sub (mask x) (mask s) = false) : fstep (f.take (k + 1)) s = true := by
  unfold fstep
  simp only [Bool.and_eq_true, List.all_eq_true, decide_eq_true_eq, Bool.not_eq_true']
  exact ⟨hv, h0, fun x hx => ⟨Nat.lt_of_le_of_lt (fvp_last hk h x hx) hl, hs x hx⟩⟩
theorem fstep_first {s : List Int} (hv : valid s = true) (h0 : mask s ≠ 0) : fstep [] s = true := by
  unfold fstep; rw [hv]; simp [h0]
theorem fstep_bad {l : List (List Int)} {s x : List Int} (hx : x ∈ l) (h : mask s ≤ mask x ∨ sub (mask x) (mask s) = true) : fstep l s = false := by
  cases hf : fstep l s
  · rfl
  · have := fstep_all hf x hx
    rcases h with h | h
    · omega
    · rw [this.2] at h; cases h
theorem fstep_inv {l : List (List Int)} {s : List Int} (h : valid s = false) : fstep l s = false := by unfold fstep; rw [h]; rfl
theorem fstep_zero {l : List (List Int)} {s : List Int} (h : mask s = 0) : fstep l s = false := by unfold fstep; simp [h]
theorem mask_nil : mask [] = 0 := rfl
theorem mask_zero {s : List Int} (hv : valid s = true) (h : mask s = 0) : s = [] := by rw [← mem_mask hv, h]; rfl

theorem pairwise_masks {f : List (List Int)} (h : fvp f = true) : f.Pairwise (fun x y => mask x < mask y ∧ sub (mask x) (mask y) = false) := by
  rw [List.pairwise_iff_getElem]
  intro i j hi hj hij
  have := fstep_all ((fvp_iff f).1 h j hj) f[i] (by
    rw [List.mem_take_iff_getElem]
    exact ⟨i, by omega, rfl⟩)
  simpa [List.getD, hj] using this
theorem masks_anti {f : List (List Int)} (h : fvp f = true) : anti (masks f) := by
  refine ⟨?_, fun x hx => ?_⟩
  · unfold masks; rw [List.pairwise_map]; exact pairwise_masks h
  · obtain ⟨s, hs, rfl⟩ := List.mem_map.1 hx
    exact ⟨mask_lt (fvp_all h s hs).1, (fvp_all h s hs).2⟩
theorem famL_masks {f : List (List Int)} (h : ∀ s ∈ f, valid s = true) : famL (masks f) = f := by
  unfold famL masks; rw [List.map_map]
  conv => rhs; rw [← List.map_id f]
  exact List.map_congr_left fun s hs => by simp [mem_mask (h s hs)]
theorem famL_of {f : List (List Int)} (h : fvp f = true) : famL (masks f) = f := famL_masks fun s hs => (fvp_all h s hs).1
theorem masks_famL {q : List Nat} (h : ∀ x ∈ q, x < 64) : masks (famL q) = q := by
  unfold famL masks; rw [List.map_map]
  conv => rhs; rw [← List.map_id q]
  exact List.map_congr_left fun s hs => by simp [mask_mem (h s hs)]
theorem famL_valid {q : List Nat} (h : ∀ x ∈ q, x < 64) : ∀ s ∈ famL q, valid s = true := by
  intro s hs
  obtain ⟨c, hc, rfl⟩ := List.mem_map.1 hs
  exact mem_valid (h c hc)
theorem fvp_of_anti {f : List (List Int)} (hv : ∀ s ∈ f, valid s = true) (h : anti (masks f)) : fvp f = true := by
  rw [fvp_iff]
  intro k hk
  unfold fstep
  simp only [Bool.and_eq_true, List.all_eq_true, decide_eq_true_eq, Bool.not_eq_true']
  have hp := h.1
  unfold masks at hp
  rw [List.pairwise_map, List.pairwise_iff_getElem] at hp
  refine ⟨hv _ (getD_mem hk), (h.2 _ (List.mem_map_of_mem (getD_mem hk))).2, fun x hx => ?_⟩
  rw [List.mem_take_iff_getElem] at hx
  obtain ⟨i, hi, rfl⟩ := hx
  have := hp i k (by omega) hk (by omega)
  simpa [List.getD, hk] using this

/-- a partition of all sets into 20 chains -/
def chainTab : List Nat := [0, 0, 1, 0, 2, 2, 1, 0, 3, 3, 4, 3, 5, 2, 1, 0, 6, 6, 7, 6, 8, 8, 7, 6, 9, 9, 4, 3, 5, 2, 1, 0, 10, 10, 11, 10, 12, 12, 11, 10, 13, 13, 14, 13, 15, 12, 11, 10, 16, 16, 17, 16, 18, 8, 7, 6, 19, 9, 4, 3, 5, 2, 1, 0]
def chainOf (c : Nat) : Nat := chainTab.getD c 0
theorem chain_lt (c : Nat) (hc : c < 64) : chainOf c < 20 := by
  have key : ∀ c < 64, chainOf c < 20 := by decide +kernel
  exact key c hc
theorem chain_sub (x y : Nat) (hx : x < 64) (hy : y < 64) (h : chainOf x = chainOf y) : sub x y = true ∨ sub y x = true := by
  have key : ∀ x < 64, ∀ y < 64, chainOf x = chainOf y → sub x y = true ∨ sub y x = true := by decide +kernel
  exact key x hx y hy h
theorem nodup_len (n : Nat) : ∀ (l : List Nat), l.Nodup → (∀ x ∈ l, x < n) → l.length ≤ n := by
  intro l hl hb
  have := List.Nodup.length_le_of_subset hl (l₂ := List.range n) (fun x hx => List.mem_range.2 (hb x hx))
  simpa using this
/-- Sperner, for six members -/
theorem anti_len {q : List Nat} (h : anti q) : q.length ≤ 20 := by
  have hn : (q.map chainOf).Nodup := by
    unfold List.Nodup
    rw [List.pairwise_map]
    refine List.Pairwise.imp_of_mem ?_ h.1
    intro x y hx hy hxy he
    rcases chain_sub x y (anti_lt h x hx) (anti_lt h y hy) he with hs | hs
    · rw [hxy.2] at hs; cases hs
    · have := sub_le hs; omega
  have := nodup_len 20 _ hn (fun x hx => by
    obtain ⟨c, hc, rfl⟩ := List.mem_map.1 hx
    exact chain_lt c (anti_lt h c hc))
  simpa using this
theorem sub_len (x y : Nat) : sub x y = true → x ≤ y := sub_le
theorem famB_famL {q : List Nat} (h : anti q) : famB (famL q) = true := by
  have hl := anti_len h
  unfold famB
  rw [fvp_of_anti (famL_valid (anti_lt h)) (by rw [masks_famL (anti_lt h)]; exact h)]
  simp [famL, hl]
theorem famB_fvp {f : List (List Int)} (h : famB f = true) : fvp f = true := by unfold famB at h; rw [Bool.and_eq_true] at h; exact h.1
theorem famB_len {f : List (List Int)} (h : famB f = true) : f.length ≤ 20 := by unfold famB at h; simp only [Bool.and_eq_true, decide_eq_true_eq] at h; exact h.2

theorem subB_mono {x s t : List Int} (h : ∀ m, cont s m = true → cont t m = true) (k : subB x s = true) : subB x t = true := by
  unfold subB at *
  rw [List.all_eq_true] at *
  exact fun y hy => h y (k y hy)
theorem hasB_mono {f : List (List Int)} {s t : List Int} (h : ∀ m, cont s m = true → cont t m = true) (k : hasB f s = true) : hasB f t = true := by
  unfold hasB at *
  rw [List.any_eq_true] at *
  obtain ⟨x, hx, hs⟩ := k
  exact ⟨x, hx, subB_mono h hs⟩
theorem hasB_up (f : List (List Int)) : Mono (fun c => hasB f (mem c)) := by
  intro x y hx hy hs hu
  refine hasB_mono (fun m hm => ?_) hu
  rw [cont_valid m (mem_valid hx), mask_mem hx] at hm
  rw [cont_valid m (mem_valid hy), mask_mem hy]
  exact (sub_iff x y hx).1 hs m hm
theorem hasB_masks {f : List (List Int)} (h : ∀ s ∈ f, valid s = true) {s : List Int} (hs : valid s = true) : hasB f s = up (masks f) (mask s) := by
  unfold hasB up masks
  rw [List.any_map]
  have key : ∀ (l : List (List Int)), (∀ s ∈ l, valid s = true) → l.any (fun x => subB x s) = l.any ((fun x => sub x (mask s)) ∘ mask) := by
    intro l hl
    induction l with
    | nil => rfl
    | cons x r ih =>
      rw [List.any_cons, List.any_cons, ih (fun s hs => hl s (List.mem_cons_of_mem _ hs)), Function.comp_apply, subB_valid (hl x (List.mem_cons_self ..)) hs]
  exact key f h
theorem hasB_mem {f : List (List Int)} (h : ∀ s ∈ f, valid s = true) {c : Nat} (hc : c < 64) : hasB f (mem c) = up (masks f) c := by
  rw [hasB_masks h (mem_valid hc), mask_mem hc]
theorem minL_masks {f : List (List Int)} (h : ∀ s ∈ f, valid s = true) : minL f = famL (minOf (up (masks f))) := by
  unfold minL; rw [minOf_congr (fun c hc => hasB_mem h hc)]

/-- minimality, tested one member at a time -/
def lessTo (f : List (List Int)) (c k : Nat) : Bool := hasB f (mem c) && (List.range k).all (fun i => !hasB f ((mem c).eraseIdx i))
theorem erase_mem (c : Nat) (hc : c < 64) (i : Nat) (hi : i < (mem c).length) : ∃ d, d < 64 ∧ (mem c).eraseIdx i = mem d ∧ sub d c = true ∧ d ≠ c := by
  have key : ∀ c < 64, ∀ i < 6, i < (mem c).length → ∃ d, d < 64 ∧ (mem c).eraseIdx i = mem d ∧ sub d c = true ∧ d ≠ c := by decide +kernel
  exact key c hc i (Nat.lt_of_lt_of_le hi mem_len) hi
theorem erase_above (c d : Nat) (hc : c < 64) (hd : d < 64) (hs : sub d c = true) (hne : d ≠ c) : ∃ i, i < (mem c).length ∧ subB (mem d) ((mem c).eraseIdx i) = true := by
  have key : ∀ c < 64, ∀ d < 64, sub d c = true → d ≠ c → ∃ i, i < 6 ∧ i < (mem c).length ∧ subB (mem d) ((mem c).eraseIdx i) = true := by decide +kernel
  obtain ⟨i, _, h⟩ := key c hc d hd hs hne
  exact ⟨i, h⟩
theorem lessTo_min (f : List (List Int)) (c : Nat) (hc : c < 64) : lessTo f c (mem c).length = isMin (fun c => hasB f (mem c)) c := by
  rw [Bool.eq_iff_iff, isMin_iff]
  unfold lessTo
  rw [Bool.and_eq_true, List.all_eq_true]
  constructor
  · rintro ⟨h1, h2⟩
    refine ⟨h1, fun d hd hs hu => Classical.byContradiction fun hne => ?_⟩
    obtain ⟨i, hi, hsub⟩ := erase_above c d hc hd hs hne
    have := h2 i (List.mem_range.2 hi)
    have h3 : hasB f ((mem c).eraseIdx i) = true := by
      refine hasB_mono (fun m hm => ?_) hu
      unfold subB at hsub
      rw [List.all_eq_true] at hsub
      exact hsub m (by simpa [cont] using hm)
    rw [h3] at this; cases this
  · rintro ⟨h1, h2⟩
    refine ⟨h1, fun i hi => ?_⟩
    obtain ⟨d, hd, he, hs, hne⟩ := erase_mem c hc i (List.mem_range.1 hi)
    rw [he]
    cases hu : hasB f (mem d)
    · rfl
    · exact absurd (h2 d hd hs hu) hne
theorem lessTo_succ (f : List (List Int)) (c k : Nat) : lessTo f c (k + 1) = (lessTo f c k && !hasB f ((mem c).eraseIdx k)) := by
  unfold lessTo; rw [List.range_succ, List.all_append]; simp [Bool.and_assoc]
/-- the minimal sets below a mask -/
def minTo (f : List (List Int)) (k : Nat) : List (List Int) := ((List.range k).filter (isMin (fun c => hasB f (mem c)))).map mem
theorem minTo_succ (f : List (List Int)) (k : Nat) : minTo f (k + 1) = if isMin (fun c => hasB f (mem c)) k then minTo f k ++ [mem k] else minTo f k := by
  unfold minTo; rw [List.range_succ, List.filter_append]
  cases h : isMin (fun c => hasB f (mem c)) k <;> simp [h]
theorem minTo_len (f : List (List Int)) (k : Nat) : (minTo f k).length ≤ k := by
  unfold minTo; rw [List.length_map]
  exact Nat.le_trans (List.length_filter_le _ _) (by simp)
theorem minTo_all (f : List (List Int)) : minTo f 64 = minL f := rfl


def swp (q : List Nat) (i j : Nat) : List Nat := (q.set i (q.getD j 0)).set j (q.getD i 0)
theorem swp_len (q : List Nat) (i j : Nat) : (swp q i j).length = q.length := by simp [swp]
theorem swp_perm (q : List Nat) (i j : Nat) (hi : i < q.length) (hj : j < q.length) : (swp q i j).Perm q := by
  have := List.set_set_perm (as := q) hi hj
  simpa [swp, List.getD, hi, hj] using this
theorem swp_get (q : List Nat) (i j k : Nat) (hi : i < q.length) (hj : j < q.length) :
    (swp q i j).getD k 0 = if k = j then q.getD i 0 else if k = i then q.getD j 0 else q.getD k 0 := by
  unfold swp
  simp only [List.getD, List.getElem?_set, List.length_set]
  by_cases h1 : k = j
  · subst h1; simp [hj]
  · by_cases h2 : k = i
    · subst h2; simp [h1, hi, Ne.symm h1]
    · simp [h1, h2, Ne.symm h1, Ne.symm h2]

/-- a heap on the first n -/
def heapOn (n : Nat) (q : List Nat) : Prop := ∀ k, 0 < k → k < n → q.getD ((k - 1) / 2) 0 ≤ q.getD k 0
/-- a heap but for the place j -/
def upAt (j : Nat) (q : List Nat) : Prop :=
  (∀ k, 0 < k → k < q.length → k ≠ j → q.getD ((k - 1) / 2) 0 ≤ q.getD k 0) ∧
  (0 < j → ∀ k, 0 < k → k < q.length → (k - 1) / 2 = j → q.getD ((j - 1) / 2) 0 ≤ q.getD k 0)
/-- a heap on the first n but for what lies below the place i -/
def downAt (n i : Nat) (q : List Nat) : Prop :=
  (∀ k, 0 < k → k < n → (k - 1) / 2 ≠ i → q.getD ((k - 1) / 2) 0 ≤ q.getD k 0) ∧
  (0 < i → ∀ k, 0 < k → k < n → (k - 1) / 2 = i → q.getD ((i - 1) / 2) 0 ≤ q.getD k 0)

theorem up_done {j : Nat} {q : List Nat} (h : upAt j q) (h2 : j = 0 ∨ q.getD ((j - 1) / 2) 0 ≤ q.getD j 0) : heapOn q.length q := by
  intro k hk hn
  by_cases hkj : k = j
  · subst hkj
    rcases h2 with h2 | h2
    · omega
    · exact h2
  · exact h.1 k hk hn hkj
theorem up_step {j : Nat} {q : List Nat} (h : upAt j q) (hj : j < q.length) (h0 : 0 < j) (hlt : q.getD j 0 < q.getD ((j - 1) / 2) 0) : upAt ((j - 1) / 2) (swp q ((j - 1) / 2) j) := by
  have hi : (j - 1) / 2 < q.length := by omega
  have hne : (j - 1) / 2 ≠ j := by omega
  obtain ⟨h1, h2⟩ := h
  generalize hI : (j - 1) / 2 = i at *
  refine ⟨fun k hk hn hki => ?_, fun hi0 k hk hn hki => ?_⟩
  · rw [swp_len] at hn
    rw [swp_get q i j _ hi hj, swp_get q i j _ hi hj]
    by_cases hkj : k = j
    · subst hkj
      rw [hI, if_neg hne, if_pos rfl, if_pos rfl]; omega
    · rw [if_neg hkj, if_neg hki]
      by_cases hpj : (k - 1) / 2 = j
      · rw [if_pos hpj]
        exact h2 h0 k hk hn hpj
      · rw [if_neg hpj]
        by_cases hpi : (k - 1) / 2 = i
        · rw [if_pos hpi]
          have := h1 k hk hn hkj
          rw [hpi] at this; omega
        · rw [if_neg hpi]
          exact h1 k hk hn hkj
  · rw [swp_len] at hn
    have hp : (i - 1) / 2 ≠ j := by omega
    have hp2 : (i - 1) / 2 ≠ i := by omega
    have hpi := h1 i hi0 hi hne
    rw [swp_get q i j _ hi hj, swp_get q i j _ hi hj, if_neg hp, if_neg hp2]
    by_cases hkj : k = j
    · subst hkj
      rw [if_pos rfl]; exact hpi
    · have hkne : k ≠ i := by omega
      rw [if_neg hkj, if_neg hkne]
      have := h1 k hk hn hkj
      rw [hki] at this; omega
theorem up_start {q : List Nat} (x : Nat) (h : heapOn q.length q) : upAt q.length (q ++ [x]) := by
  refine ⟨fun k hk hn hkj => ?_, fun _ k hk hn hkj => ?_⟩
  · rw [List.length_append] at hn
    simp at hn
    have hk2 : k < q.length := by omega
    have := h k hk hk2
    simpa [List.getD, List.getElem?_append_left hk2, List.getElem?_append_left (show (k - 1) / 2 < q.length by omega)] using this
  · rw [List.length_append] at hn
    simp at hn
    omega

theorem down_done {n i : Nat} {q : List Nat} (h : downAt n i q) (h2 : ∀ k, 0 < k → k < n → (k - 1) / 2 = i → q.getD i 0 ≤ q.getD k 0) : heapOn n q := by
  intro k hk hn
  by_cases hki : (k - 1) / 2 = i
  · rw [hki]; exact h2 k hk hn hki
  · exact h.1 k hk hn hki
theorem down_leaf {n i : Nat} {q : List Nat} (h : downAt n i q) (h2 : n ≤ 2 * i + 1) : heapOn n q :=
  down_done h fun k hk hn hki => by omega
theorem down_stop {n i j : Nat} {q : List Nat} (h : downAt n i q) (hmin : ∀ k, k = 2 * i + 1 ∨ k = 2 * i + 2 → k < n → q.getD j 0 ≤ q.getD k 0) (hle : q.getD i 0 ≤ q.getD j 0) : heapOn n q :=
  down_done h fun k hk hn hki => Nat.le_trans hle (hmin k (by omega) hn)
theorem down_step {n i j : Nat} {q : List Nat} (h : downAt n i q) (hn : n ≤ q.length) (hj : j = 2 * i + 1 ∨ j = 2 * i + 2) (hjn : j < n) (hmin : ∀ k, k = 2 * i + 1 ∨ k = 2 * i + 2 → k < n → q.getD j 0 ≤ q.getD k 0)
    (hlt : q.getD j 0 < q.getD i 0) : downAt n j (swp q i j) := by
  have hi' : i < q.length := by omega
  have hj' : j < q.length := by omega
  have hij : i ≠ j := by omega
  have hpj : (j - 1) / 2 = i := by omega
  obtain ⟨h1, h2⟩ := h
  refine ⟨fun k hk hkn hkj => ?_, fun hj0 k hk hkn hkj => ?_⟩
  · rw [swp_get q i j _ hi' hj', swp_get q i j _ hi' hj', if_neg hkj]
    by_cases hkj2 : k = j
    · subst hkj2
      rw [if_pos hpj, if_pos rfl]; omega
    · rw [if_neg hkj2]
      by_cases hpi : (k - 1) / 2 = i
      · have hki : k ≠ i := by omega
        rw [if_pos hpi, if_neg hki]
        exact hmin k (by omega) hkn
      · rw [if_neg hpi]
        by_cases hki : k = i
        · subst hki
          rw [if_pos rfl]
          exact h2 hk j (by omega) hjn hpj
        · rw [if_neg hki]
          exact h1 k hk hkn hpi
  · have hkj2 : k ≠ j := by omega
    have hki : k ≠ i := by omega
    rw [swp_get q i j _ hi' hj', swp_get q i j _ hi' hj', hpj, if_neg hij, if_pos rfl, if_neg hkj2, if_neg hki]
    have := h1 k hk hkn (by omega)
    rw [hkj] at this; exact this
theorem down_start {q : List Nat} {n : Nat} (hl : q.length = n + 1) (h : heapOn q.length q) : downAt n 0 (swp q 0 n) := by
  refine ⟨fun k hk hkn hp => ?_, fun h0 => by omega⟩
  rw [swp_get q 0 n _ (by omega) (by omega), swp_get q 0 n _ (by omega) (by omega), if_neg (by omega), if_neg hp, if_neg (by omega), if_neg (by omega)]
  exact h k hk (by omega)
/-- the first of a heap is the least -/
theorem heap_min {q : List Nat} (h : heapOn q.length q) (k : Nat) : k < q.length → q.getD 0 0 ≤ q.getD k 0 := by
  induction k using Nat.strongRecOn with
  | _ k ih =>
    intro hk
    by_cases h0 : k = 0
    · subst h0; exact Nat.le_refl _
    · exact Nat.le_trans (ih ((k - 1) / 2) (by omega) (by omega)) (h k (by omega) hk)
theorem heap_least {q : List Nat} (h : heapOn q.length q) : ∀ x ∈ q, q.getD 0 0 ≤ x := by
  intro x hx
  obtain ⟨k, hk, rfl⟩ := List.getElem_of_mem hx
  have := heap_min h k hk
  simpa [List.getD, hk] using this
theorem heap_take {n : Nat} {q : List Nat} (h : heapOn n q) (hn : n ≤ q.length) : heapOn (q.take n).length (q.take n) := by
  rw [List.length_take, Nat.min_eq_left hn]
  intro k hk hkn
  have := h k hk hkn
  simpa [List.getD, List.getElem?_take, hkn, show (k - 1) / 2 < n by omega] using this
theorem heap_nil : heapOn ([] : List Nat).length [] := fun k _ h => by simp at h
theorem heap_one_mem {q q' : List Nat} (h : q'.Perm q) (x : Nat) : x ∈ q' ↔ x ∈ q := h.mem_iff
/-- what is left, and what came out -/
theorem popped {q q' : List Nat} {n : Nat} (hl : q'.length = n + 1) (h : q'.Perm q) : (q'.take n ++ [q'.getD n 0]).Perm q := by
  have : q'.take n ++ [q'.getD n 0] = q' := by
    have h2 := List.take_append_drop n q'
    rw [List.drop_eq_getElem_cons (by omega), List.drop_of_length_le (by omega)] at h2
    simpa [List.getD, show n < q'.length by omega] using h2
  rw [this]; exact h

/-- what 'minimal' keeps between two rounds: 'out' of what came out so far, 'left' still in the heap -/
def MinI (sets out left : List Nat) : Prop :=
  out.Pairwise (fun x y => x < y ∧ sub x y = false) ∧ (∀ x ∈ out, x ∈ sets) ∧ (∀ x ∈ left, x ∈ sets) ∧ (∀ x ∈ sets, x ∈ left ∨ up out x = true) ∧ (∀ x ∈ out, ∀ y ∈ left, x ≤ y)
theorem MinI.start (sets : List Nat) {left : List Nat} (h : left.Perm sets) : MinI sets [] left :=
  ⟨List.Pairwise.nil, fun x hx => by simp at hx, fun x hx => h.mem_iff.1 hx, fun x hx => .inl (h.mem_iff.2 hx), fun x hx => by simp at hx⟩
theorem MinI.skip {sets out left left' : List Nat} {x : Nat} (h : MinI sets out left) (hp : (left' ++ [x]).Perm left) (hu : up out x = true) : MinI sets out left' := by
  obtain ⟨h1, h2, h3, h4, h5⟩ := h
  have hm : ∀ y, y ∈ left ↔ y ∈ left' ∨ y = x := fun y => by rw [← hp.mem_iff, List.mem_append, List.mem_singleton]
  refine ⟨h1, h2, fun y hy => h3 y ((hm y).2 (.inl hy)), fun y hy => ?_, fun y hy z hz => h5 y hy z ((hm z).2 (.inl hz))⟩
  rcases h4 y hy with h | h
  · rcases (hm y).1 h with h | rfl
    · exact .inl h
    · exact .inr hu
  · exact .inr h
theorem MinI.keep {sets out left left' : List Nat} {x : Nat} (h : MinI sets out left) (hp : (left' ++ [x]).Perm left) (hx : ∀ y ∈ left, x ≤ y) (hu : up out x = false) : MinI sets (out ++ [x]) left' := by
  obtain ⟨h1, h2, h3, h4, h5⟩ := h
  have hm : ∀ y, y ∈ left ↔ y ∈ left' ∨ y = x := fun y => by rw [← hp.mem_iff, List.mem_append, List.mem_singleton]
  have hxl : x ∈ left := (hm x).2 (.inr rfl)
  have hno : ∀ y ∈ out, sub y x = false := by
    unfold up at hu
    rw [List.any_eq_false] at hu
    intro y hy
    simpa using hu y hy
  refine ⟨?_, fun y hy => ?_, fun y hy => h3 y ((hm y).2 (.inl hy)), fun y hy => ?_, fun y hy z hz => ?_⟩
  · rw [List.pairwise_append]
    refine ⟨h1, List.pairwise_singleton _ _, fun y hy z hz => ?_⟩
    rw [List.mem_singleton] at hz
    subst hz
    refine ⟨Nat.lt_of_le_of_ne (h5 y hy z hxl) ?_, hno y hy⟩
    rintro rfl
    have := hno y hy
    rw [sub_refl] at this; cases this
  · rcases List.mem_append.1 hy with hy | hy
    · exact h2 y hy
    · rw [List.mem_singleton.1 hy]; exact h3 x hxl
  · have hup : ∀ z, up out z = true → up (out ++ [x]) z = true := fun z hz => by unfold up at hz ⊢; rw [List.any_append, hz]; rfl
    rcases h4 y hy with h | h
    · rcases (hm y).1 h with h | rfl
      · exact .inl h
      · exact .inr (by unfold up; rw [List.any_append]; simp [sub_refl])
    · exact .inr (hup y h)
  · rcases List.mem_append.1 hy with hy | hy
    · exact h5 y hy z ((hm z).2 (.inl hz))
    · rw [List.mem_singleton.1 hy]; exact hx z ((hm z).2 (.inl hz))
/-- an antichain, the empty set allowed -/
def anti0 (q : List Nat) : Prop := q.Pairwise (fun x y => x < y ∧ sub x y = false) ∧ ∀ x ∈ q, x < 64
theorem anti0_sub {q : List Nat} (h : anti0 q) {x y : Nat} (hx : x ∈ q) (hy : y ∈ q) (hs : sub x y = true) : x = y := by
  have key : ∀ (l : List Nat), l.Pairwise (fun x y => x < y ∧ sub x y = false) → ∀ x ∈ l, ∀ y ∈ l, sub x y = true → x = y := by
    intro l hl
    induction l with
    | nil => intro x hx; cases hx
    | cons a r ih =>
      rw [List.pairwise_cons] at hl
      intro x hx y hy hs
      rcases List.mem_cons.1 hx with e | hx'
      · rcases List.mem_cons.1 hy with e' | hy'
        · rw [e, e']
        · have := hl.1 y hy'; rw [e, this.2] at hs; cases hs
      · rcases List.mem_cons.1 hy with e' | hy'
        · have := (hl.1 x hx').1
          have := sub_le hs; omega
        · exact ih hl.2 x hx' y hy' hs
  exact key q h.1 x hx y hy hs
theorem minOf_up0 {q : List Nat} (h : anti0 q) : minOf (up q) = q := by
  refine sorted_ext (minOf_sorted _) (h.1.imp (fun h => h.1)) (fun x => ?_)
  rw [mem_minOf, isMin_iff]
  constructor
  · rintro ⟨hx, hu, hmin⟩
    unfold up at hu
    rw [List.any_eq_true] at hu
    obtain ⟨y, hy, hs⟩ := hu
    have : y = x := hmin y (h.2 y hy) hs (by unfold up; rw [List.any_eq_true]; exact ⟨y, hy, sub_refl y⟩)
    subst this; exact hy
  · intro hx
    refine ⟨h.2 x hx, by unfold up; rw [List.any_eq_true]; exact ⟨x, hx, sub_refl x⟩, fun d hd hs hu => ?_⟩
    unfold up at hu
    rw [List.any_eq_true] at hu
    obtain ⟨y, hy, hsd⟩ := hu
    have : y = x := anti0_sub h hy hx (sub_trans (h.2 y hy) hd hsd hs)
    subst this
    exact sub_anti hs hsd
theorem MinI.done {sets out : List Nat} (h : MinI sets out []) (h64 : ∀ x ∈ sets, x < 64) : out = minOf (up sets) := by
  obtain ⟨h1, h2, _, h4, _⟩ := h
  rw [← minOf_up0 ⟨h1, fun x hx => h64 x (h2 x hx)⟩]
  refine minOf_congr fun c hc => ?_
  rw [Bool.eq_iff_iff]
  constructor
  · intro hu
    unfold up at hu ⊢
    rw [List.any_eq_true] at hu ⊢
    obtain ⟨y, hy, hs⟩ := hu
    exact ⟨y, h2 y hy, hs⟩
  · intro hu
    have hu' := hu
    unfold up at hu'
    rw [List.any_eq_true] at hu'
    obtain ⟨y, hy, hs⟩ := hu'
    rcases h4 y hy with h | h
    · simp at h
    · exact up_mono (fun x hx => h64 x (h2 x hx)) y c (h64 y hy) hc hs h


/-- does a quorum system have a quorum within a set? -/
def hasL (f : List (List Int)) (s : List Int) : Bool := famB f && (valid s && up (masks f) (mask s))
def survL (f : List (List Int)) (s : List Int) : Bool := famB f && (valid s && up (masks f) (dif 63 (mask s)))
/-- the members of all -/
def allOf (q : List Nat) : Nat := q.foldl (fun c x => c &&& x) 63
def critL (f : List (List Int)) : List Int := if famB f && decide (f ≠ []) then mem (allOf (masks f)) else []
/-- may these be minimized? -/
def okM (f : List (List Int)) : Bool := f.all (fun s => valid s && decide (mask s ≠ 0)) && decide (f.length ≤ 64)
def minimizeL (f : List (List Int)) : List (List Int) := if okM f then minL f else []
def ok2 (f g : List (List Int)) : Bool := famB f && famB g
def eitherL (f g : List (List Int)) : List (List Int) := if ok2 f g then minL (f ++ g) else []
/-- all unions -/
def unis (p q : List Nat) : List Nat := p.flatMap (fun x => q.map (fun y => x ||| y))
def bothL (f g : List (List Int)) : List (List Int) := if ok2 f g then famL (minOf (up (unis (masks f) (masks g)))) else []
def sameF (f g : List (List Int)) : Bool := decide (f = g)
theorem sameF_refl (f : List (List Int)) : sameF f f = true := by simp [sameF]

theorem masks_lt {f : List (List Int)} (h : famB f = true) : ∀ x ∈ masks f, x < 64 := fun x hx => ((masks_anti (famB_fvp h)).2 x hx).1
theorem fam_valid {f : List (List Int)} (h : famB f = true) : ∀ s ∈ f, valid s = true := fun s hs => (fvp_all (famB_fvp h) s hs).1
theorem fam_anti {f : List (List Int)} (h : famB f = true) : anti (masks f) := masks_anti (famB_fvp h)
theorem fam_of {f : List (List Int)} (h : famB f = true) : famL (masks f) = f := famL_of (famB_fvp h)
theorem hasL_yes {f : List (List Int)} {s : List Int} (h : famB f = true) (hs : valid s = true) : hasL f s = up (masks f) (mask s) := by unfold hasL; rw [h, hs]; rfl
theorem hasL_mem {f : List (List Int)} {c : Nat} (h : famB f = true) (hc : c < 64) : hasL f (mem c) = up (masks f) c := by rw [hasL_yes h (mem_valid hc), mask_mem hc]
theorem survL_yes {f : List (List Int)} {s : List Int} (h : famB f = true) (hs : valid s = true) : survL f s = up (masks f) (dif 63 (mask s)) := by unfold survL; rw [h, hs]; rfl
theorem hasB_hasL {f : List (List Int)} {s : List Int} (h : famB f = true) (hs : valid s = true) : hasB f s = hasL f s := by rw [hasL_yes h hs]; exact hasB_masks (fam_valid h) hs

theorem mono_sub {q : List Nat} (hq : ∀ x ∈ q, x < 64) {x y : Nat} (hx : x < 64) (hy : y < 64) (hs : sub x y = true) (hu : up q x = true) : up q y = true := up_mono hq x y hx hy hs hu
theorem sub_or_left (x y : Nat) (hx : x < 64) : sub x (x ||| y) = true := by
  rw [sub_iff _ _ hx]; intro m hm; rw [has_or, hm]; rfl
theorem sub_or_right (x y : Nat) (hy : y < 64) : sub y (x ||| y) = true := by
  rw [sub_iff _ _ hy]; intro m hm; rw [has_or, hm, Bool.or_true]
theorem or_sub {x y z : Nat} (hx : x < 64) (hy : y < 64) : sub (x ||| y) z = (sub x z && sub y z) := by
  rw [Bool.eq_iff_iff, Bool.and_eq_true, sub_iff _ _ (or_lt hx hy), sub_iff _ _ hx, sub_iff _ _ hy]
  constructor
  · intro h; exact ⟨fun m hm => h m (by rw [has_or, hm]; rfl), fun m hm => h m (by rw [has_or, hm, Bool.or_true])⟩
  · rintro ⟨h1, h2⟩ m hm
    rw [has_or, Bool.or_eq_true] at hm
    rcases hm with hm | hm
    · exact h1 m hm
    · exact h2 m hm

/-! FnHasQuorum -/
def anySub (f : List (List Int)) (s : List Int) : Bool := f.any (fun x => subsetL x s)
theorem anySub_step (f : List (List Int)) (s : List Int) (k : Nat) (h : k < f.length) : anySub (f.take (k + 1)) s = (anySub (f.take k) s || subsetL (f.getD k []) s) := by
  unfold anySub; rw [snoc_take f [] k h]; simp
theorem anySub_has {f : List (List Int)} {s : List Int} (h : ∀ x ∈ f, valid x = true) (hs : valid s = true) : anySub f s = up (masks f) (mask s) := by
  unfold anySub up masks
  rw [List.any_map]
  have key : ∀ (l : List (List Int)), (∀ s ∈ l, valid s = true) → l.any (fun x => subsetL x s) = l.any ((fun x => sub x (mask s)) ∘ mask) := by
    intro l hl
    induction l with
    | nil => rfl
    | cons x r ih => rw [List.any_cons, List.any_cons, ih (fun s hs => hl s (List.mem_cons_of_mem _ hs)), Function.comp_apply, subsetL_yes (hl x (List.mem_cons_self ..)) hs]
  exact key f h
theorem anySub_hasL {f : List (List Int)} {s : List Int} (h : famB f = true) (hs : valid s = true) : anySub f s = hasL f s := by rw [hasL_yes h hs]; exact anySub_has (fam_valid h) hs
theorem hasL_union {f : List (List Int)} {s : List Int} (hu : hasL f s = true) {c : Nat} (hc : c < 64) : hasL f (unionL s (mem c)) = true := by
  have hf : famB f = true := by unfold hasL at hu; rw [Bool.and_eq_true] at hu; exact hu.1
  have hs : valid s = true := by unfold hasL at hu; rw [Bool.and_eq_true, Bool.and_eq_true] at hu; exact hu.2.1
  obtain ⟨x, hx, rfl⟩ := valid_mem hs
  rw [unionL_mem hx hc, hasL_mem hf (or_lt hx hc)]
  rw [hasL_mem hf hx] at hu
  exact mono_sub (masks_lt hf) hx (or_lt hx hc) (sub_or_left x c hx) hu

/-! FnQuorumsMinimal -/
theorem hasL_self {f : List (List Int)} (h : famB f = true) {k : Nat} (hk : k < f.length) : hasL f (f.getD k []) = true := by
  have hm := getD_mem hk
  rw [hasL_yes h (fam_valid h _ hm)]
  unfold up; rw [List.any_eq_true]
  exact ⟨_, List.mem_map_of_mem hm, sub_refl _⟩
theorem valid_one {m : Int} (h1 : 1 ≤ m) (h2 : m ≤ 6) : valid [m] = true := by
  unfold valid vfrom vfrom; simp; omega
theorem mask_one (m : Int) : mask [m] = bit m := by simp [mask]
theorem dif_bit_sub {c : Nat} {m : Int} (hc : c < 64) (h : has c m = true) : sub (dif c (bit m)) c = true ∧ dif c (bit m) ≠ c := by
  have key : ∀ c < 64, ∀ m ∈ ([1, 2, 3, 4, 5, 6] : List Int), has c m = true → sub (dif c (bit m)) c = true ∧ dif c (bit m) ≠ c := by decide +kernel
  have hm := has_lt h
  have : m = 1 ∨ m = 2 ∨ m = 3 ∨ m = 4 ∨ m = 5 ∨ m = 6 := by omega
  exact key c hc m (by simpa using this) h
theorem minus_one {s : List Int} (hs : valid s = true) {k : Nat} (hk : k < s.length) : minusL s [s.getD k 0] = mem (dif (mask s) (bit (s.getD k 0))) ∧ has (mask s) (s.getD k 0) = true ∧ 1 ≤ s.getD k 0 ∧ s.getD k 0 ≤ 6 := by
  have hg := valid_get hs k hk
  refine ⟨?_, ?_, hg⟩
  · rw [minusL_yes hs (valid_one hg.1 hg.2), mask_one]
  · have hm : s.getD k 0 ∈ mem (mask s) := by rw [mem_mask hs]; simp [List.getD, hk]
    exact (mem_has _ _).1 hm
theorem hasL_less {f : List (List Int)} (h : famB f = true) {i : Nat} (hi : i < f.length) {k : Nat} (hk : k < (f.getD i []).length) :
    hasL f (minusL (f.getD i []) [(f.getD i []).getD k 0]) = false := by
  have hm := getD_mem hi
  have hv := fam_valid h _ hm
  obtain ⟨e, hh, _⟩ := minus_one hv hk
  have hlt := mask_lt hv
  rw [e, hasL_mem h (dif_lt hlt)]
  obtain ⟨h1, h2⟩ := dif_bit_sub hlt hh
  cases hu : up (masks f) (dif (mask (f.getD i [])) (bit ((f.getD i []).getD k 0)))
  · rfl
  · exfalso
    unfold up at hu
    rw [List.any_eq_true] at hu
    obtain ⟨y, hy, hs⟩ := hu
    have hya := masks_lt h y hy
    have := anti_sub (fam_anti h) hy (List.mem_map_of_mem hm) (sub_trans hya (dif_lt hlt) hs h1)
    subst this
    exact h2 (sub_anti h1 hs)

/-! FnCritical -/
theorem allOf_snoc (q : List Nat) (x : Nat) : allOf (q ++ [x]) = allOf q &&& x := by simp [allOf, List.foldl_append]
theorem allOf_lt (q : List Nat) : allOf q < 64 := by
  unfold allOf
  have key : ∀ (q : List Nat) (c : Nat), c < 64 → q.foldl (fun c x => c &&& x) c < 64 := by
    intro q
    induction q with
    | nil => intro c hc; exact hc
    | cons x r ih => intro c hc; exact ih _ (and_lt hc)
  exact key q 63 (by decide)
theorem has_allOf (q : List Nat) (m : Int) : has (allOf q) m = (isM m && q.all (fun x => has x m)) := by
  unfold allOf
  have key : ∀ (q : List Nat) (c : Nat), has (q.foldl (fun c x => c &&& x) c) m = (has c m && q.all (fun x => has x m)) := by
    intro q
    induction q with
    | nil => intro c; simp
    | cons x r ih => intro c; rw [List.foldl_cons, ih, has_and, List.all_cons, Bool.and_assoc]
  rw [key, has_full]
theorem bit_sub (x : Nat) (m : Int) (hx : x < 64) (h1 : 1 ≤ m) (h2 : m ≤ 6) : sub x (dif 63 (bit m)) = !has x m := by
  have key : ∀ x < 64, ∀ m ∈ ([1, 2, 3, 4, 5, 6] : List Int), sub x (dif 63 (bit m)) = !has x m := by decide +kernel
  have : m = 1 ∨ m = 2 ∨ m = 3 ∨ m = 4 ∨ m = 5 ∨ m = 6 := by omega
  exact key x hx m (by simpa using this)
theorem crit_law {f : List (List Int)} (h : famB f = true) (hn : f ≠ []) (m : Int) (h1 : 1 ≤ m) (h2 : m ≤ 6) : containsL (critL f) m = !survL f [m] := by
  have hv := valid_one h1 h2
  unfold critL
  rw [h, decide_eq_true hn, Bool.true_and, if_pos rfl, containsL_mem (allOf_lt _), has_allOf, survL_yes h hv, mask_one]
  have him : isM m = true := by unfold isM; simp [h1, h2]
  rw [him, Bool.true_and]
  unfold up
  rw [Bool.eq_iff_iff, Bool.not_eq_true', List.any_eq_false, List.all_eq_true]
  have hq := masks_lt h
  constructor
  · intro k x hx; rw [bit_sub x m (hq x hx) h1 h2, k x hx]; simp
  · intro k x hx
    have := k x hx
    rw [bit_sub x m (hq x hx) h1 h2] at this
    simpa using this
theorem critL_valid (f : List (List Int)) : valid (critL f) = true := by
  unfold critL; split
  · exact mem_valid (allOf_lt _)
  · rfl
theorem critL_len (f : List (List Int)) : (critL f).length ≤ 6 := valid_len (critL_valid f)

/-! FnSurvives -/
theorem surv_law {f : List (List Int)} {s : List Int} (h : famB f = true) (hs : valid s = true) : survL f s = hasL f (minusL (mem 63) s) := by
  obtain ⟨x, hx, rfl⟩ := valid_mem hs
  rw [minusL_mem (by decide) hx, hasL_mem h (dif_lt (by decide)), survL_yes h hs, mask_mem hx]
theorem surv_less {f : List (List Int)} {s : List Int} (hu : survL f s = true) {c : Nat} (hc : c < 64) : survL f (interL s (mem c)) = true := by
  have hf : famB f = true := by unfold survL at hu; rw [Bool.and_eq_true] at hu; exact hu.1
  have hs : valid s = true := by unfold survL at hu; rw [Bool.and_eq_true, Bool.and_eq_true] at hu; exact hu.2.1
  obtain ⟨x, hx, rfl⟩ := valid_mem hs
  rw [survL_yes hf hs, mask_mem hx] at hu
  rw [interL_mem hx hc, survL_yes hf (mem_valid (and_lt hx)), mask_mem (and_lt hx)]
  refine mono_sub (masks_lt hf) (dif_lt (by decide)) (dif_lt (by decide)) ?_ hu
  rw [sub_iff _ _ (dif_lt (by decide))]
  intro m hm
  rw [has_dif m (by decide) hx] at hm
  rw [has_dif m (by decide) (and_lt hx), has_and]
  rw [Bool.and_eq_true] at hm ⊢
  refine ⟨hm.1, ?_⟩
  have := hm.2
  cases hxm : has x m
  · simp
  · rw [hxm] at this; cases this

/-! FnFamilyValid -/
theorem fam_of_anti {f : List (List Int)} (hv : ∀ s ∈ f, valid s = true) (h : anti (masks f)) : famB f = true := by
  have e : famL (masks f) = f := famL_masks hv
  rw [← e]; exact famB_famL h
theorem anti_sublist {p q : List Nat} (h : anti q) (hs : p.Sublist q) : anti p := ⟨h.1.sublist hs, fun x hx => h.2 x (hs.subset hx)⟩
theorem fam_less {f : List (List Int)} (h : famB f = true) (k : Nat) : famB (f.take k ++ f.drop (k + 1)) = true := by
  have hs : (f.take k ++ f.drop (k + 1)).Sublist f := by
    rw [← List.eraseIdx_eq_take_drop_succ]; exact List.eraseIdx_sublist f k
  exact fam_of_anti (fun s hx => fam_valid h s (hs.subset hx)) (anti_sublist (fam_anti h) (hs.map mask))
theorem fam_more {f : List (List Int)} {s x : List Int} (hx : x ∈ f) (h : sub (mask x) (mask s) = true) : famB (f ++ [s]) = false := by
  cases hb : famB (f ++ [s])
  · rfl
  · have := fam_anti hb
    unfold masks at this
    rw [List.map_append] at this
    have h2 := (List.pairwise_append.1 this.1).2.2 _ (List.mem_map_of_mem hx) (mask s) (by simp)
    rw [h2.2] at h; cases h
theorem fam_twice {f : List (List Int)} {k : Nat} (hk : k < f.length) : famB (f ++ [f.getD k []]) = false := fam_more (getD_mem hk) (sub_refl _)
theorem sub_full (x : Nat) (hx : x < 64) : sub x 63 = true := by
  have key : ∀ x < 64, sub x 63 = true := by decide +kernel
  exact key x hx
theorem fam_full {f : List (List Int)} (h : famB f = true) (hk : 0 < f.length) : famB (f ++ [mem 63]) = false :=
  fam_more (getD_mem hk) (by rw [mask_mem (by decide)]; exact sub_full _ (mask_lt (fam_valid h _ (getD_mem hk))))

/-! minimizing -/
theorem okM_valid {f : List (List Int)} (h : okM f = true) : ∀ s ∈ f, valid s = true ∧ mask s ≠ 0 := by
  unfold okM at h
  simp only [Bool.and_eq_true, List.all_eq_true, decide_eq_true_eq] at h
  exact fun s hs => h.1 s hs
theorem okM_len {f : List (List Int)} (h : okM f = true) : f.length ≤ 64 := by
  unfold okM at h
  simp only [Bool.and_eq_true, decide_eq_true_eq] at h
  exact h.2
theorem masks64 {f : List (List Int)} (h : ∀ s ∈ f, valid s = true) : ∀ x ∈ masks f, x < 64 := fun x hx => by
  obtain ⟨s, hs, rfl⟩ := List.mem_map.1 hx
  exact mask_lt (h s hs)
theorem minL_yes {f : List (List Int)} (h : ∀ s ∈ f, valid s = true) : minL f = famL (minOf (up (masks f))) := minL_masks h
theorem up_zero {q : List Nat} (h : ∀ x ∈ q, x < 64 ∧ x ≠ 0) : up q 0 = false := by
  unfold up
  rw [List.any_eq_false]
  intro x hx
  have := (h x hx).2
  simp only [sub, beq_iff_eq, Nat.and_zero]
  omega
theorem masks_pos {f : List (List Int)} (h : ∀ s ∈ f, valid s = true ∧ mask s ≠ 0) : ∀ x ∈ masks f, x < 64 ∧ x ≠ 0 := fun x hx => by
  obtain ⟨s, hs, rfl⟩ := List.mem_map.1 hx
  exact ⟨mask_lt (h s hs).1, (h s hs).2⟩
/-- what comes out of a minimizing is a quorum system -/
theorem famB_minOf {q : List Nat} (h : ∀ x ∈ q, x < 64 ∧ x ≠ 0) : famB (famL (minOf (up q))) = true := famB_famL (minOf_anti _ (up_zero h))
theorem famB_minL {f : List (List Int)} (h : ∀ s ∈ f, valid s = true ∧ mask s ≠ 0) : famB (minL f) = true := by
  rw [minL_yes (fun s hs => (h s hs).1)]; exact famB_minOf (masks_pos h)
theorem masks_minL {f : List (List Int)} (h : ∀ s ∈ f, valid s = true) : masks (minL f) = minOf (up (masks f)) := by
  rw [minL_yes h]; exact masks_famL fun x hx => minOf_lt hx
/-- .. and it has the same sets above it -/
theorem hasL_minL {f : List (List Int)} (h : ∀ s ∈ f, valid s = true ∧ mask s ≠ 0) {c : Nat} (hc : c < 64) : hasL (minL f) (mem c) = up (masks f) c := by
  rw [hasL_mem (famB_minL h) hc, masks_minL (fun s hs => (h s hs).1)]
  exact up_minOf (up_mono (masks64 fun s hs => (h s hs).1)) hc
theorem minL_congr {f g : List (List Int)} (hf : ∀ s ∈ f, valid s = true) (hg : ∀ s ∈ g, valid s = true) (h : ∀ c, c < 64 → up (masks f) c = up (masks g) c) : minL f = minL g := by
  rw [minL_yes hf, minL_yes hg, minOf_congr h]
theorem minL_self {f : List (List Int)} (h : famB f = true) : minL f = f := by
  rw [minL_yes (fam_valid h), minOf_up (fam_anti h), fam_of h]
theorem fam_okM {f : List (List Int)} (h : famB f = true) : okM f = true := by
  unfold okM
  simp only [Bool.and_eq_true, List.all_eq_true, decide_eq_true_eq]
  exact ⟨fun s hs => fvp_all (famB_fvp h) s hs, by have := famB_len h; omega⟩
theorem minimize_idem {f : List (List Int)} (h : okM f = true) : minimizeL (minimizeL f) = minimizeL f ∧ okM (minimizeL f) = true := by
  have e : minimizeL f = minL f := by unfold minimizeL; rw [h]; rfl
  have hb := famB_minL (okM_valid h)
  rw [e]
  refine ⟨?_, fam_okM hb⟩
  unfold minimizeL
  rw [fam_okM hb, if_pos rfl, minL_self hb]
theorem up_congr {p q : List Nat} (h : ∀ x, x ∈ p ↔ x ∈ q) (c : Nat) : up p c = up q c := by
  unfold up
  rw [Bool.eq_iff_iff, List.any_eq_true, List.any_eq_true]
  constructor
  · rintro ⟨x, hx, hs⟩; exact ⟨x, (h x).1 hx, hs⟩
  · rintro ⟨x, hx, hs⟩; exact ⟨x, (h x).2 hx, hs⟩
/-- each twice, the last first -/
def backOf (f : List (List Int)) : Nat → List (List Int)
  | 0 => []
  | n + 1 => backOf f n ++ [f.getD (f.length - 1 - n) [], f.getD (f.length - 1 - n) []]
theorem backOf_len (f : List (List Int)) (n : Nat) : (backOf f n).length = 2 * n := by
  induction n with
  | zero => rfl
  | succ n ih => simp [backOf, ih]; omega
theorem backOf_mem (f : List (List Int)) (n : Nat) (hn : n ≤ f.length) (x : List Int) : x ∈ backOf f n ↔ ∃ k, f.length - n ≤ k ∧ k < f.length ∧ f.getD k [] = x := by
  induction n with
  | zero => simp [backOf]; intro k h1 h2; omega
  | succ n ih =>
    unfold backOf
    rw [List.mem_append, ih (by omega)]
    constructor
    · rintro (⟨k, h1, h2, h3⟩ | h)
      · exact ⟨k, by omega, h2, h3⟩
      · refine ⟨f.length - 1 - n, by omega, by omega, ?_⟩
        simp only [List.mem_cons, List.not_mem_nil, or_false, or_self] at h
        exact h.symm
    · rintro ⟨k, h1, h2, h3⟩
      by_cases hk : f.length - n ≤ k
      · exact .inl ⟨k, hk, h2, h3⟩
      · right
        have : k = f.length - 1 - n := by omega
        subst this; rw [h3]; simp
theorem backOf_all (f : List (List Int)) (x : List Int) : x ∈ backOf f f.length ↔ x ∈ f := by
  rw [backOf_mem f _ (Nat.le_refl _)]
  constructor
  · rintro ⟨k, _, h2, rfl⟩; exact getD_mem h2
  · intro h
    obtain ⟨k, hk, e⟩ := mem_getD h
    exact ⟨k, by omega, hk, e⟩
theorem back_law {f : List (List Int)} (h : okM f = true) (hl : f.length ≤ 32) : okM (backOf f f.length) = true ∧ minimizeL (backOf f f.length) = minimizeL f := by
  have hv := okM_valid h
  have hv2 : ∀ s ∈ backOf f f.length, valid s = true ∧ mask s ≠ 0 := fun s hs => hv s ((backOf_all f s).1 hs)
  have ho : okM (backOf f f.length) = true := by
    unfold okM
    simp only [Bool.and_eq_true, List.all_eq_true, decide_eq_true_eq]
    exact ⟨hv2, by rw [backOf_len]; omega⟩
  refine ⟨ho, ?_⟩
  unfold minimizeL
  rw [ho, h, if_pos rfl, if_pos rfl]
  refine minL_congr (fun s hs => (hv2 s hs).1) (fun s hs => (hv s hs).1) fun c _ => up_congr (fun x => ?_) c
  unfold masks
  rw [List.mem_map, List.mem_map]
  constructor
  · rintro ⟨s, hs, e⟩; exact ⟨s, (backOf_all f s).1 hs, e⟩
  · rintro ⟨s, hs, e⟩; exact ⟨s, (backOf_all f s).2 hs, e⟩
theorem minimizeL_has {f : List (List Int)} (h : okM f = true) {c : Nat} (hc : c < 64) : hasL (minimizeL f) (mem c) = anySub f (mem c) := by
  unfold minimizeL
  rw [h, if_pos rfl, hasL_minL (okM_valid h) hc, anySub_has (fun s hs => (okM_valid h s hs).1) (mem_valid hc), mask_mem hc]
theorem minimizeL_fam {f : List (List Int)} (h : okM f = true) : famB (minimizeL f) = true := by
  unfold minimizeL; rw [h, if_pos rfl]; exact famB_minL (okM_valid h)
theorem minOf_sub_up {q : List Nat} (hq : ∀ x ∈ q, x < 64) {x : Nat} (hx : x ∈ minOf (up q)) : x ∈ q := by
  obtain ⟨h64, hm⟩ := (mem_minOf _ _).1 hx
  obtain ⟨hu, hmin⟩ := (isMin_iff _ _).1 hm
  unfold up at hu
  rw [List.any_eq_true] at hu
  obtain ⟨y, hy, hs⟩ := hu
  have := hmin y (hq y hy) hs (by unfold up; rw [List.any_eq_true]; exact ⟨y, hy, sub_refl y⟩)
  subst this; exact hy
theorem minimizeL_len {f : List (List Int)} (h : okM f = true) : (minimizeL f).length ≤ f.length := by
  have hv := okM_valid h
  unfold minimizeL
  rw [h, if_pos rfl, minL_yes (fun s hs => (hv s hs).1)]
  have h1 : (minOf (up (masks f))).length ≤ (masks f).length :=
    List.Nodup.length_le_of_subset ((minOf_sorted _).imp (fun h => Nat.ne_of_lt h)) (fun x hx => minOf_sub_up (masks64 fun s hs => (hv s hs).1) hx)
  simpa [famL, masks] using h1

/-! either and both -/
theorem ok2_iff {f g : List (List Int)} (h : ok2 f g = true) : famB f = true ∧ famB g = true := by unfold ok2 at h; rwa [Bool.and_eq_true] at h
theorem ok2_comm (f g : List (List Int)) : ok2 g f = ok2 f g := by unfold ok2; rw [Bool.and_comm]
theorem app_pos {f g : List (List Int)} (h : ok2 f g = true) : ∀ s ∈ f ++ g, valid s = true ∧ mask s ≠ 0 := by
  obtain ⟨h1, h2⟩ := ok2_iff h
  intro s hs
  rcases List.mem_append.1 hs with hs | hs
  · exact fvp_all (famB_fvp h1) s hs
  · exact fvp_all (famB_fvp h2) s hs
theorem up_app (p q : List Nat) (c : Nat) : up (p ++ q) c = (up p c || up q c) := by simp [up]
theorem masks_app (f g : List (List Int)) : masks (f ++ g) = masks f ++ masks g := by simp [masks]
theorem eitherL_yes {f g : List (List Int)} (h : ok2 f g = true) : eitherL f g = minL (f ++ g) := by unfold eitherL; rw [h]; rfl
theorem eitherL_mask {f g : List (List Int)} (h : ok2 f g = true) : eitherL f g = famL (minOf (up (masks f ++ masks g))) := by
  rw [eitherL_yes h, minL_yes (fun s hs => (app_pos h s hs).1), masks_app]
theorem eitherL_fam {f g : List (List Int)} (h : ok2 f g = true) : famB (eitherL f g) = true := by rw [eitherL_yes h]; exact famB_minL (app_pos h)
theorem eitherL_has {f g : List (List Int)} (h : ok2 f g = true) {c : Nat} (hc : c < 64) : hasL (eitherL f g) (mem c) = (hasL f (mem c) || hasL g (mem c)) := by
  obtain ⟨h1, h2⟩ := ok2_iff h
  rw [eitherL_yes h, hasL_minL (app_pos h) hc, masks_app, up_app, hasL_mem h1 hc, hasL_mem h2 hc]
/-- two quorum systems with the same sets above them are one -/
theorem fam_ext {f g : List (List Int)} (hf : famB f = true) (hg : famB g = true) (h : ∀ c, c < 64 → hasL f (mem c) = hasL g (mem c)) : f = g := by
  rw [← fam_of hf, ← fam_of hg, ← minOf_up (fam_anti hf), ← minOf_up (fam_anti hg)]
  exact congrArg famL (minOf_congr fun c hc => by have := h c hc; rwa [hasL_mem hf hc, hasL_mem hg hc] at this)
theorem eitherL_comm {f g : List (List Int)} (h : ok2 f g = true) : eitherL g f = eitherL f g := by
  have h' : ok2 g f = true := by rw [ok2_comm]; exact h
  exact fam_ext (eitherL_fam h') (eitherL_fam h) fun c hc => by rw [eitherL_has h' hc, eitherL_has h hc, Bool.or_comm]
theorem mem_unis (p q : List Nat) (z : Nat) : z ∈ unis p q ↔ ∃ x ∈ p, ∃ y ∈ q, x ||| y = z := by
  unfold unis; rw [List.mem_flatMap]
  constructor
  · rintro ⟨x, hx, h⟩
    obtain ⟨y, hy, e⟩ := List.mem_map.1 h
    exact ⟨x, hx, y, hy, e⟩
  · rintro ⟨x, hx, y, hy, e⟩; exact ⟨x, hx, List.mem_map.2 ⟨y, hy, e⟩⟩
theorem unis_pos {p q : List Nat} (hp : ∀ x ∈ p, x < 64 ∧ x ≠ 0) (hq : ∀ x ∈ q, x < 64 ∧ x ≠ 0) : ∀ z ∈ unis p q, z < 64 ∧ z ≠ 0 := by
  intro z hz
  obtain ⟨x, hx, y, hy, rfl⟩ := (mem_unis p q z).1 hz
  refine ⟨or_lt (hp x hx).1 (hq y hy).1, fun e => ?_⟩
  have := sub_le (sub_or_left x y (hp x hx).1)
  have := (hp x hx).2
  omega
theorem up_unis {p q : List Nat} (hp : ∀ x ∈ p, x < 64) (hq : ∀ x ∈ q, x < 64) (c : Nat) : up (unis p q) c = (up p c && up q c) := by
  unfold up
  rw [Bool.eq_iff_iff, Bool.and_eq_true, List.any_eq_true, List.any_eq_true, List.any_eq_true]
  constructor
  · rintro ⟨z, hz, hs⟩
    obtain ⟨x, hx, y, hy, rfl⟩ := (mem_unis p q z).1 hz
    rw [or_sub (hp x hx) (hq y hy), Bool.and_eq_true] at hs
    exact ⟨⟨x, hx, hs.1⟩, ⟨y, hy, hs.2⟩⟩
  · rintro ⟨⟨x, hx, h1⟩, ⟨y, hy, h2⟩⟩
    exact ⟨x ||| y, (mem_unis p q _).2 ⟨x, hx, y, hy, rfl⟩, by rw [or_sub (hp x hx) (hq y hy), h1, h2]; rfl⟩
theorem bothL_yes {f g : List (List Int)} (h : ok2 f g = true) : bothL f g = famL (minOf (up (unis (masks f) (masks g)))) := by unfold bothL; rw [h]; rfl
theorem fam_pos {f : List (List Int)} (h : famB f = true) : ∀ x ∈ masks f, x < 64 ∧ x ≠ 0 := (fam_anti h).2
theorem bothL_fam {f g : List (List Int)} (h : ok2 f g = true) : famB (bothL f g) = true := by
  obtain ⟨h1, h2⟩ := ok2_iff h
  rw [bothL_yes h]; exact famB_minOf (unis_pos (fam_pos h1) (fam_pos h2))
theorem bothL_has {f g : List (List Int)} (h : ok2 f g = true) {c : Nat} (hc : c < 64) : hasL (bothL f g) (mem c) = (hasL f (mem c) && hasL g (mem c)) := by
  obtain ⟨h1, h2⟩ := ok2_iff h
  rw [hasL_mem (bothL_fam h) hc, bothL_yes h, masks_famL (fun x hx => minOf_lt hx), up_minOf (up_mono fun x hx => (unis_pos (fam_pos h1) (fam_pos h2) x hx).1) hc,
    up_unis (masks_lt h1) (masks_lt h2), hasL_mem h1 hc, hasL_mem h2 hc]
theorem bothL_comm {f g : List (List Int)} (h : ok2 f g = true) : bothL g f = bothL f g := by
  have h' : ok2 g f = true := by rw [ok2_comm]; exact h
  exact fam_ext (bothL_fam h') (bothL_fam h) fun c hc => by rw [bothL_has h' hc, bothL_has h hc, Bool.and_comm]
theorem ok2_both {f g : List (List Int)} (h1 : famB f = true) (h2 : famB g = true) : ok2 f g = true := by unfold ok2; rw [h1, h2]; rfl
theorem both_self {f : List (List Int)} (h : famB f = true) : bothL f f = f ∧ eitherL f f = f := by
  have hk := ok2_both h h
  exact ⟨fam_ext (bothL_fam hk) h fun c hc => by rw [bothL_has hk hc, Bool.and_self], fam_ext (eitherL_fam hk) h fun c hc => by rw [eitherL_has hk hc, Bool.or_self]⟩
theorem absorb {f g : List (List Int)} (h : ok2 f g = true) : eitherL f (bothL f g) = f ∧ bothL f (eitherL f g) = f ∧ ok2 f (bothL f g) = true ∧ ok2 f (eitherL f g) = true := by
  obtain ⟨h1, h2⟩ := ok2_iff h
  have k1 := ok2_both h1 (bothL_fam h)
  have k2 := ok2_both h1 (eitherL_fam h)
  refine ⟨fam_ext (eitherL_fam k1) h1 fun c hc => ?_, fam_ext (bothL_fam k2) h1 fun c hc => ?_, k1, k2⟩
  · rw [eitherL_has k1 hc, bothL_has h hc]; cases hasL f (mem c) <;> simp
  · rw [bothL_has k2 hc, eitherL_has h hc]; cases hasL f (mem c) <;> simp
theorem distrib_fam {f g k : List (List Int)} (h : ok2 f g = true) (hk : famB k = true) :
    bothL k (eitherL f g) = eitherL (bothL k f) (bothL k g) ∧ ok2 k (eitherL f g) = true ∧ ok2 k f = true ∧ ok2 k g = true ∧ ok2 (bothL k f) (bothL k g) = true := by
  obtain ⟨h1, h2⟩ := ok2_iff h
  have k1 := ok2_both hk (eitherL_fam h)
  have k2 := ok2_both hk h1
  have k3 := ok2_both hk h2
  have k4 := ok2_both (bothL_fam k2) (bothL_fam k3)
  refine ⟨fam_ext (bothL_fam k1) (eitherL_fam k4) fun c hc => ?_, k1, k2, k3, k4⟩
  rw [bothL_has k1 hc, eitherL_has h hc, eitherL_has k4 hc, bothL_has k2 hc, bothL_has k3 hc]
  cases hasL k (mem c) <;> simp
end Go.Proofs.Ytnifgfnhcjhodaa
