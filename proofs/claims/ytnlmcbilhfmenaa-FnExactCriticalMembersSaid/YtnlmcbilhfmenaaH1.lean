/- Plain mathematics of binary heaps on lists of numbers, and of the minimal sets that a heap gives. No program text. -/
import Derived.Test.YtnlmcbilhfmenaaF1
namespace Go.Proofs.Ytnlmcbilhfmenaa

def swp (q : List Nat) (i j : Nat) : List Nat := (q.set i (q.getD j 0)).set j (q.getD i 0)
theorem swp_len (q : List Nat) (i j : Nat) : (swp q i j).length = q.length := by simp [swp]
theorem swp_perm (q : List Nat) (i j : Nat) (hi : i < q.length) (hj : j < q.length) : (swp q i j).Perm q := by
  have := List.set_set_perm (as := q) hi hj
  simpa [swp, List.getD, hi, hj] using this
theorem swp_get (q : List Nat) (i j k : Nat) (hi : i < q.length) (hj : j < q.length) :
    (swp q i j).getD k 0 = if k = j then q.getD i 0 else if k = i then q.getD j 0 else q.getD k 0 := by
  unfold swp
  simp only [List.getD, List.getElem?_set, List.length_set]
  by_cases h1 : k = j
  · subst h1; simp [hj]
  · by_cases h2 : k = i
    · subst h2; simp [h1, hi, Ne.symm h1]
    · simp [h1, h2, Ne.symm h1, Ne.symm h2]

/-- a heap on the first n -/
def heapOn (n : Nat) (q : List Nat) : Prop := ∀ k, 0 < k → k < n → q.getD ((k - 1) / 2) 0 ≤ q.getD k 0
/-- a heap but for the place j -/
def upAt (j : Nat) (q : List Nat) : Prop :=
  (∀ k, 0 < k → k < q.length → k ≠ j → q.getD ((k - 1) / 2) 0 ≤ q.getD k 0) ∧
  (0 < j → ∀ k, 0 < k → k < q.length → (k - 1) / 2 = j → q.getD ((j - 1) / 2) 0 ≤ q.getD k 0)
/-- a heap on the first n but for what lies below the place i -/
def downAt (n i : Nat) (q : List Nat) : Prop :=
  (∀ k, 0 < k → k < n → (k - 1) / 2 ≠ i → q.getD ((k - 1) / 2) 0 ≤ q.getD k 0) ∧
  (0 < i → ∀ k, 0 < k → k < n → (k - 1) / 2 = i → q.getD ((i - 1) / 2) 0 ≤ q.getD k 0)

theorem up_done {j : Nat} {q : List Nat} (h : upAt j q) (h2 : j = 0 ∨ q.getD ((j - 1) / 2) 0 ≤ q.getD j 0) : heapOn q.length q := by
  intro k hk hn
  by_cases hkj : k = j
  · subst hkj
    rcases h2 with h2 | h2
    · omega
    · exact h2
  · exact h.1 k hk hn hkj
theorem up_step {j : Nat} {q : List Nat} (h : upAt j q) (hj : j < q.length) (h0 : 0 < j) (hlt : q.getD j 0 < q.getD ((j - 1) / 2) 0) : upAt ((j - 1) / 2) (swp q ((j - 1) / 2) j) := by
  have hi : (j - 1) / 2 < q.length := by omega
  have hne : (j - 1) / 2 ≠ j := by omega
  obtain ⟨h1, h2⟩ := h
  generalize hI : (j - 1) / 2 = i at *
  refine ⟨fun k hk hn hki => ?_, fun hi0 k hk hn hki => ?_⟩
  · rw [swp_len] at hn
    rw [swp_get q i j _ hi hj, swp_get q i j _ hi hj]
    by_cases hkj : k = j
    · subst hkj
      rw [hI, if_neg hne, if_pos rfl, if_pos rfl]; omega
    · rw [if_neg hkj, if_neg hki]
      by_cases hpj : (k - 1) / 2 = j
      · rw [if_pos hpj]
        exact h2 h0 k hk hn hpj
      · rw [if_neg hpj]
        by_cases hpi : (k - 1) / 2 = i
        · rw [if_pos hpi]
          have := h1 k hk hn hkj
          rw [hpi] at this; omega
        · rw [if_neg hpi]
          exact h1 k hk hn hkj
  · rw [swp_len] at hn
    have hp : (i - 1) / 2 ≠ j := by omega
    have hp2 : (i - 1) / 2 ≠ i := by omega
    have hpi := h1 i hi0 hi hne
    rw [swp_get q i j _ hi hj, swp_get q i j _ hi hj, if_neg hp, if_neg hp2]
    by_cases hkj : k = j
    · subst hkj
      rw [if_pos rfl]; exact hpi
    · have hkne : k ≠ i := by omega
      rw [if_neg hkj, if_neg hkne]
      have := h1 k hk hn hkj
      rw [hki] at this; omega
theorem up_start {q : List Nat} (x : Nat) (h : heapOn q.length q) : upAt q.length (q ++ [x]) := by
  refine ⟨fun k hk hn hkj => ?_, fun _ k hk hn hkj => ?_⟩
  · rw [List.length_append] at hn
    simp at hn
    have hk2 : k < q.length := by omega
    have := h k hk hk2
    simpa [List.getD, List.getElem?_append_left hk2, List.getElem?_append_left (show (k - 1) / 2 < q.length by omega)] using this
  · rw [List.length_append] at hn
    simp at hn
    omega

theorem down_done {n i : Nat} {q : List Nat} (h : downAt n i q) (h2 : ∀ k, 0 < k → k < n → (k - 1) / 2 = i → q.getD i 0 ≤ q.getD k 0) : heapOn n q := by
  intro k hk hn
  by_cases hki : (k - 1) / 2 = i
  · rw [hki]; exact h2 k hk hn hki
  · exact h.1 k hk hn hki
theorem down_leaf {n i : Nat} {q : List Nat} (h : downAt n i q) (h2 : n ≤ 2 * i + 1) : heapOn n q :=
  down_done h fun k hk hn hki => by omega
theorem down_stop {n i j : Nat} {q : List Nat} (h : downAt n i q) (hmin : ∀ k, k = 2 * i + 1 ∨ k = 2 * i + 2 → k < n → q.getD j 0 ≤ q.getD k 0) (hle : q.getD i 0 ≤ q.getD j 0) : heapOn n q :=
  down_done h fun k hk hn hki => Nat.le_trans hle (hmin k (by omega) hn)
theorem down_step {n i j : Nat} {q : List Nat} (h : downAt n i q) (hn : n ≤ q.length) (hj : j = 2 * i + 1 ∨ j = 2 * i + 2) (hjn : j < n) (hmin : ∀ k, k = 2 * i + 1 ∨ k = 2 * i + 2 → k < n → q.getD j 0 ≤ q.getD k 0)
    (hlt : q.getD j 0 < q.getD i 0) : downAt n j (swp q i j) := by
  have hi' : i < q.length := by omega
  have hj' : j < q.length := by omega
  have hij : i ≠ j := by omega
  have hpj : (j - 1) / 2 = i := by omega
  obtain ⟨h1, h2⟩ := h
  refine ⟨fun k hk hkn hkj => ?_, fun hj0 k hk hkn hkj => ?_⟩
  · rw [swp_get q i j _ hi' hj', swp_get q i j _ hi' hj', if_neg hkj]
    by_cases hkj2 : k = j
    · subst hkj2
      rw [if_pos hpj, if_pos rfl]; omega
    · rw [if_neg hkj2]
      by_cases hpi : (k - 1) / 2 = i
      · have hki : k ≠ i := by omega
        rw [if_pos hpi, if_neg hki]
        exact hmin k (by omega) hkn
      · rw [if_neg hpi]
        by_cases hki : k = i
        · subst hki
          rw [if_pos rfl]
          exact h2 hk j (by omega) hjn hpj
        · rw [if_neg hki]
          exact h1 k hk hkn hpi
  · have hkj2 : k ≠ j := by omega
    have hki : k ≠ i := by omega
    rw [swp_get q i j _ hi' hj', swp_get q i j _ hi' hj', hpj, if_neg hij, if_pos rfl, if_neg hkj2, if_neg hki]
    have := h1 k hk hkn (by omega)
    rw [hkj] at this; exact this
theorem down_start {q : List Nat} {n : Nat} (hl : q.length = n + 1) (h : heapOn q.length q) : downAt n 0 (swp q 0 n) := by
  refine ⟨fun k hk hkn hp => ?_, fun h0 => by omega⟩
  rw [swp_get q 0 n _ (by omega) (by omega), swp_get q 0 n _ (by omega) (by omega), if_neg (by omega), if_neg hp, if_neg (by omega), if_neg (by omega)]
  exact h k hk (by omega)
/-- the first of a heap is the least -/
theorem heap_min {q : List Nat} (h : heapOn q.length q) (k : Nat) : k < q.length → q.getD 0 0 ≤ q.getD k 0 := by
  induction k using Nat.strongRecOn with
  | _ k ih =>
    intro hk
    by_cases h0 : k = 0
    · subst h0; exact Nat.le_refl _
    · exact Nat.le_trans (ih ((k - 1) / 2) (by omega) (by omega)) (h k (by omega) hk)
theorem heap_least {q : List Nat} (h : heapOn q.length q) : ∀ x ∈ q, q.getD 0 0 ≤ x := by
  intro x hx
  obtain ⟨k, hk, rfl⟩ := List.getElem_of_mem hx
  have := heap_min h k hk
  simpa [List.getD, hk] using this
theorem heap_take {n : Nat} {q : List Nat} (h : heapOn n q) (hn : n ≤ q.length) : heapOn (q.take n).length (q.take n) := by
  rw [List.length_take, Nat.min_eq_left hn]
  intro k hk hkn
  have := h k hk hkn
  simpa [List.getD, List.getElem?_take, hkn, show (k - 1) / 2 < n by omega] using this
theorem heap_nil : heapOn ([] : List Nat).length [] := fun k _ h => by simp at h
theorem heap_one_mem {q q' : List Nat} (h : q'.Perm q) (x : Nat) : x ∈ q' ↔ x ∈ q := h.mem_iff
/-- what is left, and what came out -/
theorem popped {q q' : List Nat} {n : Nat} (hl : q'.length = n + 1) (h : q'.Perm q) : (q'.take n ++ [q'.getD n 0]).Perm q := by
  have : q'.take n ++ [q'.getD n 0] = q' := by
    have h2 := List.take_append_drop n q'
    rw [List.drop_eq_getElem_cons (by omega), List.drop_of_length_le (by omega)] at h2
    simpa [List.getD, show n < q'.length by omega] using h2
  rw [this]; exact h

/-- what 'minimal' keeps between two rounds: 'out' of what came out so far, 'left' still in the heap -/
def MinI (sets out left : List Nat) : Prop :=
  out.Pairwise (fun x y => x < y ∧ sub x y = false) ∧ (∀ x ∈ out, x ∈ sets) ∧ (∀ x ∈ left, x ∈ sets) ∧ (∀ x ∈ sets, x ∈ left ∨ up out x = true) ∧ (∀ x ∈ out, ∀ y ∈ left, x ≤ y)
theorem MinI.start (sets : List Nat) {left : List Nat} (h : left.Perm sets) : MinI sets [] left :=
  ⟨List.Pairwise.nil, fun x hx => by simp at hx, fun x hx => h.mem_iff.1 hx, fun x hx => .inl (h.mem_iff.2 hx), fun x hx => by simp at hx⟩
theorem MinI.skip {sets out left left' : List Nat} {x : Nat} (h : MinI sets out left) (hp : (left' ++ [x]).Perm left) (hu : up out x = true) : MinI sets out left' := by
  obtain ⟨h1, h2, h3, h4, h5⟩ := h
  have hm : ∀ y, y ∈ left ↔ y ∈ left' ∨ y = x := fun y => by rw [← hp.mem_iff, List.mem_append, List.mem_singleton]
  refine ⟨h1, h2, fun y hy => h3 y ((hm y).2 (.inl hy)), fun y hy => ?_, fun y hy z hz => h5 y hy z ((hm z).2 (.inl hz))⟩
  rcases h4 y hy with h | h
  · rcases (hm y).1 h with h | rfl
    · exact .inl h
    · exact .inr hu
  · exact .inr h
theorem MinI.keep {sets out left left' : List Nat} {x : Nat} (h : MinI sets out left) (hp : (left' ++ [x]).Perm left) (hx : ∀ y ∈ left, x ≤ y) (hu : up out x = false) : MinI sets (out ++ [x]) left' := by
  obtain ⟨h1, h2, h3, h4, h5⟩ := h
  have hm : ∀ y, y ∈ left ↔ y ∈ left' ∨ y = x := fun y => by rw [← hp.mem_iff, List.mem_append, List.mem_singleton]
  have hxl : x ∈ left := (hm x).2 (.inr rfl)
  have hno : ∀ y ∈ out, sub y x = false := by
    unfold up at hu
    rw [List.any_eq_false] at hu
    intro y hy
    simpa using hu y hy
  refine ⟨?_, fun y hy => ?_, fun y hy => h3 y ((hm y).2 (.inl hy)), fun y hy => ?_, fun y hy z hz => ?_⟩
  · rw [List.pairwise_append]
    refine ⟨h1, List.pairwise_singleton _ _, fun y hy z hz => ?_⟩
    rw [List.mem_singleton] at hz
    subst hz
    refine ⟨Nat.lt_of_le_of_ne (h5 y hy z hxl) ?_, hno y hy⟩
    rintro rfl
    have := hno y hy
    rw [sub_refl] at this; cases this
  · rcases List.mem_append.1 hy with hy | hy
    · exact h2 y hy
    · rw [List.mem_singleton.1 hy]; exact h3 x hxl
  · have hup : ∀ z, up out z = true → up (out ++ [x]) z = true := fun z hz => by unfold up at hz ⊢; rw [List.any_append, hz]; rfl
    rcases h4 y hy with h | h
    · rcases (hm y).1 h with h | rfl
      · exact .inl h
      · exact .inr (by unfold up; rw [List.any_append]; simp [sub_refl])
    · exact .inr (hup y h)
  · rcases List.mem_append.1 hy with hy | hy
    · exact h5 y hy z ((hm z).2 (.inl hz))
    · rw [List.mem_singleton.1 hy]; exact hx z ((hm z).2 (.inl hz))
/-- an antichain, the empty set allowed -/
def anti0 (q : List Nat) : Prop := q.Pairwise (fun x y => x < y ∧ sub x y = false) ∧ ∀ x ∈ q, x < 64
theorem anti0_sub {q : List Nat} (h : anti0 q) {x y : Nat} (hx : x ∈ q) (hy : y ∈ q) (hs : sub x y = true) : x = y := by
  have key : ∀ (l : List Nat), l.Pairwise (fun x y => x < y ∧ sub x y = false) → ∀ x ∈ l, ∀ y ∈ l, sub x y = true → x = y := by
    intro l hl
    induction l with
    | nil => intro x hx; cases hx
    | cons a r ih =>
      rw [List.pairwise_cons] at hl
      intro x hx y hy hs
      rcases List.mem_cons.1 hx with e | hx'
      · rcases List.mem_cons.1 hy with e' | hy'
        · rw [e, e']
        · have := hl.1 y hy'; rw [e, this.2] at hs; cases hs
      · rcases List.mem_cons.1 hy with e' | hy'
        · have := (hl.1 x hx').1
          have := sub_le hs; omega
        · exact ih hl.2 x hx' y hy' hs
  exact key q h.1 x hx y hy hs
theorem minOf_up0 {q : List Nat} (h : anti0 q) : minOf (up q) = q := by
  refine sorted_ext (minOf_sorted _) (h.1.imp (fun h => h.1)) (fun x => ?_)
  rw [mem_minOf, isMin_iff]
  constructor
  · rintro ⟨hx, hu, hmin⟩
    unfold up at hu
    rw [List.any_eq_true] at hu
    obtain ⟨y, hy, hs⟩ := hu
    have : y = x := hmin y (h.2 y hy) hs (by unfold up; rw [List.any_eq_true]; exact ⟨y, hy, sub_refl y⟩)
    subst this; exact hy
  · intro hx
    refine ⟨h.2 x hx, by unfold up; rw [List.any_eq_true]; exact ⟨x, hx, sub_refl x⟩, fun d hd hs hu => ?_⟩
    unfold up at hu
    rw [List.any_eq_true] at hu
    obtain ⟨y, hy, hsd⟩ := hu
    have : y = x := anti0_sub h hy hx (sub_trans (h.2 y hy) hd hsd hs)
    subst this
    exact sub_anti hs hsd
theorem MinI.done {sets out : List Nat} (h : MinI sets out []) (h64 : ∀ x ∈ sets, x < 64) : out = minOf (up sets) := by
  obtain ⟨h1, h2, _, h4, _⟩ := h
  rw [← minOf_up0 ⟨h1, fun x hx => h64 x (h2 x hx)⟩]
  refine minOf_congr fun c hc => ?_
  rw [Bool.eq_iff_iff]
  constructor
  · intro hu
    unfold up at hu ⊢
    rw [List.any_eq_true] at hu ⊢
    obtain ⟨y, hy, hs⟩ := hu
    exact ⟨y, h2 y hy, hs⟩
  · intro hu
    have hu' := hu
    unfold up at hu'
    rw [List.any_eq_true] at hu'
    obtain ⟨y, hy, hs⟩ := hu'
    rcases h4 y hy with h | h
    · simp at h
    · exact up_mono (fun x hx => h64 x (h2 x hx)) y c (h64 y hy) hc hs h
end Go.Proofs.Ytnlmcbilhfmenaa
