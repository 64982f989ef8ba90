/- Plain mathematics of quorum systems: up-sets of masks and their minimal sets. No program text. -/
import Derived.Test.YtnlmcbilhfmenaaM1
namespace Go.Proofs.Ytnlmcbilhfmenaa

/-- does a set contain one of these? -/
def up (q : List Nat) (c : Nat) : Bool := q.any (fun x => sub x c)
/-- a property of sets that supersets keep -/
def Mono (U : Nat → Bool) : Prop := ∀ x y, x < 64 → y < 64 → sub x y = true → U x = true → U y = true
/-- c is in U, and no smaller set is -/
def isMin (U : Nat → Bool) (c : Nat) : Bool := U c && (List.range 64).all (fun d => !(sub d c && U d) || d == c)
/-- the minimal sets, ascending -/
def minOf (U : Nat → Bool) : List Nat := (List.range 64).filter (isMin U)

theorem sub_refl (x : Nat) : sub x x = true := by simp [sub]
theorem sub_trans {x y z : Nat} (hx : x < 64) (hy : y < 64) (h : sub x y = true) (k : sub y z = true) : sub x z = true := by
  rw [sub_iff x z hx]
  intro m hm
  exact (sub_iff y z hy).1 k m ((sub_iff x y hx).1 h m hm)
theorem sub_le {x y : Nat} (h : sub x y = true) : x ≤ y := by
  simp only [sub, beq_iff_eq] at h
  rw [← h]; exact Nat.and_le_right
theorem sub_anti {x y : Nat} (h : sub x y = true) (k : sub y x = true) : x = y := Nat.le_antisymm (sub_le h) (sub_le k)
theorem up_mono {q : List Nat} (hq : ∀ x ∈ q, x < 64) : Mono (up q) := by
  intro x y hx hy h hu
  unfold up at hu ⊢
  rw [List.any_eq_true] at hu ⊢
  obtain ⟨z, hz, hzx⟩ := hu
  exact ⟨z, hz, sub_trans (hq z hz) hx hzx h⟩
theorem isMin_iff (U : Nat → Bool) (c : Nat) : isMin U c = true ↔ U c = true ∧ ∀ d, d < 64 → sub d c = true → U d = true → d = c := by
  unfold isMin
  rw [Bool.and_eq_true, List.all_eq_true]
  constructor
  · rintro ⟨h1, h2⟩
    refine ⟨h1, fun d hd hs hU => ?_⟩
    have := h2 d (List.mem_range.2 hd)
    rw [hs, hU] at this
    simpa using this
  · rintro ⟨h1, h2⟩
    refine ⟨h1, fun d hd => ?_⟩
    cases hs : sub d c
    · rfl
    · cases hU : U d
      · rfl
      · have := h2 d (List.mem_range.1 hd) hs hU
        simp [this]
theorem mem_minOf (U : Nat → Bool) (c : Nat) : c ∈ minOf U ↔ c < 64 ∧ isMin U c = true := by
  unfold minOf; rw [List.mem_filter, List.mem_range]
theorem minOf_lt {U : Nat → Bool} {c : Nat} (h : c ∈ minOf U) : c < 64 := ((mem_minOf U c).1 h).1
theorem minOf_sorted (U : Nat → Bool) : (minOf U).Pairwise (· < ·) := by
  unfold minOf; exact List.Pairwise.filter _ List.pairwise_lt_range
/-- below every set of U lies a minimal one -/
theorem below_min (U : Nat → Bool) (c : Nat) : c < 64 → U c = true → ∃ d ∈ minOf U, sub d c = true := by
  induction c using Nat.strongRecOn with
  | _ c ih =>
    intro hc hU
    by_cases hm : isMin U c = true
    · exact ⟨c, (mem_minOf U c).2 ⟨hc, hm⟩, sub_refl c⟩
    · have : ∃ d, d < 64 ∧ sub d c = true ∧ U d = true ∧ d ≠ c := by
        refine Classical.byContradiction fun hno => hm ?_
        rw [isMin_iff]
        refine ⟨hU, fun d hd hs hu => ?_⟩
        exact Classical.byContradiction fun hne => hno ⟨d, hd, hs, hu, hne⟩
      obtain ⟨d, hd, hs, hu, hne⟩ := this
      have hlt : d < c := Nat.lt_of_le_of_ne (sub_le hs) hne
      obtain ⟨e, he, hes⟩ := ih d hlt hd hu
      exact ⟨e, he, sub_trans (minOf_lt he) hd hes hs⟩
theorem up_minOf {U : Nat → Bool} (hM : Mono U) {c : Nat} (hc : c < 64) : up (minOf U) c = U c := by
  rw [Bool.eq_iff_iff]
  unfold up
  rw [List.any_eq_true]
  constructor
  · rintro ⟨d, hd, hs⟩
    have h1 := (mem_minOf U d).1 hd
    exact hM d c h1.1 hc hs ((isMin_iff U d).1 h1.2).1
  · intro hU
    obtain ⟨d, hd, hs⟩ := below_min U c hc hU
    exact ⟨d, hd, hs⟩
theorem isMin_congr {U V : Nat → Bool} (h : ∀ c, c < 64 → U c = V c) {c : Nat} (hc : c < 64) : isMin U c = isMin V c := by
  rw [Bool.eq_iff_iff, isMin_iff, isMin_iff, h c hc]
  constructor
  · rintro ⟨h1, h2⟩; exact ⟨h1, fun d hd hs hv => h2 d hd hs (by rw [h d hd]; exact hv)⟩
  · rintro ⟨h1, h2⟩; exact ⟨h1, fun d hd hs hv => h2 d hd hs (by rw [← h d hd]; exact hv)⟩
theorem minOf_congr {U V : Nat → Bool} (h : ∀ c, c < 64 → U c = V c) : minOf U = minOf V := by
  unfold minOf
  exact List.filter_congr fun c hc => isMin_congr h (List.mem_range.1 hc)

/-- an ascending antichain of nonempty sets -/
def anti (q : List Nat) : Prop := q.Pairwise (fun x y => x < y ∧ sub x y = false) ∧ ∀ x ∈ q, x < 64 ∧ x ≠ 0
theorem minOf_anti (U : Nat → Bool) (h0 : U 0 = false) : anti (minOf U) := by
  refine ⟨?_, fun x hx => ?_⟩
  · refine List.Pairwise.imp_of_mem ?_ (minOf_sorted U)
    intro x y hx hy hlt
    refine ⟨hlt, ?_⟩
    cases hs : sub x y
    · rfl
    · have h1 := (mem_minOf U y).1 hy
      have h2 := (mem_minOf U x).1 hx
      have := ((isMin_iff U y).1 h1.2).2 x h2.1 hs ((isMin_iff U x).1 h2.2).1
      omega
  · refine ⟨minOf_lt hx, ?_⟩
    rintro rfl
    have := ((isMin_iff U 0).1 ((mem_minOf U 0).1 hx).2).1
    rw [h0] at this; cases this
theorem anti_lt {q : List Nat} (h : anti q) : ∀ x ∈ q, x < 64 := fun x hx => (h.2 x hx).1
theorem anti_sub {q : List Nat} (h : anti q) {x y : Nat} (hx : x ∈ q) (hy : y ∈ q) (hs : sub x y = true) : x = y := by
  have key : ∀ (l : List Nat), l.Pairwise (fun x y => x < y ∧ sub x y = false) → ∀ x ∈ l, ∀ y ∈ l, sub x y = true → x = y := by
    intro l hl
    induction l with
    | nil => intro x hx; cases hx
    | cons a r ih =>
      rw [List.pairwise_cons] at hl
      intro x hx y hy hs
      rcases List.mem_cons.1 hx with e | hx'
      · rcases List.mem_cons.1 hy with e' | hy'
        · rw [e, e']
        · have := hl.1 y hy'; rw [e, this.2] at hs; cases hs
      · rcases List.mem_cons.1 hy with e' | hy'
        · have := (hl.1 x hx').1
          have := sub_le hs; omega
        · exact ih hl.2 x hx' y hy' hs
  exact key q h.1 x hx y hy hs
/-- ascending lists with the same elements are one -/
theorem sorted_ext {p q : List Nat} (hp : p.Pairwise (· < ·)) (hq : q.Pairwise (· < ·)) (h : ∀ x, x ∈ p ↔ x ∈ q) : p = q := by
  induction p generalizing q with
  | nil =>
    cases q with
    | nil => rfl
    | cons b s => exact absurd ((h b).2 (List.mem_cons_self ..)) (by simp)
  | cons a r ih =>
    cases q with
    | nil => exact absurd ((h a).1 (List.mem_cons_self ..)) (by simp)
    | cons b s =>
      rw [List.pairwise_cons] at hp hq
      have hab : a = b := by
        have h1 := (h a).1 (List.mem_cons_self ..)
        have h2 := (h b).2 (List.mem_cons_self ..)
        rcases List.mem_cons.1 h1 with e | h1
        · exact e
        · rcases List.mem_cons.1 h2 with e | h2
          · exact e.symm
          · have := hq.1 a h1; have := hp.1 b h2; omega
      subst hab
      rw [ih hp.2 hq.2 (fun x => ?_)]
      constructor
      · intro hx
        rcases List.mem_cons.1 ((h x).1 (List.mem_cons_of_mem _ hx)) with rfl | hx'
        · have := hp.1 x hx; omega
        · exact hx'
      · intro hx
        rcases List.mem_cons.1 ((h x).2 (List.mem_cons_of_mem _ hx)) with rfl | hx'
        · have := hq.1 x hx; omega
        · exact hx'
/-- an antichain is the list of the minimal sets of what lies above it -/
theorem minOf_up {q : List Nat} (h : anti q) : minOf (up q) = q := by
  refine sorted_ext (minOf_sorted _) (h.1.imp (fun h => h.1)) (fun x => ?_)
  rw [mem_minOf, isMin_iff]
  constructor
  · rintro ⟨hx, hu, hmin⟩
    unfold up at hu
    rw [List.any_eq_true] at hu
    obtain ⟨y, hy, hs⟩ := hu
    have : y = x := hmin y (anti_lt h y hy) hs (by unfold up; rw [List.any_eq_true]; exact ⟨y, hy, sub_refl y⟩)
    subst this; exact hy
  · intro hx
    refine ⟨anti_lt h x hx, by unfold up; rw [List.any_eq_true]; exact ⟨x, hx, sub_refl x⟩, fun d hd hs hu => ?_⟩
    unfold up at hu
    rw [List.any_eq_true] at hu
    obtain ⟨y, hy, hsd⟩ := hu
    have : y = x := anti_sub h hy hx (sub_trans (anti_lt h y hy) hd hsd hs)
    subst this
    exact sub_anti hs hsd
end Go.Proofs.Ytnlmcbilhfmenaa
