/- XPQ: several texts in one. Conditions: each lemma's own. -/
import Derived.Test.YtnifgfnhcjhodaaPN
import Derived.Test.YtnifgfnhcjhodaaPO

import Derived.Test.YtnifgfnhcjhodaaPM

namespace Go.Proofs.Ytnifgfnhcjhodaa

/-- the sets below a mask that pass -/
def fltrTo (U : Nat → Bool) (k : Nat) : List Nat := (List.range k).filter U
theorem fltrTo_succ (U : Nat → Bool) (k : Nat) : fltrTo U (k + 1) = if U k then fltrTo U k ++ [k] else fltrTo U k := by
  unfold fltrTo; rw [List.range_succ, List.filter_append]
  cases h : U k <;> simp [h]
theorem fltrTo_len (U : Nat → Bool) (k : Nat) : (fltrTo U k).length ≤ k := by
  unfold fltrTo; exact Nat.le_trans (List.length_filter_le _ _) (by simp)
theorem fltrTo_lt {U : Nat → Bool} {k x : Nat} (h : x ∈ fltrTo U k) : x < k := by
  unfold fltrTo at h; rw [List.mem_filter, List.mem_range] at h; exact h.1
theorem mem_fltr (U : Nat → Bool) (x : Nat) : x ∈ fltrTo U 64 ↔ x < 64 ∧ U x = true := by
  unfold fltrTo; rw [List.mem_filter, List.mem_range]
theorem up_fltr (U : Nat → Bool) (c : Nat) : up (fltrTo U 64) c = true ↔ ∃ x, x < 64 ∧ U x = true ∧ sub x c = true := by
  unfold up; rw [List.any_eq_true]
  constructor
  · rintro ⟨x, hx, hs⟩; exact ⟨x, ((mem_fltr U x).1 hx).1, ((mem_fltr U x).1 hx).2, hs⟩
  · rintro ⟨x, h1, h2, hs⟩; exact ⟨x, (mem_fltr U x).2 ⟨h1, h2⟩, hs⟩
/-- the minimal sets of those that pass are the minimal ones that pass -/
theorem minOf_fltr (U : Nat → Bool) : minOf (up (fltrTo U 64)) = minOf U := by
  refine sorted_ext (minOf_sorted _) (minOf_sorted _) fun c => ?_
  rw [mem_minOf, mem_minOf, isMin_iff, isMin_iff]
  constructor
  · rintro ⟨hc, hu, hmin⟩
    obtain ⟨x, hx, hUx, hs⟩ := (up_fltr U c).1 hu
    have : x = c := hmin x hx hs ((up_fltr U x).2 ⟨x, hx, hUx, sub_refl x⟩)
    subst this
    exact ⟨hx, hUx, fun d hd hs2 hUd => hmin d hd hs2 ((up_fltr U d).2 ⟨d, hd, hUd, sub_refl d⟩)⟩
  · rintro ⟨hc, hU, hmin⟩
    refine ⟨hc, (up_fltr U c).2 ⟨c, hc, hU, sub_refl c⟩, fun d hd hs hu => ?_⟩
    obtain ⟨x, hx, hUx, hs2⟩ := (up_fltr U d).1 hu
    have : x = c := hmin x hx (sub_trans hx hd hs2 hs) hUx
    subst this
    exact sub_anti hs hs2
/-- the quorums that a test gives -/
def whereL (U : Nat → Bool) : List (List Int) := famL (minOf U)
theorem minL_fltr (U : Nat → Bool) : minL (famL (fltrTo U 64)) = whereL U := by
  have h : ∀ x ∈ fltrTo U 64, x < 64 := fun x hx => fltrTo_lt hx
  rw [minL_yes (famL_valid h), masks_famL h, minOf_fltr]; rfl
theorem whereL_fam {U : Nat → Bool} (h0 : U 0 = false) : famB (whereL U) = true := famB_famL (minOf_anti U h0)
theorem whereL_has {U : Nat → Bool} (h0 : U 0 = false) (hM : Mono U) {c : Nat} (hc : c < 64) : hasL (whereL U) (mem c) = U c := by
  rw [hasL_mem (whereL_fam h0) hc]
  unfold whereL
  rw [masks_famL fun x hx => minOf_lt hx]
  exact up_minOf hM hc
theorem famL_snoc (q : List Nat) (c : Nat) : famL (q ++ [c]) = famL q ++ [mem c] := by simp [famL]
theorem famL_len (q : List Nat) : (famL q).length = q.length := by simp [famL]

/-! expressions -/
def ofExprL (s : List UInt8) : List (List Int) := if okE s then whereL (satE s) else []
theorem ofExprL_yes {s : List UInt8} (h : okE s = true) : ofExprL s = whereL (satE s) := by unfold ofExprL; rw [h]; rfl
theorem ofExprL_no {s : List UInt8} (h : okE s = false) : ofExprL s = [] := by unfold ofExprL; rw [h]; rfl

/-! unions of two systems, as the reference makes them -/
theorem unis_step (p q : List Nat) (x : Nat) : unis (p ++ [x]) q = unis p q ++ q.map (fun y => x ||| y) := by
  unfold unis; rw [List.flatMap_append]; simp
theorem masks_step (f : List (List Int)) (k : Nat) (h : k < f.length) : masks (f.take (k + 1)) = masks (f.take k) ++ [mask (f.getD k [])] := by
  rw [snoc_take f [] k h, masks_app]; rfl
theorem unis_len (p q : List Nat) : (unis p q).length = p.length * q.length := by
  induction p with
  | nil => simp [unis]
  | cons x r ih => simp only [unis, List.flatMap_cons, List.length_append, List.length_map, List.length_cons] at ih ⊢; rw [ih, Nat.add_mul]; omega
theorem masks_len (f : List (List Int)) : (masks f).length = f.length := by simp [masks]
theorem unis_take_len {f g : List (List Int)} (hf : famB f = true) (hg : famB g = true) (k j : Nat) : (unis (masks (f.take k)) (masks g) ++ (masks (g.take j)).map (fun y => mask (f.getD k []) ||| y)).length ≤ 420 := by
  have h1 := famB_len hf
  have h2 := famB_len hg
  rw [List.length_append, unis_len, masks_len, masks_len, List.length_map, masks_len, List.length_take, List.length_take]
  have h3 : min k f.length * g.length ≤ 20 * 20 := Nat.mul_le_mul (by omega) h2
  omega
theorem bothL_min {f g : List (List Int)} (h : ok2 f g = true) : minL (famL (unis (masks f) (masks g))) = bothL f g := by
  obtain ⟨h1, h2⟩ := ok2_iff h
  have h64 : ∀ x ∈ unis (masks f) (masks g), x < 64 := fun x hx => (unis_pos (fam_pos h1) (fam_pos h2) x hx).1
  rw [bothL_yes h, minL_yes (famL_valid h64), masks_famL h64]

def enough (w : List Int) (need : Int) (c : Nat) : Bool := decide (need ≤ sumW w c)
def okW (w : List Int) (need : Int) : Bool := valW w && (decide (1 ≤ need) && decide (need ≤ sumW w 63))
def wFamL (w : List Int) (need : Int) : List (List Int) := if okW w need then whereL (enough w need) else []
theorem wFamL_yes {w : List Int} {need : Int} (h : okW w need = true) : wFamL w need = whereL (enough w need) := by unfold wFamL; rw [h]; rfl
theorem wFamL_no {w : List Int} {need : Int} (h : okW w need = false) : wFamL w need = [] := by unfold wFamL; rw [h]; rfl


def hitsQ (q : List Nat) (c : Nat) : Bool := q.all (fun x => decide (x &&& c ≠ 0))
def okT (f : List (List Int)) : Bool := famB f && decide (f ≠ [])
def transL (f : List (List Int)) : List (List Int) := if okT f then whereL (hitsQ (masks f)) else []
theorem transL_yes {f : List (List Int)} (h : okT f = true) : transL f = whereL (hitsQ (masks f)) := by unfold transL; rw [h]; rfl
theorem transL_no {f : List (List Int)} (h : okT f = false) : transL f = [] := by unfold transL; rw [h]; rfl
theorem okT_fam {f : List (List Int)} (h : okT f = true) : famB f = true := by unfold okT at h; rw [Bool.and_eq_true] at h; exact h.1
theorem okT_ne {f : List (List Int)} (h : okT f = true) : f ≠ [] := by unfold okT at h; rw [Bool.and_eq_true] at h; exact of_decide_eq_true h.2
theorem okT_of {f : List (List Int)} (h : famB f = true) (h2 : f ≠ []) : okT f = true := by unfold okT; rw [h, decide_eq_true h2]; rfl
theorem okT_len {f : List (List Int)} (h : famB f = true) : okT f = decide (0 < f.length) := by
  unfold okT; rw [h, Bool.true_and]
  cases f <;> simp

theorem meet_sub {x c : Nat} (hx : x < 64) (hc : c < 64) : decide (x &&& c ≠ 0) = !sub x (dif 63 c) := by
  have key : ∀ x < 64, ∀ c < 64, decide (x &&& c ≠ 0) = !sub x (dif 63 c) := by decide +kernel
  exact key x hx c hc
theorem dif_dif {c : Nat} (hc : c < 64) : dif 63 (dif 63 c) = c := by
  have key : ∀ c < 64, dif 63 (dif 63 c) = c := by decide +kernel
  exact key c hc
theorem dif63_lt (c : Nat) : dif 63 c < 64 := dif_lt (by decide)
theorem dif_anti {x y : Nat} (hx : x < 64) (hy : y < 64) (h : sub x y = true) : sub (dif 63 y) (dif 63 x) = true := by
  have key : ∀ x < 64, ∀ y < 64, sub x y = true → sub (dif 63 y) (dif 63 x) = true := by decide +kernel
  exact key x hx y hy h
theorem hits_up {q : List Nat} (hq : ∀ x ∈ q, x < 64) {c : Nat} (hc : c < 64) : hitsQ q c = !up q (dif 63 c) := by
  induction q with
  | nil => rfl
  | cons x r ih =>
    have := ih fun y hy => hq y (List.mem_cons_of_mem _ hy)
    unfold hitsQ up at this ⊢
    rw [List.all_cons, List.any_cons, this, meet_sub (hq x (by simp)) hc, Bool.not_or]
theorem hits_mono {q : List Nat} (hq : ∀ x ∈ q, x < 64) : Mono (hitsQ q) := by
  intro x y hx hy hs h
  rw [hits_up hq hx] at h
  rw [hits_up hq hy]
  cases hu : up q (dif 63 y)
  · rfl
  · rw [mono_sub hq (dif63_lt y) (dif63_lt x) (dif_anti hx hy hs) hu] at h; cases h
theorem hits_zero {q : List Nat} (h : q ≠ []) : hitsQ q 0 = false := by
  cases q with
  | nil => exact absurd rfl h
  | cons x r => unfold hitsQ; simp
theorem masks_ne {f : List (List Int)} (h : f ≠ []) : masks f ≠ [] := by
  cases f with
  | nil => exact absurd rfl h
  | cons x r => simp [masks]
theorem okT_zero {f : List (List Int)} (h : okT f = true) : hitsQ (masks f) 0 = false := hits_zero (masks_ne (okT_ne h))
theorem transL_fam {f : List (List Int)} (h : okT f = true) : famB (transL f) = true := by rw [transL_yes h]; exact whereL_fam (okT_zero h)
theorem transL_has {f : List (List Int)} (h : okT f = true) {c : Nat} (hc : c < 64) : hasL (transL f) (mem c) = hitsQ (masks f) c := by
  rw [transL_yes h]; exact whereL_has (okT_zero h) (hits_mono (masks_lt (okT_fam h))) hc
theorem transL_not {f : List (List Int)} (h : okT f = true) {c : Nat} (hc : c < 64) : hasL (transL f) (mem c) = !hasL f (mem (dif 63 c)) := by
  rw [transL_has h hc, hits_up (masks_lt (okT_fam h)) hc, hasL_mem (okT_fam h) (dif63_lt c)]
theorem hasL_zero {f : List (List Int)} (h : famB f = true) : hasL f (mem 0) = false := by
  rw [hasL_mem h (by decide)]; exact up_zero (fam_pos h)
theorem hasL_nil (s : List Int) : hasL [] s = false := by unfold hasL up masks; simp
theorem transL_okT {f : List (List Int)} (h : okT f = true) : okT (transL f) = true := by
  refine okT_of (transL_fam h) fun he => ?_
  have h1 := transL_not h (c := 63) (by decide)
  rw [he, hasL_nil] at h1
  rw [show dif 63 63 = 0 from by decide, hasL_zero (okT_fam h)] at h1
  cases h1
theorem trans_twice {f : List (List Int)} (h : okT f = true) : transL (transL f) = f := by
  have h2 := transL_okT h
  refine fam_ext (transL_fam h2) (okT_fam h) fun c hc => ?_
  rw [transL_not h2 hc, transL_not h (dif63_lt c), dif_dif hc, Bool.not_not]
theorem hasL_full {f : List (List Int)} (h : okT f = true) : hasL f (mem 63) = true := by
  have hf := okT_fam h
  rw [hasL_mem hf (by decide)]
  cases hq : f with
  | nil => exact absurd hq (okT_ne h)
  | cons x r =>
    have hx : mask x < 64 := masks_lt hf _ (by rw [hq]; simp [masks])
    unfold up masks
    rw [List.map_cons, List.any_cons, sub_full _ hx, Bool.true_or]
theorem ne_of_has {f : List (List Int)} {s : List Int} (h : hasL f s = true) : f ≠ [] := by
  rintro rfl; rw [hasL_nil] at h; cases h
theorem deMorgan {f g : List (List Int)} (hf : okT f = true) (hg : okT g = true) :
    okT (eitherL f g) = true ∧ ok2 (transL f) (transL g) = true ∧ transL (eitherL f g) = bothL (transL f) (transL g) := by
  have hk : ok2 f g = true := ok2_both (okT_fam hf) (okT_fam hg)
  have h1 : okT (eitherL f g) = true := okT_of (eitherL_fam hk) (ne_of_has (s := mem 63) (by rw [eitherL_has hk (by decide), hasL_full hf]; rfl))
  have h2 : ok2 (transL f) (transL g) = true := ok2_both (transL_fam hf) (transL_fam hg)
  refine ⟨h1, h2, fam_ext (transL_fam h1) (bothL_fam h2) fun c hc => ?_⟩
  rw [transL_not h1 hc, eitherL_has hk (dif63_lt c), bothL_has h2 hc, transL_not hf hc, transL_not hg hc, Bool.not_or]
theorem either_nil {f : List (List Int)} (h : famB f = true) : eitherL f [] = f ∧ eitherL [] f = f := by
  have h0 : famB ([] : List (List Int)) = true := by decide
  have k1 := ok2_both h h0
  have k2 := ok2_both h0 h
  exact ⟨fam_ext (eitherL_fam k1) h fun c hc => by rw [eitherL_has k1 hc, hasL_nil, Bool.or_false], fam_ext (eitherL_fam k2) h fun c hc => by rw [eitherL_has k2 hc, hasL_nil, Bool.false_or]⟩

/-! a set hits every quorum, as the law asks -/
def hitsL (f : List (List Int)) (s : List Int) : Bool := f.all (fun x => decide (0 < (interL x s).length))
theorem hitsL_step (f : List (List Int)) (s : List Int) (k : Nat) (h : k < f.length) : hitsL (f.take (k + 1)) s = (hitsL (f.take k) s && decide (0 < (interL (f.getD k []) s).length)) := by
  unfold hitsL; rw [snoc_take f [] k h, List.all_append]; simp
theorem mem_pos {c : Nat} (hc : c < 64) : decide (0 < (mem c).length) = decide (c ≠ 0) := by
  have key : ∀ c < 64, decide (0 < (mem c).length) = decide (c ≠ 0) := by decide +kernel
  exact key c hc
theorem hitsL_mask {f : List (List Int)} (h : ∀ s ∈ f, valid s = true) {s : List Int} (hs : valid s = true) : hitsL f s = hitsQ (masks f) (mask s) := by
  induction f with
  | nil => rfl
  | cons x r ih =>
    have hx := h x (by simp)
    have := ih fun y hy => h y (List.mem_cons_of_mem _ hy)
    unfold hitsL hitsQ masks at this ⊢
    rw [List.all_cons, List.map_cons, List.all_cons, this, interL_yes hx hs, mem_pos (and_lt (mask_lt hx))]
theorem transL_hits {f : List (List Int)} (h : okT f = true) {c : Nat} (hc : c < 64) : hasL (transL f) (mem c) = hitsL f (mem c) := by
  rw [transL_has h hc, hitsL_mask (fam_valid (okT_fam h)) (mem_valid hc), mask_mem hc]

/-! critical members are the transversals of size one -/
def oneTo (acc : List Int) (t : List (List Int)) : List Int := t.foldl (fun acc x => if x.length = 1 then unionL acc x else acc) acc
def oneM (m : Nat) (t : List Nat) : Nat := t.foldl (fun m x => if (mem x).length = 1 then m ||| x else m) m
theorem oneTo_step (t : List (List Int)) (k : Nat) (h : k < t.length) : oneTo [] (t.take (k + 1)) = if (t.getD k []).length = 1 then unionL (oneTo [] (t.take k)) (t.getD k []) else oneTo [] (t.take k) := by
  unfold oneTo; rw [snoc_take t [] k h, List.foldl_append]; rfl
theorem oneTo_mem (q : List Nat) : ∀ (m : Nat), m < 64 → (∀ x ∈ q, x < 64) → oneTo (mem m) (famL q) = mem (oneM m q) ∧ oneM m q < 64 := by
  induction q with
  | nil => intro m hm _; exact ⟨rfl, hm⟩
  | cons x r ih =>
    intro m hm hq
    have hx := hq x (by simp)
    have hr : ∀ y ∈ r, y < 64 := fun y hy => hq y (List.mem_cons_of_mem _ hy)
    have e1 : oneTo (mem m) (famL (x :: r)) = oneTo (if (mem x).length = 1 then unionL (mem m) (mem x) else mem m) (famL r) := rfl
    have e2 : oneM m (x :: r) = oneM (if (mem x).length = 1 then m ||| x else m) r := rfl
    rw [e1, e2]
    split
    · rw [unionL_mem hm hx]; exact ih _ (or_lt hm hx) hr
    · exact ih _ hm hr
theorem oneM_has (q : List Nat) (i : Int) : ∀ (m : Nat), m < 64 → (∀ x ∈ q, x < 64) → (has (oneM m q) i = true ↔ has m i = true ∨ ∃ x ∈ q, (mem x).length = 1 ∧ has x i = true) := by
  induction q with
  | nil => intro m _ _; simp [oneM]
  | cons x r ih =>
    intro m hm hq
    have hx := hq x (by simp)
    have hr : ∀ y ∈ r, y < 64 := fun y hy => hq y (List.mem_cons_of_mem _ hy)
    have e2 : oneM m (x :: r) = oneM (if (mem x).length = 1 then m ||| x else m) r := rfl
    rw [e2]
    split
    · rename_i h1
      rw [ih _ (or_lt hm hx) hr, has_or, Bool.or_eq_true]
      constructor
      · rintro ((h | h) | ⟨y, hy, h⟩)
        · exact .inl h
        · exact .inr ⟨x, by simp, h1, h⟩
        · exact .inr ⟨y, by simp [hy], h⟩
      · rintro (h | ⟨y, hy, h⟩)
        · exact .inl (.inl h)
        · rcases List.mem_cons.1 hy with rfl | hy
          · exact .inl (.inr h.2)
          · exact .inr ⟨y, hy, h⟩
    · rename_i h1
      rw [ih _ hm hr]
      constructor
      · rintro (h | ⟨y, hy, h⟩)
        · exact .inl h
        · exact .inr ⟨y, by simp [hy], h⟩
      · rintro (h | ⟨y, hy, h⟩)
        · exact .inl h
        · rcases List.mem_cons.1 hy with rfl | hy
          · exact absurd h.1 h1
          · exact .inr ⟨y, hy, h⟩
theorem one_bit {x : Nat} {i : Int} (hx : x < 64) (h1 : (mem x).length = 1) (h : has x i = true) : x = bit i ∧ 1 ≤ i ∧ i ≤ 6 := by
  have hm := has_lt h
  refine ⟨?_, hm⟩
  have key : ∀ x < 64, ∀ i ∈ ([1, 2, 3, 4, 5, 6] : List Int), (mem x).length = 1 → has x i = true → x = bit i := by decide +kernel
  have : i = 1 ∨ i = 2 ∨ i = 3 ∨ i = 4 ∨ i = 5 ∨ i = 6 := by omega
  exact key x hx i (by simpa using this) h1 h
theorem bit_one {i : Int} (h : 1 ≤ i ∧ i ≤ 6) : bit i < 64 ∧ (mem (bit i)).length = 1 ∧ has (bit i) i = true ∧ ∀ d < 64, sub d (bit i) = true → d = 0 ∨ d = bit i := by
  have key : ∀ i ∈ ([1, 2, 3, 4, 5, 6] : List Int), bit i < 64 ∧ (mem (bit i)).length = 1 ∧ has (bit i) i = true ∧ ∀ d < 64, sub d (bit i) = true → d = 0 ∨ d = bit i := by decide +kernel
  have : i = 1 ∨ i = 2 ∨ i = 3 ∨ i = 4 ∨ i = 5 ∨ i = 6 := by omega
  exact key i (by simpa using this)
theorem and_bit {x : Nat} {i : Int} (hx : x < 64) (h : 1 ≤ i ∧ i ≤ 6) : decide (x &&& bit i ≠ 0) = has x i := by
  have key : ∀ x < 64, ∀ i ∈ ([1, 2, 3, 4, 5, 6] : List Int), decide (x &&& bit i ≠ 0) = has x i := by decide +kernel
  have : i = 1 ∨ i = 2 ∨ i = 3 ∨ i = 4 ∨ i = 5 ∨ i = 6 := by omega
  exact key x hx i (by simpa using this)
theorem allOf_has (q : List Nat) (i : Int) : ∀ (m : Nat), has (q.foldl (fun c x => c &&& x) m) i = (has m i && q.all (fun x => has x i)) := by
  induction q with
  | nil => intro m; simp
  | cons x r ih => intro m; rw [List.foldl_cons, ih, has_and, List.all_cons, Bool.and_assoc]
theorem allOf_lt64 (q : List Nat) : ∀ (m : Nat), m < 64 → q.foldl (fun c x => c &&& x) m < 64 := by
  induction q with
  | nil => intro m hm; exact hm
  | cons x r ih => intro m hm; exact ih _ (and_lt hm)
theorem mem_ext {x y : Nat} (h : ∀ i, has x i = has y i) : mem x = mem y := by
  unfold mem; congr 1; funext i; rw [h]
theorem oneM_all {q : List Nat} (hq : ∀ x ∈ q, x < 64) (hne : q ≠ []) : mem (oneM 0 (minOf (hitsQ q))) = mem (allOf q) := by
  refine mem_ext fun i => ?_
  have hl : ∀ x ∈ minOf (hitsQ q), x < 64 := fun x hx => minOf_lt hx
  rw [Bool.eq_iff_iff, oneM_has _ i 0 (by decide) hl]
  unfold allOf
  rw [allOf_has, Bool.and_eq_true]
  constructor
  · rintro (h | ⟨x, hx, h1, h2⟩)
    · unfold has at h; simp at h
    · obtain ⟨e, hi⟩ := one_bit (hl x hx) h1 h2
      subst e
      have hm := ((isMin_iff _ _).1 ((mem_minOf _ _).1 hx).2).1
      unfold hitsQ at hm
      rw [List.all_eq_true] at hm
      refine ⟨by rw [has_full]; unfold isM; simp; omega, ?_⟩
      rw [List.all_eq_true]
      intro y hy
      rw [← and_bit (hq y hy) hi]; exact hm y hy
  · rintro ⟨h, ha⟩
    have hi := has_lt h
    obtain ⟨b1, b2, b3, b4⟩ := bit_one hi
    refine .inr ⟨bit i, (mem_minOf _ _).2 ⟨b1, (isMin_iff _ _).2 ⟨?_, fun d hd hs hu => ?_⟩⟩, b2, b3⟩
    · unfold hitsQ
      rw [List.all_eq_true] at ha ⊢
      intro y hy
      rw [and_bit (hq y hy) hi]; exact ha y hy
    · rcases b4 d hd hs with rfl | rfl
      · rw [hits_zero hne] at hu; cases hu
      · rfl
theorem crit_trans {f : List (List Int)} (h : okT f = true) : oneTo [] (transL f) = critL f := by
  have hf := okT_fam h
  have hq := masks_lt hf
  have hne := masks_ne (okT_ne h)
  have e : critL f = mem (allOf (masks f)) := by
    unfold critL; rw [hf, decide_eq_true (okT_ne h)]; rfl
  rw [e, transL_yes h, ← oneM_all hq hne]
  exact (oneTo_mem (minOf (hitsQ (masks f))) 0 (by decide) fun x hx => minOf_lt hx).1


def many (c : Nat) : Nat := (mem c).length
def firstM (n : Nat) : Nat := 2 ^ n - 1
def okN (n : Int) : Bool := decide (1 ≤ n) && decide (n ≤ 6)
def fitQ (q : List Nat) (n : Nat) : Bool := q.all (fun x => sub x (firstM n))
def okR (f : List (List Int)) (n : Int) : Bool := okT f && (okN n && fitQ (masks f) n.toNat)
theorem okR_T {f : List (List Int)} {n : Int} (h : okR f n = true) : okT f = true := by unfold okR at h; rw [Bool.and_eq_true] at h; exact h.1
theorem okR_N {f : List (List Int)} {n : Int} (h : okR f n = true) : 1 ≤ n ∧ n ≤ 6 := by
  unfold okR at h; rw [Bool.and_eq_true, Bool.and_eq_true] at h
  have := h.2.1; unfold okN at this; simpa using this
theorem okR_fit {f : List (List Int)} {n : Int} (h : okR f n = true) : ∀ x ∈ masks f, sub x (firstM n.toNat) = true := by
  unfold okR at h; rw [Bool.and_eq_true, Bool.and_eq_true] at h
  have := h.2.2; unfold fitQ at this; rw [List.all_eq_true] at this; exact this
theorem firstM_lt {n : Nat} (h : n ≤ 6) : firstM n < 64 := by
  have key : ∀ n ≤ 6, firstM n < 64 := by decide
  exact key n h

/-! availability -/
def hasIn (q : List Nat) (n c : Nat) : Bool := sub c (firstM n) && up q c
def availTo (q : List Nat) (n k : Nat) : Nat := (List.range k).countP (hasIn q n)
def availL (f : List (List Int)) (n : Int) : Int := if okR f n then (availTo (masks f) n.toNat 64 : Int) else -1
theorem availL_yes {f : List (List Int)} {n : Int} (h : okR f n = true) : availL f n = (availTo (masks f) n.toNat 64 : Int) := by unfold availL; rw [h]; rfl
theorem availL_no {f : List (List Int)} {n : Int} (h : okR f n = false) : availL f n = -1 := by unfold availL; rw [h]; rfl
theorem availTo_succ (q : List Nat) (n k : Nat) : availTo q n (k + 1) = if hasIn q n k then availTo q n k + 1 else availTo q n k := by
  unfold availTo; rw [List.range_succ, List.countP_append]
  cases h : hasIn q n k <;> simp [h]
theorem availTo_le (q : List Nat) (n k : Nat) : availTo q n k ≤ k := by
  unfold availTo; exact Nat.le_trans List.countP_le_length (by simp)
theorem fit6 {f : List (List Int)} (h : okT f = true) : okR f 6 = true := by
  unfold okR
  rw [h, Bool.true_and, show okN 6 = true from by decide, Bool.true_and]
  unfold fitQ
  rw [List.all_eq_true]
  exact fun x hx => sub_full x (masks_lt (okT_fam h) x hx)
theorem count_dif (U : Nat → Bool) : (List.range 64).countP (fun c => U (dif 63 c)) = (List.range 64).countP U := by
  have e : (List.range 64).map (dif 63) = (List.range 64).reverse := by decide +kernel
  have h : ((List.range 64).map (dif 63)).countP U = (List.range 64).countP U := by
    rw [e]; exact (List.reverse_perm _).countP_eq U
  rw [List.countP_map] at h
  exact h
theorem count_congr {U V : Nat → Bool} (k : Nat) (h : ∀ c, c < k → U c = V c) : (List.range k).countP U = (List.range k).countP V := by
  refine List.countP_congr fun c hc => ?_
  rw [h c (List.mem_range.1 hc)]
theorem count_not (U : Nat → Bool) (l : List Nat) : l.countP U + l.countP (fun c => !U c) = l.length := by
  induction l with
  | nil => rfl
  | cons x r ih =>
    rw [List.countP_cons, List.countP_cons, List.length_cons]
    cases U x <;> simp <;> omega
theorem avail6 (f : List (List Int)) : availTo (masks f) 6 64 = (List.range 64).countP (up (masks f)) := by
  unfold availTo
  refine count_congr 64 fun c hc => ?_
  unfold hasIn
  rw [show sub c (firstM 6) = true from sub_full c hc, Bool.true_and]
theorem avail_dual {f : List (List Int)} (h : okT f = true) : availL f 6 + availL (transL f) 6 = 64 := by
  have h2 := transL_okT h
  rw [availL_yes (fit6 h), availL_yes (fit6 h2), show (6 : Int).toNat = 6 from rfl, avail6 f, avail6 (transL f)]
  have e : (List.range 64).countP (up (masks (transL f))) = (List.range 64).countP (fun c => !up (masks f) c) := by
    rw [← count_dif (fun c => !up (masks f) c)]
    refine count_congr 64 fun c hc => ?_
    have := transL_not h hc
    rw [hasL_mem (okT_fam h2) hc, hasL_mem (okT_fam h) (dif63_lt c)] at this
    exact this
  rw [e]
  have := count_not (up (masks f)) (List.range 64)
  rw [List.length_range] at this
  omega

/-! resilience -/
def bad (q : List Nat) (n c : Nat) : Bool := sub c (firstM n) && !up q (dif (firstM n) c)
def worstTo (q : List Nat) (n : Nat) : Nat → Nat
  | 0 => n
  | k + 1 => if bad q n k then min (worstTo q n k) (many k) else worstTo q n k
def worst (q : List Nat) (n : Nat) : Nat := worstTo q n 64
def resL (f : List (List Int)) (n : Int) : Int := if okR f n then (worst (masks f) n.toNat : Int) - 1 else -1
theorem resL_yes {f : List (List Int)} {n : Int} (h : okR f n = true) : resL f n = (worst (masks f) n.toNat : Int) - 1 := by unfold resL; rw [h]; rfl
theorem resL_no {f : List (List Int)} {n : Int} (h : okR f n = false) : resL f n = -1 := by unfold resL; rw [h]; rfl
theorem worstTo_le (q : List Nat) (n k : Nat) : worstTo q n k ≤ n := by
  induction k with
  | zero => exact Nat.le_refl _
  | succ k ih => unfold worstTo; split <;> omega
theorem worstTo_low (q : List Nat) (n : Nat) {c : Nat} (hb : bad q n c = true) (k : Nat) (hk : c < k) : worstTo q n k ≤ many c := by
  induction k with
  | zero => omega
  | succ k ih =>
    unfold worstTo
    by_cases e : c = k
    · subst e; rw [if_pos hb]; omega
    · have := ih (by omega)
      split <;> omega
theorem worstTo_at (q : List Nat) (n k : Nat) : worstTo q n k = n ∨ ∃ c, c < k ∧ bad q n c = true ∧ worstTo q n k = many c := by
  induction k with
  | zero => exact .inl rfl
  | succ k ih =>
    unfold worstTo
    split
    · rename_i hb
      rcases Nat.le_total (worstTo q n k) (many k) with h | h
      · rw [Nat.min_eq_left h]
        rcases ih with ih | ⟨c, hc, hb2, e⟩
        · exact .inl ih
        · exact .inr ⟨c, by omega, hb2, e⟩
      · rw [Nat.min_eq_right h]; exact .inr ⟨k, by omega, hb, rfl⟩
    · rcases ih with ih | ⟨c, hc, hb2, e⟩
      · exact .inl ih
      · exact .inr ⟨c, by omega, hb2, e⟩
theorem many_dif {n c : Nat} (hn : n ≤ 6) (hc : c < 64) (h : sub c (firstM n) = true) : many (dif (firstM n) c) + many c = n ∧ sub (dif (firstM n) c) (firstM n) = true ∧ dif (firstM n) (dif (firstM n) c) = c := by
  have key : ∀ n ≤ 6, ∀ c < 64, sub c (firstM n) = true → many (dif (firstM n) c) + many c = n ∧ sub (dif (firstM n) c) (firstM n) = true ∧ dif (firstM n) (dif (firstM n) c) = c := by decide +kernel
  exact key n hn c hc h
theorem dif_none {n : Nat} (hn : n ≤ 6) : dif (firstM n) 0 = firstM n ∧ dif (firstM n) (firstM n) = 0 ∧ many (firstM n) = n ∧ sub (firstM n) (firstM n) = true ∧ sub 0 (firstM n) = true := by
  have key : ∀ n ≤ 6, dif (firstM n) 0 = firstM n ∧ dif (firstM n) (firstM n) = 0 ∧ many (firstM n) = n ∧ sub (firstM n) (firstM n) = true ∧ sub 0 (firstM n) = true := by decide +kernel
  exact key n hn
theorem many_zero {c : Nat} (hc : c < 64) (h : many c = 0) : c = 0 := by
  have key : ∀ c < 64, many c = 0 → c = 0 := by decide +kernel
  exact key c hc h
/-- how many sets of a size have no quorum -/
def lacks (q : List Nat) (n j : Nat) : Nat := (List.range 64).countP (fun c => sub c (firstM n) && (!up q c && decide (many c = j)))
theorem lacks_iff (q : List Nat) (n j : Nat) : lacks q n j ≠ 0 ↔ ∃ c, c < 64 ∧ sub c (firstM n) = true ∧ up q c = false ∧ many c = j := by
  unfold lacks
  rw [ne_eq, List.countP_eq_zero]
  constructor
  · intro h
    refine Classical.byContradiction fun hno => h fun c hc hx => hno ?_
    rw [Bool.and_eq_true, Bool.and_eq_true, decide_eq_true_eq] at hx
    exact ⟨c, List.mem_range.1 hc, hx.1, by simpa using hx.2.1, hx.2.2⟩
  · rintro ⟨c, hc, h1, h2, h3⟩ h
    refine h c (List.mem_range.2 hc) ?_
    rw [h1, h2, h3]; simp
/-- what the program's loop ends at is the reference's worst case less one -/
theorem worst_is {f : List (List Int)} {n : Nat} (h : okR f (n : Int) = true) {r : Nat} (hr : r ≤ n) (h1 : ∀ j, j < r → lacks (masks f) n (n - 1 - j) = 0) (h2 : r = n ∨ lacks (masks f) n (n - 1 - r) ≠ 0) :
    worst (masks f) n = r + 1 := by
  have hN := okR_N h
  have hfit := okR_fit h
  rw [Int.toNat_natCast] at hfit
  have hT := okR_T h
  have hlt := masks_lt (okT_fam hT)
  have hn6 : n ≤ 6 := by omega
  obtain ⟨d1, d2, d3, d4, d5⟩ := dif_none hn6
  have hup0 : up (masks f) 0 = false := up_zero (fam_pos (okT_fam hT))
  have hupF : up (masks f) (firstM n) = true := by
    cases hq : masks f with
    | nil => exact absurd hq (masks_ne (okT_ne hT))
    | cons x r => unfold up; rw [List.any_cons, hfit x (by rw [hq]; simp), Bool.true_or]
  -- where the loop ends
  have hrn : r ≠ n := by
    intro e
    have h0 := h1 (n - 1) (by omega)
    have : lacks (masks f) n 0 ≠ 0 := (lacks_iff _ _ _).2 ⟨0, by decide, d5, hup0, by decide⟩
    rw [show n - 1 - (n - 1) = 0 from by omega] at h0
    exact this h0
  have h2 : lacks (masks f) n (n - 1 - r) ≠ 0 := h2.resolve_left hrn
  have low : ∀ c, c < 64 → bad (masks f) n c = true → r + 1 ≤ many c := by
    intro c hc hb
    unfold bad at hb
    rw [Bool.and_eq_true] at hb
    obtain ⟨m1, m2, m3⟩ := many_dif hn6 hc hb.1
    have hbu : up (masks f) (dif (firstM n) c) = false := by simpa using hb.2
    have hc0 : many c ≠ 0 := by
      intro e
      have := many_zero hc e
      subst this
      rw [d1, hupF] at hbu; cases hbu
    rcases Nat.lt_or_ge (many c - 1) r with hl | hl
    · exfalso
      have := h1 (many c - 1) hl
      refine (lacks_iff _ _ _).2 ⟨dif (firstM n) c, dif_lt (firstM_lt hn6), m2, hbu, ?_⟩ this
      omega
    · omega
  have hle : worst (masks f) n ≤ r + 1 := by
    obtain ⟨c, hc, k1, k2, k3⟩ := (lacks_iff _ _ _).1 h2
    obtain ⟨m1, m2, m3⟩ := many_dif hn6 hc k1
    have hb : bad (masks f) n (dif (firstM n) c) = true := by
      unfold bad; rw [m2, m3, k2]; rfl
    have := worstTo_low (masks f) n hb 64 (dif_lt (firstM_lt hn6))
    unfold worst; omega
  have hge : r + 1 ≤ worst (masks f) n := by
    unfold worst
    rcases worstTo_at (masks f) n 64 with e | ⟨c, hc, hb, e⟩
    · rw [e]; omega
    · rw [e]; exact low c hc hb
  omega
theorem lacks_all (q : List Nat) (n j : Nat) : lacks q n j ≤ 64 := by
  unfold lacks; exact Nat.le_trans List.countP_le_length (by simp)

/-- what the law asks of the resilience -/
def brokeTo (f : List (List Int)) (n r k : Nat) : Bool := (List.range k).any (fun c => bad (masks f) n c && decide (many c = r + 1))
theorem brokeTo_succ (f : List (List Int)) (n r k : Nat) : brokeTo f n r (k + 1) = (brokeTo f n r k || (bad (masks f) n k && decide (many k = r + 1))) := by
  unfold brokeTo; rw [List.range_succ, List.any_append]; simp
theorem worst_ge {f : List (List Int)} {n : Nat} {c : Nat} (hc : c < 64) (hb : bad (masks f) n c = true) : worst (masks f) n ≤ many c := worstTo_low _ _ hb 64 hc
theorem worst_pos {f : List (List Int)} {n : Nat} (h : okR f (n : Int) = true) : 1 ≤ worst (masks f) n ∧ worst (masks f) n ≤ n ∧ brokeTo f n (worst (masks f) n - 1) 64 = true := by
  have hN := okR_N h
  have hfit := okR_fit h
  rw [Int.toNat_natCast] at hfit
  have hT := okR_T h
  have hn6 : n ≤ 6 := by omega
  obtain ⟨d1, d2, d3, d4, d5⟩ := dif_none hn6
  have hup0 : up (masks f) 0 = false := up_zero (fam_pos (okT_fam hT))
  have hupF : up (masks f) (firstM n) = true := by
    cases hq : masks f with
    | nil => exact absurd hq (masks_ne (okT_ne hT))
    | cons x r => unfold up; rw [List.any_cons, hfit x (by rw [hq]; simp), Bool.true_or]
  have hle := worstTo_le (masks f) n 64
  have hbF : bad (masks f) n (firstM n) = true := by unfold bad; rw [d4, d2, hup0]; rfl
  have hex : ∃ c, c < 64 ∧ bad (masks f) n c = true ∧ worst (masks f) n = many c := by
    rcases worstTo_at (masks f) n 64 with e | h
    · exact ⟨firstM n, firstM_lt hn6, hbF, by unfold worst; rw [e, d3]⟩
    · exact h
  obtain ⟨c, hc, hb, e⟩ := hex
  have hc0 : many c ≠ 0 := by
    intro e0
    have := many_zero hc e0
    subst this
    unfold bad at hb
    rw [d1, hupF, Bool.and_eq_true] at hb
    exact absurd hb.2 (by simp)
  refine ⟨by omega, hle, ?_⟩
  unfold brokeTo
  rw [List.any_eq_true]
  refine ⟨c, List.mem_range.2 hc, ?_⟩
  rw [hb, Bool.true_and, decide_eq_true_eq]; omega
/-- at most as many failures as the resilience leave a quorum -/
theorem surv_res {f : List (List Int)} (h : famB f = true) {s : List Int} (hs : valid s = true) (hl : (s.length : Int) ≤ resL f 6) : survL f s = true := by
  cases ho : okR f 6
  · rw [resL_no ho] at hl; omega
  · rw [resL_yes ho] at hl
    rw [survL_yes h hs]
    cases hu : up (masks f) (dif 63 (mask s))
    · exfalso
      have hb : bad (masks f) 6 (mask s) = true := by
        unfold bad
        rw [show firstM 6 = 63 from rfl, hu, sub_full _ (mask_lt hs)]; rfl
      have := worst_ge (n := 6) (mask_lt hs) hb
      have e : many (mask s) = s.length := by unfold many; rw [mem_mask hs]
      rw [e] at this
      rw [show (6 : Int).toNat = 6 from rfl] at hl
      omega
    · rfl

/-! the smallest quorum -/
def smallTo (f : List (List Int)) (k : Nat) : Nat := (f.take k).foldl (fun m s => min m s.length) 6
def smallQ (f : List (List Int)) : Int := if okT f then (smallTo f f.length : Int) else -1
theorem smallTo_step (f : List (List Int)) (k : Nat) (h : k < f.length) : smallTo f (k + 1) = min (smallTo f k) (f.getD k []).length := by
  unfold smallTo; rw [snoc_take f [] k h, List.foldl_append]; rfl
theorem fold_min (l : List (List Int)) : ∀ m : Nat, (l.foldl (fun m s => min m s.length) m ≤ m ∧ (∀ s ∈ l, l.foldl (fun m s => min m s.length) m ≤ s.length)) ∧ (l.foldl (fun m s => min m s.length) m = m ∨ ∃ s ∈ l, l.foldl (fun m s => min m s.length) m = s.length) := by
  induction l with
  | nil => intro m; simp
  | cons x r ih =>
    intro m
    rw [List.foldl_cons]
    obtain ⟨⟨h1, h2⟩, h3⟩ := ih (min m x.length)
    refine ⟨⟨by omega, fun s hs => ?_⟩, ?_⟩
    · rcases List.mem_cons.1 hs with rfl | hs
      · omega
      · exact h2 s hs
    · rcases h3 with h3 | ⟨s, hs, h3⟩
      · rcases Nat.le_total m x.length with h | h
        · exact .inl (by rw [h3]; omega)
        · exact .inr ⟨x, by simp, by rw [h3]; omega⟩
      · exact .inr ⟨s, by simp [hs], h3⟩
theorem many_sub {x y : Nat} (hx : x < 64) (hy : y < 64) (h : sub x y = true) : many x ≤ many y := by
  have key : ∀ x < 64, ∀ y < 64, sub x y = true → many x ≤ many y := by decide +kernel
  exact key x hx y hy h
theorem res_trans {f : List (List Int)} (h : okT f = true) : resL f 6 = smallQ (transL f) - 1 := by
  have h2 := transL_okT h
  have ho := fit6 h
  rw [resL_yes ho]
  unfold smallQ
  rw [h2, if_pos rfl, show (6 : Int).toNat = 6 from rfl]
  have hw := worst_pos (n := 6) ho
  have hlt : ∀ c, c < 64 → bad (masks f) 6 c = hitsQ (masks f) c := fun c hc => by
    unfold bad
    rw [show firstM 6 = 63 from rfl, sub_full c hc, Bool.true_and, hits_up (masks_lt (okT_fam h)) hc]
  obtain ⟨⟨f1, f2⟩, f3⟩ := fold_min (transL f) 6
  have e : smallTo (transL f) (transL f).length = (transL f).foldl (fun m s => min m s.length) 6 := by unfold smallTo; rw [List.take_length]
  rw [e]
  have up1 : ∀ s ∈ transL f, worst (masks f) 6 ≤ s.length := by
    intro s hs
    rw [transL_yes h] at hs
    obtain ⟨c, hc, rfl⟩ := List.mem_map.1 hs
    have hm := (mem_minOf _ _).1 hc
    exact worst_ge (n := 6) hm.1 (by rw [hlt c hm.1]; exact ((isMin_iff _ _).1 hm.2).1)
  have lo : (transL f).foldl (fun m s => min m s.length) 6 ≤ worst (masks f) 6 := by
    have := hw.2.2
    unfold brokeTo at this
    rw [List.any_eq_true] at this
    obtain ⟨c, hc, hb⟩ := this
    rw [Bool.and_eq_true, decide_eq_true_eq, hlt c (List.mem_range.1 hc)] at hb
    obtain ⟨d, hd, hs⟩ := below_min _ c (List.mem_range.1 hc) hb.1
    have h5 := f2 (mem d) (by rw [transL_yes h]; exact List.mem_map_of_mem hd)
    have h6 := many_sub (minOf_lt hd) (List.mem_range.1 hc) hs
    have h7 : many d = (mem d).length := rfl
    omega
  have hi : worst (masks f) 6 ≤ (transL f).foldl (fun m s => min m s.length) 6 := by
    rcases f3 with f3 | ⟨s, hs, f3⟩
    · rw [f3]; exact hw.2.1
    · rw [f3]; exact up1 s hs
  omega
end Go.Proofs.Ytnifgfnhcjhodaa
