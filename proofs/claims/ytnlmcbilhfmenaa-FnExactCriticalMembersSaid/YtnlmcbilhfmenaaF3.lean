/- Plain mathematics behind the laws of quorum systems. No program text. -/
import Derived.Test.YtnlmcbilhfmenaaF2
import Derived.Test.YtnlmcbilhfmenaaLM1
import Derived.Test.YtnlmcbilhfmenaaH1
namespace Go.Proofs.Ytnlmcbilhfmenaa

/-- does a quorum system have a quorum within a set? -/
def hasL (f : List (List Int)) (s : List Int) : Bool := famB f && (valid s && up (masks f) (mask s))
def survL (f : List (List Int)) (s : List Int) : Bool := famB f && (valid s && up (masks f) (dif 63 (mask s)))
/-- the members of all -/
def allOf (q : List Nat) : Nat := q.foldl (fun c x => c &&& x) 63
def critL (f : List (List Int)) : List Int := if famB f && decide (f ≠ []) then mem (allOf (masks f)) else []
/-- may these be minimized? -/
def okM (f : List (List Int)) : Bool := f.all (fun s => valid s && decide (mask s ≠ 0)) && decide (f.length ≤ 64)
def minimizeL (f : List (List Int)) : List (List Int) := if okM f then minL f else []
def ok2 (f g : List (List Int)) : Bool := famB f && famB g
def eitherL (f g : List (List Int)) : List (List Int) := if ok2 f g then minL (f ++ g) else []
/-- all unions -/
def unis (p q : List Nat) : List Nat := p.flatMap (fun x => q.map (fun y => x ||| y))
def bothL (f g : List (List Int)) : List (List Int) := if ok2 f g then famL (minOf (up (unis (masks f) (masks g)))) else []
def sameF (f g : List (List Int)) : Bool := decide (f = g)
theorem sameF_refl (f : List (List Int)) : sameF f f = true := by simp [sameF]

theorem masks_lt {f : List (List Int)} (h : famB f = true) : ∀ x ∈ masks f, x < 64 := fun x hx => ((masks_anti (famB_fvp h)).2 x hx).1
theorem fam_valid {f : List (List Int)} (h : famB f = true) : ∀ s ∈ f, valid s = true := fun s hs => (fvp_all (famB_fvp h) s hs).1
theorem fam_anti {f : List (List Int)} (h : famB f = true) : anti (masks f) := masks_anti (famB_fvp h)
theorem fam_of {f : List (List Int)} (h : famB f = true) : famL (masks f) = f := famL_of (famB_fvp h)
theorem hasL_yes {f : List (List Int)} {s : List Int} (h : famB f = true) (hs : valid s = true) : hasL f s = up (masks f) (mask s) := by unfold hasL; rw [h, hs]; rfl
theorem hasL_mem {f : List (List Int)} {c : Nat} (h : famB f = true) (hc : c < 64) : hasL f (mem c) = up (masks f) c := by rw [hasL_yes h (mem_valid hc), mask_mem hc]
theorem survL_yes {f : List (List Int)} {s : List Int} (h : famB f = true) (hs : valid s = true) : survL f s = up (masks f) (dif 63 (mask s)) := by unfold survL; rw [h, hs]; rfl
theorem hasB_hasL {f : List (List Int)} {s : List Int} (h : famB f = true) (hs : valid s = true) : hasB f s = hasL f s := by rw [hasL_yes h hs]; exact hasB_masks (fam_valid h) hs

theorem mono_sub {q : List Nat} (hq : ∀ x ∈ q, x < 64) {x y : Nat} (hx : x < 64) (hy : y < 64) (hs : sub x y = true) (hu : up q x = true) : up q y = true := up_mono hq x y hx hy hs hu
theorem sub_or_left (x y : Nat) (hx : x < 64) : sub x (x ||| y) = true := by
  rw [sub_iff _ _ hx]; intro m hm; rw [has_or, hm]; rfl
theorem sub_or_right (x y : Nat) (hy : y < 64) : sub y (x ||| y) = true := by
  rw [sub_iff _ _ hy]; intro m hm; rw [has_or, hm, Bool.or_true]
theorem or_sub {x y z : Nat} (hx : x < 64) (hy : y < 64) : sub (x ||| y) z = (sub x z && sub y z) := by
  rw [Bool.eq_iff_iff, Bool.and_eq_true, sub_iff _ _ (or_lt hx hy), sub_iff _ _ hx, sub_iff _ _ hy]
  constructor
  · intro h; exact ⟨fun m hm => h m (by rw [has_or, hm]; rfl), fun m hm => h m (by rw [has_or, hm, Bool.or_true])⟩
  · rintro ⟨h1, h2⟩ m hm
    rw [has_or, Bool.or_eq_true] at hm
    rcases hm with hm | hm
    · exact h1 m hm
    · exact h2 m hm

/-! FnHasQuorum -/
def anySub (f : List (List Int)) (s : List Int) : Bool := f.any (fun x => subsetL x s)
theorem anySub_step (f : List (List Int)) (s : List Int) (k : Nat) (h : k < f.length) : anySub (f.take (k + 1)) s = (anySub (f.take k) s || subsetL (f.getD k []) s) := by
  unfold anySub; rw [snoc_take f [] k h]; simp
theorem anySub_has {f : List (List Int)} {s : List Int} (h : ∀ x ∈ f, valid x = true) (hs : valid s = true) : anySub f s = up (masks f) (mask s) := by
  unfold anySub up masks
  rw [List.any_map]
  have key : ∀ (l : List (List Int)), (∀ s ∈ l, valid s = true) → l.any (fun x => subsetL x s) = l.any ((fun x => sub x (mask s)) ∘ mask) := by
    intro l hl
    induction l with
    | nil => rfl
    | cons x r ih => rw [List.any_cons, List.any_cons, ih (fun s hs => hl s (List.mem_cons_of_mem _ hs)), Function.comp_apply, subsetL_yes (hl x (List.mem_cons_self ..)) hs]
  exact key f h
theorem anySub_hasL {f : List (List Int)} {s : List Int} (h : famB f = true) (hs : valid s = true) : anySub f s = hasL f s := by rw [hasL_yes h hs]; exact anySub_has (fam_valid h) hs
theorem hasL_union {f : List (List Int)} {s : List Int} (hu : hasL f s = true) {c : Nat} (hc : c < 64) : hasL f (unionL s (mem c)) = true := by
  have hf : famB f = true := by unfold hasL at hu; rw [Bool.and_eq_true] at hu; exact hu.1
  have hs : valid s = true := by unfold hasL at hu; rw [Bool.and_eq_true, Bool.and_eq_true] at hu; exact hu.2.1
  obtain ⟨x, hx, rfl⟩ := valid_mem hs
  rw [unionL_mem hx hc, hasL_mem hf (or_lt hx hc)]
  rw [hasL_mem hf hx] at hu
  exact mono_sub (masks_lt hf) hx (or_lt hx hc) (sub_or_left x c hx) hu

/-! FnQuorumsMinimal -/
theorem hasL_self {f : List (List Int)} (h : famB f = true) {k : Nat} (hk : k < f.length) : hasL f (f.getD k []) = true := by
  have hm := getD_mem hk
  rw [hasL_yes h (fam_valid h _ hm)]
  unfold up; rw [List.any_eq_true]
  exact ⟨_, List.mem_map_of_mem hm, sub_refl _⟩
theorem valid_one {m : Int} (h1 : 1 ≤ m) (h2 : m ≤ 6) : valid [m] = true := by
  unfold valid vfrom vfrom; simp; omega
theorem mask_one (m : Int) : mask [m] = bit m := by simp [mask]
theorem dif_bit_sub {c : Nat} {m : Int} (hc : c < 64) (h : has c m = true) : sub (dif c (bit m)) c = true ∧ dif c (bit m) ≠ c := by
  have key : ∀ c < 64, ∀ m ∈ ([1, 2, 3, 4, 5, 6] : List Int), has c m = true → sub (dif c (bit m)) c = true ∧ dif c (bit m) ≠ c := by decide +kernel
  have hm := has_lt h
  have : m = 1 ∨ m = 2 ∨ m = 3 ∨ m = 4 ∨ m = 5 ∨ m = 6 := by omega
  exact key c hc m (by simpa using this) h
theorem minus_one {s : List Int} (hs : valid s = true) {k : Nat} (hk : k < s.length) : minusL s [s.getD k 0] = mem (dif (mask s) (bit (s.getD k 0))) ∧ has (mask s) (s.getD k 0) = true ∧ 1 ≤ s.getD k 0 ∧ s.getD k 0 ≤ 6 := by
  have hg := valid_get hs k hk
  refine ⟨?_, ?_, hg⟩
  · rw [minusL_yes hs (valid_one hg.1 hg.2), mask_one]
  · have hm : s.getD k 0 ∈ mem (mask s) := by rw [mem_mask hs]; simp [List.getD, hk]
    exact (mem_has _ _).1 hm
theorem hasL_less {f : List (List Int)} (h : famB f = true) {i : Nat} (hi : i < f.length) {k : Nat} (hk : k < (f.getD i []).length) :
    hasL f (minusL (f.getD i []) [(f.getD i []).getD k 0]) = false := by
  have hm := getD_mem hi
  have hv := fam_valid h _ hm
  obtain ⟨e, hh, _⟩ := minus_one hv hk
  have hlt := mask_lt hv
  rw [e, hasL_mem h (dif_lt hlt)]
  obtain ⟨h1, h2⟩ := dif_bit_sub hlt hh
  cases hu : up (masks f) (dif (mask (f.getD i [])) (bit ((f.getD i []).getD k 0)))
  · rfl
  · exfalso
    unfold up at hu
    rw [List.any_eq_true] at hu
    obtain ⟨y, hy, hs⟩ := hu
    have hya := masks_lt h y hy
    have := anti_sub (fam_anti h) hy (List.mem_map_of_mem hm) (sub_trans hya (dif_lt hlt) hs h1)
    subst this
    exact h2 (sub_anti h1 hs)

/-! FnCritical -/
theorem allOf_snoc (q : List Nat) (x : Nat) : allOf (q ++ [x]) = allOf q &&& x := by simp [allOf, List.foldl_append]
theorem allOf_lt (q : List Nat) : allOf q < 64 := by
  unfold allOf
  have key : ∀ (q : List Nat) (c : Nat), c < 64 → q.foldl (fun c x => c &&& x) c < 64 := by
    intro q
    induction q with
    | nil => intro c hc; exact hc
    | cons x r ih => intro c hc; exact ih _ (and_lt hc)
  exact key q 63 (by decide)
theorem has_allOf (q : List Nat) (m : Int) : has (allOf q) m = (isM m && q.all (fun x => has x m)) := by
  unfold allOf
  have key : ∀ (q : List Nat) (c : Nat), has (q.foldl (fun c x => c &&& x) c) m = (has c m && q.all (fun x => has x m)) := by
    intro q
    induction q with
    | nil => intro c; simp
    | cons x r ih => intro c; rw [List.foldl_cons, ih, has_and, List.all_cons, Bool.and_assoc]
  rw [key, has_full]
theorem bit_sub (x : Nat) (m : Int) (hx : x < 64) (h1 : 1 ≤ m) (h2 : m ≤ 6) : sub x (dif 63 (bit m)) = !has x m := by
  have key : ∀ x < 64, ∀ m ∈ ([1, 2, 3, 4, 5, 6] : List Int), sub x (dif 63 (bit m)) = !has x m := by decide +kernel
  have : m = 1 ∨ m = 2 ∨ m = 3 ∨ m = 4 ∨ m = 5 ∨ m = 6 := by omega
  exact key x hx m (by simpa using this)
theorem crit_law {f : List (List Int)} (h : famB f = true) (hn : f ≠ []) (m : Int) (h1 : 1 ≤ m) (h2 : m ≤ 6) : containsL (critL f) m = !survL f [m] := by
  have hv := valid_one h1 h2
  unfold critL
  rw [h, decide_eq_true hn, Bool.true_and, if_pos rfl, containsL_mem (allOf_lt _), has_allOf, survL_yes h hv, mask_one]
  have him : isM m = true := by unfold isM; simp [h1, h2]
  rw [him, Bool.true_and]
  unfold up
  rw [Bool.eq_iff_iff, Bool.not_eq_true', List.any_eq_false, List.all_eq_true]
  have hq := masks_lt h
  constructor
  · intro k x hx; rw [bit_sub x m (hq x hx) h1 h2, k x hx]; simp
  · intro k x hx
    have := k x hx
    rw [bit_sub x m (hq x hx) h1 h2] at this
    simpa using this
theorem critL_valid (f : List (List Int)) : valid (critL f) = true := by
  unfold critL; split
  · exact mem_valid (allOf_lt _)
  · rfl
theorem critL_len (f : List (List Int)) : (critL f).length ≤ 6 := valid_len (critL_valid f)

/-! FnSurvives -/
theorem surv_law {f : List (List Int)} {s : List Int} (h : famB f = true) (hs : valid s = true) : survL f s = hasL f (minusL (mem 63) s) := by
  obtain ⟨x, hx, rfl⟩ := valid_mem hs
  rw [minusL_mem (by decide) hx, hasL_mem h (dif_lt (by decide)), survL_yes h hs, mask_mem hx]
theorem surv_less {f : List (List Int)} {s : List Int} (hu : survL f s = true) {c : Nat} (hc : c < 64) : survL f (interL s (mem c)) = true := by
  have hf : famB f = true := by unfold survL at hu; rw [Bool.and_eq_true] at hu; exact hu.1
  have hs : valid s = true := by unfold survL at hu; rw [Bool.and_eq_true, Bool.and_eq_true] at hu; exact hu.2.1
  obtain ⟨x, hx, rfl⟩ := valid_mem hs
  rw [survL_yes hf hs, mask_mem hx] at hu
  rw [interL_mem hx hc, survL_yes hf (mem_valid (and_lt hx)), mask_mem (and_lt hx)]
  refine mono_sub (masks_lt hf) (dif_lt (by decide)) (dif_lt (by decide)) ?_ hu
  rw [sub_iff _ _ (dif_lt (by decide))]
  intro m hm
  rw [has_dif m (by decide) hx] at hm
  rw [has_dif m (by decide) (and_lt hx), has_and]
  rw [Bool.and_eq_true] at hm ⊢
  refine ⟨hm.1, ?_⟩
  have := hm.2
  cases hxm : has x m
  · simp
  · rw [hxm] at this; cases this

/-! FnFamilyValid -/
theorem fam_of_anti {f : List (List Int)} (hv : ∀ s ∈ f, valid s = true) (h : anti (masks f)) : famB f = true := by
  have e : famL (masks f) = f := famL_masks hv
  rw [← e]; exact famB_famL h
theorem anti_sublist {p q : List Nat} (h : anti q) (hs : p.Sublist q) : anti p := ⟨h.1.sublist hs, fun x hx => h.2 x (hs.subset hx)⟩
theorem fam_less {f : List (List Int)} (h : famB f = true) (k : Nat) : famB (f.take k ++ f.drop (k + 1)) = true := by
  have hs : (f.take k ++ f.drop (k + 1)).Sublist f := by
    rw [← List.eraseIdx_eq_take_drop_succ]; exact List.eraseIdx_sublist f k
  exact fam_of_anti (fun s hx => fam_valid h s (hs.subset hx)) (anti_sublist (fam_anti h) (hs.map mask))
theorem fam_more {f : List (List Int)} {s x : List Int} (hx : x ∈ f) (h : sub (mask x) (mask s) = true) : famB (f ++ [s]) = false := by
  cases hb : famB (f ++ [s])
  · rfl
  · have := fam_anti hb
    unfold masks at this
    rw [List.map_append] at this
    have h2 := (List.pairwise_append.1 this.1).2.2 _ (List.mem_map_of_mem hx) (mask s) (by simp)
    rw [h2.2] at h; cases h
theorem fam_twice {f : List (List Int)} {k : Nat} (hk : k < f.length) : famB (f ++ [f.getD k []]) = false := fam_more (getD_mem hk) (sub_refl _)
theorem sub_full (x : Nat) (hx : x < 64) : sub x 63 = true := by
  have key : ∀ x < 64, sub x 63 = true := by decide +kernel
  exact key x hx
theorem fam_full {f : List (List Int)} (h : famB f = true) (hk : 0 < f.length) : famB (f ++ [mem 63]) = false :=
  fam_more (getD_mem hk) (by rw [mask_mem (by decide)]; exact sub_full _ (mask_lt (fam_valid h _ (getD_mem hk))))

/-! minimizing -/
theorem okM_valid {f : List (List Int)} (h : okM f = true) : ∀ s ∈ f, valid s = true ∧ mask s ≠ 0 := by
  unfold okM at h
  simp only [Bool.and_eq_true, List.all_eq_true, decide_eq_true_eq] at h
  exact fun s hs => h.1 s hs
theorem okM_len {f : List (List Int)} (h : okM f = true) : f.length ≤ 64 := by
  unfold okM at h
  simp only [Bool.and_eq_true, decide_eq_true_eq] at h
  exact h.2
theorem masks64 {f : List (List Int)} (h : ∀ s ∈ f, valid s = true) : ∀ x ∈ masks f, x < 64 := fun x hx => by
  obtain ⟨s, hs, rfl⟩ := List.mem_map.1 hx
  exact mask_lt (h s hs)
theorem minL_yes {f : List (List Int)} (h : ∀ s ∈ f, valid s = true) : minL f = famL (minOf (up (masks f))) := minL_masks h
theorem up_zero {q : List Nat} (h : ∀ x ∈ q, x < 64 ∧ x ≠ 0) : up q 0 = false := by
  unfold up
  rw [List.any_eq_false]
  intro x hx
  have := (h x hx).2
  simp only [sub, beq_iff_eq, Nat.and_zero]
  omega
theorem masks_pos {f : List (List Int)} (h : ∀ s ∈ f, valid s = true ∧ mask s ≠ 0) : ∀ x ∈ masks f, x < 64 ∧ x ≠ 0 := fun x hx => by
  obtain ⟨s, hs, rfl⟩ := List.mem_map.1 hx
  exact ⟨mask_lt (h s hs).1, (h s hs).2⟩
/-- what comes out of a minimizing is a quorum system -/
theorem famB_minOf {q : List Nat} (h : ∀ x ∈ q, x < 64 ∧ x ≠ 0) : famB (famL (minOf (up q))) = true := famB_famL (minOf_anti _ (up_zero h))
theorem famB_minL {f : List (List Int)} (h : ∀ s ∈ f, valid s = true ∧ mask s ≠ 0) : famB (minL f) = true := by
  rw [minL_yes (fun s hs => (h s hs).1)]; exact famB_minOf (masks_pos h)
theorem masks_minL {f : List (List Int)} (h : ∀ s ∈ f, valid s = true) : masks (minL f) = minOf (up (masks f)) := by
  rw [minL_yes h]; exact masks_famL fun x hx => minOf_lt hx
/-- .. and it has the same sets above it -/
theorem hasL_minL {f : List (List Int)} (h : ∀ s ∈ f, valid s = true ∧ mask s ≠ 0) {c : Nat} (hc : c < 64) : hasL (minL f) (mem c) = up (masks f) c := by
  rw [hasL_mem (famB_minL h) hc, masks_minL (fun s hs => (h s hs).1)]
  exact up_minOf (up_mono (masks64 fun s hs => (h s hs).1)) hc
theorem minL_congr {f g : List (List Int)} (hf : ∀ s ∈ f, valid s = true) (hg : ∀ s ∈ g, valid s = true) (h : ∀ c, c < 64 → up (masks f) c = up (masks g) c) : minL f = minL g := by
  rw [minL_yes hf, minL_yes hg, minOf_congr h]
theorem minL_self {f : List (List Int)} (h : famB f = true) : minL f = f := by
  rw [minL_yes (fam_valid h), minOf_up (fam_anti h), fam_of h]
theorem fam_okM {f : List (List Int)} (h : famB f = true) : okM f = true := by
  unfold okM
  simp only [Bool.and_eq_true, List.all_eq_true, decide_eq_true_eq]
  exact ⟨fun s hs => fvp_all (famB_fvp h) s hs, by have := famB_len h; omega⟩
theorem minimize_idem {f : List (List Int)} (h : okM f = true) : minimizeL (minimizeL f) = minimizeL f ∧ okM (minimizeL f) = true := by
  have e : minimizeL f = minL f := by unfold minimizeL; rw [h]; rfl
  have hb := famB_minL (okM_valid h)
  rw [e]
  refine ⟨?_, fam_okM hb⟩
  unfold minimizeL
  rw [fam_okM hb, if_pos rfl, minL_self hb]
theorem up_congr {p q : List Nat} (h : ∀ x, x ∈ p ↔ x ∈ q) (c : Nat) : up p c = up q c := by
  unfold up
  rw [Bool.eq_iff_iff, List.any_eq_true, List.any_eq_true]
  constructor
  · rintro ⟨x, hx, hs⟩; exact ⟨x, (h x).1 hx, hs⟩
  · rintro ⟨x, hx, hs⟩; exact ⟨x, (h x).2 hx, hs⟩
/-- each twice, the last first -/
def backOf (f : List (List Int)) : Nat → List (List Int)
  | 0 => []
  | n + 1 => backOf f n ++ [f.getD (f.length - 1 - n) [], f.getD (f.length - 1 - n) []]
theorem backOf_len (f : List (List Int)) (n : Nat) : (backOf f n).length = 2 * n := by
  induction n with
  | zero => rfl
  | succ n ih => simp [backOf, ih]; omega
theorem backOf_mem (f : List (List Int)) (n : Nat) (hn : n ≤ f.length) (x : List Int) : x ∈ backOf f n ↔ ∃ k, f.length - n ≤ k ∧ k < f.length ∧ f.getD k [] = x := by
  induction n with
  | zero => simp [backOf]; intro k h1 h2; omega
  | succ n ih =>
    unfold backOf
    rw [List.mem_append, ih (by omega)]
    constructor
    · rintro (⟨k, h1, h2, h3⟩ | h)
      · exact ⟨k, by omega, h2, h3⟩
      · refine ⟨f.length - 1 - n, by omega, by omega, ?_⟩
        simp only [List.mem_cons, List.not_mem_nil, or_false, or_self] at h
        exact h.symm
    · rintro ⟨k, h1, h2, h3⟩
      by_cases hk : f.length - n ≤ k
      · exact .inl ⟨k, hk, h2, h3⟩
      · right
        have : k = f.length - 1 - n := by omega
        subst this; rw [h3]; simp
theorem backOf_all (f : List (List Int)) (x : List Int) : x ∈ backOf f f.length ↔ x ∈ f := by
  rw [backOf_mem f _ (Nat.le_refl _)]
  constructor
  · rintro ⟨k, _, h2, rfl⟩; exact getD_mem h2
  · intro h
    obtain ⟨k, hk, e⟩ := mem_getD h
    exact ⟨k, by omega, hk, e⟩
theorem back_law {f : List (List Int)} (h : okM f = true) (hl : f.length ≤ 32) : okM (backOf f f.length) = true ∧ minimizeL (backOf f f.length) = minimizeL f := by
  have hv := okM_valid h
  have hv2 : ∀ s ∈ backOf f f.length, valid s = true ∧ mask s ≠ 0 := fun s hs => hv s ((backOf_all f s).1 hs)
  have ho : okM (backOf f f.length) = true := by
    unfold okM
    simp only [Bool.and_eq_true, List.all_eq_true, decide_eq_true_eq]
    exact ⟨hv2, by rw [backOf_len]; omega⟩
  refine ⟨ho, ?_⟩
  unfold minimizeL
  rw [ho, h, if_pos rfl, if_pos rfl]
  refine minL_congr (fun s hs => (hv2 s hs).1) (fun s hs => (hv s hs).1) fun c _ => up_congr (fun x => ?_) c
  unfold masks
  rw [List.mem_map, List.mem_map]
  constructor
  · rintro ⟨s, hs, e⟩; exact ⟨s, (backOf_all f s).1 hs, e⟩
  · rintro ⟨s, hs, e⟩; exact ⟨s, (backOf_all f s).2 hs, e⟩
theorem minimizeL_has {f : List (List Int)} (h : okM f = true) {c : Nat} (hc : c < 64) : hasL (minimizeL f) (mem c) = anySub f (mem c) := by
  unfold minimizeL
  rw [h, if_pos rfl, hasL_minL (okM_valid h) hc, anySub_has (fun s hs => (okM_valid h s hs).1) (mem_valid hc), mask_mem hc]
theorem minimizeL_fam {f : List (List Int)} (h : okM f = true) : famB (minimizeL f) = true := by
  unfold minimizeL; rw [h, if_pos rfl]; exact famB_minL (okM_valid h)
theorem minOf_sub_up {q : List Nat} (hq : ∀ x ∈ q, x < 64) {x : Nat} (hx : x ∈ minOf (up q)) : x ∈ q := by
  obtain ⟨h64, hm⟩ := (mem_minOf _ _).1 hx
  obtain ⟨hu, hmin⟩ := (isMin_iff _ _).1 hm
  unfold up at hu
  rw [List.any_eq_true] at hu
  obtain ⟨y, hy, hs⟩ := hu
  have := hmin y (hq y hy) hs (by unfold up; rw [List.any_eq_true]; exact ⟨y, hy, sub_refl y⟩)
  subst this; exact hy
theorem minimizeL_len {f : List (List Int)} (h : okM f = true) : (minimizeL f).length ≤ f.length := by
  have hv := okM_valid h
  unfold minimizeL
  rw [h, if_pos rfl, minL_yes (fun s hs => (hv s hs).1)]
  have h1 : (minOf (up (masks f))).length ≤ (masks f).length :=
    List.Nodup.length_le_of_subset ((minOf_sorted _).imp (fun h => Nat.ne_of_lt h)) (fun x hx => minOf_sub_up (masks64 fun s hs => (hv s hs).1) hx)
  simpa [famL, masks] using h1

/-! either and both -/
theorem ok2_iff {f g : List (List Int)} (h : ok2 f g = true) : famB f = true ∧ famB g = true := by unfold ok2 at h; rwa [Bool.and_eq_true] at h
theorem ok2_comm (f g : List (List Int)) : ok2 g f = ok2 f g := by unfold ok2; rw [Bool.and_comm]
theorem app_pos {f g : List (List Int)} (h : ok2 f g = true) : ∀ s ∈ f ++ g, valid s = true ∧ mask s ≠ 0 := by
  obtain ⟨h1, h2⟩ := ok2_iff h
  intro s hs
  rcases List.mem_append.1 hs with hs | hs
  · exact fvp_all (famB_fvp h1) s hs
  · exact fvp_all (famB_fvp h2) s hs
theorem up_app (p q : List Nat) (c : Nat) : up (p ++ q) c = (up p c || up q c) := by simp [up]
theorem masks_app (f g : List (List Int)) : masks (f ++ g) = masks f ++ masks g := by simp [masks]
theorem eitherL_yes {f g : List (List Int)} (h : ok2 f g = true) : eitherL f g = minL (f ++ g) := by unfold eitherL; rw [h]; rfl
theorem eitherL_mask {f g : List (List Int)} (h : ok2 f g = true) : eitherL f g = famL (minOf (up (masks f ++ masks g))) := by
  rw [eitherL_yes h, minL_yes (fun s hs => (app_pos h s hs).1), masks_app]
theorem eitherL_fam {f g : List (List Int)} (h : ok2 f g = true) : famB (eitherL f g) = true := by rw [eitherL_yes h]; exact famB_minL (app_pos h)
theorem eitherL_has {f g : List (List Int)} (h : ok2 f g = true) {c : Nat} (hc : c < 64) : hasL (eitherL f g) (mem c) = (hasL f (mem c) || hasL g (mem c)) := by
  obtain ⟨h1, h2⟩ := ok2_iff h
  rw [eitherL_yes h, hasL_minL (app_pos h) hc, masks_app, up_app, hasL_mem h1 hc, hasL_mem h2 hc]
/-- two quorum systems with the same sets above them are one -/
theorem fam_ext {f g : List (List Int)} (hf : famB f = true) (hg : famB g = true) (h : ∀ c, c < 64 → hasL f (mem c) = hasL g (mem c)) : f = g := by
  rw [← fam_of hf, ← fam_of hg, ← minOf_up (fam_anti hf), ← minOf_up (fam_anti hg)]
  exact congrArg famL (minOf_congr fun c hc => by have := h c hc; rwa [hasL_mem hf hc, hasL_mem hg hc] at this)
theorem eitherL_comm {f g : List (List Int)} (h : ok2 f g = true) : eitherL g f = eitherL f g := by
  have h' : ok2 g f = true := by rw [ok2_comm]; exact h
  exact fam_ext (eitherL_fam h') (eitherL_fam h) fun c hc => by rw [eitherL_has h' hc, eitherL_has h hc, Bool.or_comm]
theorem mem_unis (p q : List Nat) (z : Nat) : z ∈ unis p q ↔ ∃ x ∈ p, ∃ y ∈ q, x ||| y = z := by
  unfold unis; rw [List.mem_flatMap]
  constructor
  · rintro ⟨x, hx, h⟩
    obtain ⟨y, hy, e⟩ := List.mem_map.1 h
    exact ⟨x, hx, y, hy, e⟩
  · rintro ⟨x, hx, y, hy, e⟩; exact ⟨x, hx, List.mem_map.2 ⟨y, hy, e⟩⟩
theorem unis_pos {p q : List Nat} (hp : ∀ x ∈ p, x < 64 ∧ x ≠ 0) (hq : ∀ x ∈ q, x < 64 ∧ x ≠ 0) : ∀ z ∈ unis p q, z < 64 ∧ z ≠ 0 := by
  intro z hz
  obtain ⟨x, hx, y, hy, rfl⟩ := (mem_unis p q z).1 hz
  refine ⟨or_lt (hp x hx).1 (hq y hy).1, fun e => ?_⟩
  have := sub_le (sub_or_left x y (hp x hx).1)
  have := (hp x hx).2
  omega
theorem up_unis {p q : List Nat} (hp : ∀ x ∈ p, x < 64) (hq : ∀ x ∈ q, x < 64) (c : Nat) : up (unis p q) c = (up p c && up q c) := by
  unfold up
  rw [Bool.eq_iff_iff, Bool.and_eq_true, List.any_eq_true, List.any_eq_true, List.any_eq_true]
  constructor
  · rintro ⟨z, hz, hs⟩
    obtain ⟨x, hx, y, hy, rfl⟩ := (mem_unis p q z).1 hz
    rw [or_sub (hp x hx) (hq y hy), Bool.and_eq_true] at hs
    exact ⟨⟨x, hx, hs.1⟩, ⟨y, hy, hs.2⟩⟩
  · rintro ⟨⟨x, hx, h1⟩, ⟨y, hy, h2⟩⟩
    exact ⟨x ||| y, (mem_unis p q _).2 ⟨x, hx, y, hy, rfl⟩, by rw [or_sub (hp x hx) (hq y hy), h1, h2]; rfl⟩
theorem bothL_yes {f g : List (List Int)} (h : ok2 f g = true) : bothL f g = famL (minOf (up (unis (masks f) (masks g)))) := by unfold bothL; rw [h]; rfl
theorem fam_pos {f : List (List Int)} (h : famB f = true) : ∀ x ∈ masks f, x < 64 ∧ x ≠ 0 := (fam_anti h).2
theorem bothL_fam {f g : List (List Int)} (h : ok2 f g = true) : famB (bothL f g) = true := by
  obtain ⟨h1, h2⟩ := ok2_iff h
  rw [bothL_yes h]; exact famB_minOf (unis_pos (fam_pos h1) (fam_pos h2))
theorem bothL_has {f g : List (List Int)} (h : ok2 f g = true) {c : Nat} (hc : c < 64) : hasL (bothL f g) (mem c) = (hasL f (mem c) && hasL g (mem c)) := by
  obtain ⟨h1, h2⟩ := ok2_iff h
  rw [hasL_mem (bothL_fam h) hc, bothL_yes h, masks_famL (fun x hx => minOf_lt hx), up_minOf (up_mono fun x hx => (unis_pos (fam_pos h1) (fam_pos h2) x hx).1) hc,
    up_unis (masks_lt h1) (masks_lt h2), hasL_mem h1 hc, hasL_mem h2 hc]
theorem bothL_comm {f g : List (List Int)} (h : ok2 f g = true) : bothL g f = bothL f g := by
  have h' : ok2 g f = true := by rw [ok2_comm]; exact h
  exact fam_ext (bothL_fam h') (bothL_fam h) fun c hc => by rw [bothL_has h' hc, bothL_has h hc, Bool.and_comm]
theorem ok2_both {f g : List (List Int)} (h1 : famB f = true) (h2 : famB g = true) : ok2 f g = true := by unfold ok2; rw [h1, h2]; rfl
theorem both_self {f : List (List Int)} (h : famB f = true) : bothL f f = f ∧ eitherL f f = f := by
  have hk := ok2_both h h
  exact ⟨fam_ext (bothL_fam hk) h fun c hc => by rw [bothL_has hk hc, Bool.and_self], fam_ext (eitherL_fam hk) h fun c hc => by rw [eitherL_has hk hc, Bool.or_self]⟩
theorem absorb {f g : List (List Int)} (h : ok2 f g = true) : eitherL f (bothL f g) = f ∧ bothL f (eitherL f g) = f ∧ ok2 f (bothL f g) = true ∧ ok2 f (eitherL f g) = true := by
  obtain ⟨h1, h2⟩ := ok2_iff h
  have k1 := ok2_both h1 (bothL_fam h)
  have k2 := ok2_both h1 (eitherL_fam h)
  refine ⟨fam_ext (eitherL_fam k1) h1 fun c hc => ?_, fam_ext (bothL_fam k2) h1 fun c hc => ?_, k1, k2⟩
  · rw [eitherL_has k1 hc, bothL_has h hc]; cases hasL f (mem c) <;> simp
  · rw [bothL_has k2 hc, eitherL_has h hc]; cases hasL f (mem c) <;> simp
theorem distrib_fam {f g k : List (List Int)} (h : ok2 f g = true) (hk : famB k = true) :
    bothL k (eitherL f g) = eitherL (bothL k f) (bothL k g) ∧ ok2 k (eitherL f g) = true ∧ ok2 k f = true ∧ ok2 k g = true ∧ ok2 (bothL k f) (bothL k g) = true := by
  obtain ⟨h1, h2⟩ := ok2_iff h
  have k1 := ok2_both hk (eitherL_fam h)
  have k2 := ok2_both hk h1
  have k3 := ok2_both hk h2
  have k4 := ok2_both (bothL_fam k2) (bothL_fam k3)
  refine ⟨fam_ext (bothL_fam k1) (eitherL_fam k4) fun c hc => ?_, k1, k2, k3, k4⟩
  rw [bothL_has k1 hc, eitherL_has h hc, eitherL_has k4 hc, bothL_has k2 hc, bothL_has k3 hc]
  cases hasL k (mem c) <;> simp
end Go.Proofs.Ytnlmcbilhfmenaa
