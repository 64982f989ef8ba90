/- XPM: several texts in one. Conditions: each lemma's own. -/


namespace Go.Proofs.Ytnifgfnhcjhodaa

def isM (m : Int) : Bool := decide (1 ≤ m) && decide (m ≤ 6)
def bit (m : Int) : Nat := 2 ^ (m.toNat - 1)
def has (c : Nat) (m : Int) : Bool := isM m && c.testBit (m.toNat - 1)
def mem (c : Nat) : List Int := [1, 2, 3, 4, 5, 6].filter (fun m => has c m)
def mask (xs : List Int) : Nat := xs.foldl (fun c m => c ||| bit m) 0
def vfrom : Int → List Int → Bool
  | _, [] => true
  | p, m :: r => decide (p < m) && decide (m ≤ 6) && vfrom m r
def valid (xs : List Int) : Bool := vfrom 0 xs
def sub (x y : Nat) : Bool := (x &&& y) == x
def dif (x y : Nat) : Nat := x &&& (63 - y)
/-- the mask of a valid set, 0 for another list -/
def rdC (xs : List Int) : Nat := if valid xs then mask xs else 0

/-- All valid sets. -/
def allS : List (List Int) := (List.range 64).map mem
def above (p : Int) : List (List Int) := allS.filter (fun l => l.all (fun m => decide (p < m)))

theorem mem_above (p : Int) (xs : List Int) (hp : 0 ≤ p) (h : vfrom p xs = true) : xs ∈ above p := by
  induction xs generalizing p with
  | nil =>
    have : ([] : List Int) ∈ allS := by decide +kernel
    exact List.mem_filter.2 ⟨this, rfl⟩
  | cons m r ih =>
    simp only [vfrom, Bool.and_eq_true, decide_eq_true_eq] at h
    obtain ⟨⟨h1, h2⟩, h3⟩ := h
    have hr := ih m (by omega) h3
    have key : ∀ m ∈ ([1, 2, 3, 4, 5, 6] : List Int), ∀ r ∈ above m, m :: r ∈ allS := by decide +kernel
    have hm : m ∈ ([1, 2, 3, 4, 5, 6] : List Int) := by
      have : m = 1 ∨ m = 2 ∨ m = 3 ∨ m = 4 ∨ m = 5 ∨ m = 6 := by omega
      simpa using this
    refine List.mem_filter.2 ⟨key m hm r hr, ?_⟩
    have ha := (List.mem_filter.1 hr).2
    simp only [List.all_cons, Bool.and_eq_true, decide_eq_true_eq, List.all_eq_true] at ha ⊢
    exact ⟨h1, fun x hx => by have := ha x hx; omega⟩

theorem valid_mem {xs : List Int} (h : valid xs = true) : ∃ c, c < 64 ∧ xs = mem c := by
  have := (List.mem_filter.1 (mem_above 0 xs (by omega) h)).1
  obtain ⟨c, hc, rfl⟩ := List.mem_map.1 this
  exact ⟨c, List.mem_range.1 hc, rfl⟩

theorem mask_mem {c : Nat} (hc : c < 64) : mask (mem c) = c := by
  have : ∀ c < 64, mask (mem c) = c := by decide +kernel
  exact this c hc
theorem mem_valid {c : Nat} (hc : c < 64) : valid (mem c) = true := by
  have : ∀ c < 64, valid (mem c) = true := by decide +kernel
  exact this c hc
theorem mem_len {c : Nat} : (mem c).length ≤ 6 := by
  unfold mem; exact List.length_filter_le _ _
theorem mem_mask {xs : List Int} (h : valid xs = true) : mem (mask xs) = xs := by
  obtain ⟨c, hc, rfl⟩ := valid_mem h
  rw [mask_mem hc]
theorem mask_lt {xs : List Int} (h : valid xs = true) : mask xs < 64 := by
  obtain ⟨c, hc, rfl⟩ := valid_mem h
  rw [mask_mem hc]; exact hc
theorem rdC_lt (xs : List Int) : rdC xs < 64 := by
  unfold rdC; split
  · exact mask_lt ‹_›
  · decide
theorem valid_len {xs : List Int} (h : valid xs = true) : xs.length ≤ 6 := by
  obtain ⟨c, hc, rfl⟩ := valid_mem h
  exact mem_len

theorem has_lt {c : Nat} {m : Int} (h : has c m = true) : 1 ≤ m ∧ m ≤ 6 := by
  simp only [has, isM, Bool.and_eq_true, decide_eq_true_eq] at h; exact h.1
theorem mem_has (c : Nat) (m : Int) : m ∈ mem c ↔ has c m = true := by
  unfold mem
  rw [List.mem_filter]
  constructor
  · exact fun h => h.2
  · intro h
    have h1 := has_lt h
    have : m = 1 ∨ m = 2 ∨ m = 3 ∨ m = 4 ∨ m = 5 ∨ m = 6 := by omega
    exact ⟨by simpa using this, h⟩
theorem contains_mem (c : Nat) (m : Int) : (mem c).contains m = has c m := by
  rw [Bool.eq_iff_iff, List.contains_iff_mem, mem_has]

theorem has_and (x y : Nat) (m : Int) : has (x &&& y) m = (has x m && has y m) := by
  unfold has; rw [Nat.testBit_and]; cases isM m <;> simp
theorem has_or (x y : Nat) (m : Int) : has (x ||| y) m = (has x m || has y m) := by
  unfold has; rw [Nat.testBit_or]; cases isM m <;> simp
theorem and_lt {x y : Nat} (h : x < 64) : x &&& y < 64 := Nat.lt_of_le_of_lt Nat.and_le_left h
theorem or_lt {x y : Nat} (h : x < 64) (k : y < 64) : x ||| y < 64 := Nat.or_lt_two_pow (n := 6) h k
theorem dif_lt {x y : Nat} (h : x < 64) : dif x y < 64 := and_lt h
theorem has_dif {x y : Nat} (m : Int) (hx : x < 64) (hy : y < 64) : has (dif x y) m = (has x m && !has y m) := by
  have key : ∀ x < 64, ∀ y < 64, ∀ m ∈ ([1, 2, 3, 4, 5, 6] : List Int), has (dif x y) m = (has x m && !has y m) := by decide +kernel
  by_cases h : m ∈ ([1, 2, 3, 4, 5, 6] : List Int)
  · exact key x hx y hy m h
  · have h0 : isM m = false := by
      simp only [isM, Bool.and_eq_false_iff, decide_eq_false_iff_not]
      simp only [List.mem_cons, List.not_mem_nil, or_false, not_or] at h
      omega
    simp [has, h0]
theorem has_full (m : Int) : has 63 m = isM m := by
  by_cases h : m ∈ ([1, 2, 3, 4, 5, 6] : List Int)
  · have key : ∀ m ∈ ([1, 2, 3, 4, 5, 6] : List Int), has 63 m = isM m := by decide +kernel
    exact key m h
  · have h0 : isM m = false := by
      simp only [isM, Bool.and_eq_false_iff, decide_eq_false_iff_not]
      simp only [List.mem_cons, List.not_mem_nil, or_false, not_or] at h
      omega
    simp [has, h0]
theorem mem_and (x y : Nat) : mem (x &&& y) = (mem x).filter (fun m => (mem y).contains m) := by
  unfold mem
  rw [List.filter_filter]
  refine List.filter_congr fun m _ => ?_
  rw [has_and]
  have := contains_mem y m
  unfold mem at this
  rw [this, Bool.and_comm]
theorem mem_dif {x y : Nat} (hx : x < 64) (hy : y < 64) : mem (dif x y) = (mem x).filter (fun m => !(mem y).contains m) := by
  unfold mem
  rw [List.filter_filter]
  refine List.filter_congr fun m _ => ?_
  rw [has_dif m hx hy]
  have := contains_mem y m
  unfold mem at this
  rw [this, Bool.and_comm]
theorem mem_or (x y : Nat) : mem (x ||| y) = [1, 2, 3, 4, 5, 6].filter (fun m => (mem x).contains m || (mem y).contains m) := by
  conv => lhs; unfold mem
  refine List.filter_congr fun m _ => ?_
  rw [has_or, contains_mem, contains_mem]
theorem sub_iff (x y : Nat) (hx : x < 64) : sub x y = true ↔ ∀ m, has x m = true → has y m = true := by
  constructor
  · intro h m hm
    simp only [sub, beq_iff_eq] at h
    have := has_and x y m
    rw [h, hm] at this
    simpa using this.symm
  · intro h
    have : mem (x &&& y) = mem x := by
      conv => lhs; unfold mem
      conv => rhs; unfold mem
      refine List.filter_congr fun m _ => ?_
      rw [has_and]
      cases hx : has x m
      · rfl
      · simp [h m hx]
    have h2 := congrArg mask this
    rw [mask_mem hx, mask_mem (and_lt hx)] at h2
    simp [sub, h2]
theorem sub_all {x y : Nat} (hx : x < 64) : sub x y = (mem x).all (fun m => (mem y).contains m) := by
  rw [Bool.eq_iff_iff, sub_iff x y hx, List.all_eq_true]
  constructor
  · intro h m hm
    rw [contains_mem]; exact h m ((mem_has x m).1 hm)
  · intro h m hm
    have := h m ((mem_has x m).2 hm)
    rwa [contains_mem] at this
theorem mask_inj {x y : Nat} (hx : x < 64) (hy : y < 64) (h : mem x = mem y) : x = y := by
  rw [← mask_mem hx, h, mask_mem hy]

/-! the functions of chapter 1 -/
def unionL (a b : List Int) : List Int := if valid a && valid b then mem (mask a ||| mask b) else []
def interL (a b : List Int) : List Int := if valid a && valid b then mem (mask a &&& mask b) else []
def minusL (a b : List Int) : List Int := if valid a && valid b then mem (dif (mask a) (mask b)) else []
def subsetL (a b : List Int) : Bool := valid a && valid b && sub (mask a) (mask b)
def containsL (a : List Int) (m : Int) : Bool := valid a && has (mask a) m
def maskL (a : List Int) : Int := if valid a then (mask a : Int) else -1
def okMask (n : Int) : Bool := decide (0 ≤ n) && decide (n ≤ 63)
def ofMaskL (n : Int) : List Int := if okMask n then mem n.toNat else []

/-! the inner functions of package spec, over any lists -/
def cont (xs : List Int) (m : Int) : Bool := xs.contains m
def subB (xs ys : List Int) : Bool := xs.all (fun x => cont ys x)
def intB (xs ys : List Int) : List Int := xs.filter (fun x => cont ys x)
def minB (xs ys : List Int) : List Int := xs.filter (fun x => !cont ys x)
def uniB (xs ys : List Int) : List Int := [1, 2, 3, 4, 5, 6].filter (fun m => cont xs m || cont ys m)
theorem intB_valid {a b : List Int} (ha : valid a = true) (hb : valid b = true) : intB a b = mem (mask a &&& mask b) := by
  rw [mem_and, mem_mask ha, mem_mask hb]; rfl
theorem minB_valid {a b : List Int} (ha : valid a = true) (hb : valid b = true) : minB a b = mem (dif (mask a) (mask b)) := by
  rw [mem_dif (mask_lt ha) (mask_lt hb), mem_mask ha, mem_mask hb]; rfl
theorem uniB_valid {a b : List Int} (ha : valid a = true) (hb : valid b = true) : uniB a b = mem (mask a ||| mask b) := by
  rw [mem_or, mem_mask ha, mem_mask hb]; rfl
theorem subB_valid {a b : List Int} (ha : valid a = true) (hb : valid b = true) : subB a b = sub (mask a) (mask b) := by
  rw [sub_all (mask_lt ha), mem_mask ha, mem_mask hb]; rfl
theorem cont_valid {a : List Int} (m : Int) (ha : valid a = true) : cont a m = has (mask a) m := by
  rw [← contains_mem, mem_mask ha]; rfl
theorem cont_snoc (xs : List Int) (x m : Int) : cont (xs ++ [x]) m = (cont xs m || x == m) := by
  unfold cont
  rw [Bool.eq_iff_iff, Bool.or_eq_true, List.contains_iff_mem, List.contains_iff_mem, List.mem_append, List.mem_singleton, beq_iff_eq]
  exact or_congr Iff.rfl eq_comm
theorem cont_take {xs : List Int} {m : Int} {k : Nat} (h : cont (xs.take k) m = true) : cont xs m = true := by
  unfold cont at h ⊢
  rw [List.contains_iff_mem] at h ⊢
  exact List.mem_of_mem_take h
theorem subB_snoc (xs ys : List Int) (x : Int) : subB (xs ++ [x]) ys = (subB xs ys && cont ys x) := by simp [subB]
theorem subB_no {xs ys : List Int} {k : Nat} (hk : k < xs.length) (h : cont ys (xs.getD k 0) = false) : subB xs ys = false := by
  unfold subB
  rw [List.all_eq_false]
  exact ⟨xs.getD k 0, by simp [List.getD, hk], by rw [h]; simp⟩
theorem intB_snoc (xs ys : List Int) (x : Int) : intB (xs ++ [x]) ys = if cont ys x then intB xs ys ++ [x] else intB xs ys := by
  unfold intB; rw [List.filter_append]; cases h : cont ys x <;> simp [h]
theorem minB_snoc (xs ys : List Int) (x : Int) : minB (xs ++ [x]) ys = if cont ys x then minB xs ys else minB xs ys ++ [x] := by
  unfold minB; rw [List.filter_append]; cases h : cont ys x <;> simp [h]

/-! prefixes, for loops -/
theorem vfrom_snoc (p : Int) (xs : List Int) (m : Int) : vfrom p (xs ++ [m]) = (vfrom p xs && (decide ((xs.getLast?.getD p) < m) && decide (m ≤ 6))) := by
  induction xs generalizing p with
  | nil =>
    show (decide (p < m) && decide (m ≤ 6) && true) = (true && (decide (p < m) && decide (m ≤ 6)))
    simp
  | cons x r ih =>
    simp only [List.cons_append, vfrom, ih]
    cases r with
    | nil =>
      show (decide (p < x) && decide (x ≤ 6) && (true && (decide (x < m) && decide (m ≤ 6)))) = (decide (p < x) && decide (x ≤ 6) && true && (decide (x < m) && decide (m ≤ 6)))
      simp
    | cons y s => simp [List.getLast?_cons, Bool.and_assoc]
theorem valid_snoc (xs : List Int) (m : Int) : valid (xs ++ [m]) = (valid xs && (decide ((xs.getLast?.getD 0) < m) && decide (m ≤ 6))) := vfrom_snoc 0 xs m
theorem vfrom_last (p : Int) (xs : List Int) (h : vfrom p xs = true) : p ≤ xs.getLast?.getD p := by
  induction xs generalizing p with
  | nil => simp
  | cons x r ih =>
    simp only [vfrom, Bool.and_eq_true, decide_eq_true_eq] at h
    have := ih x h.2
    cases r with
    | nil => simp; omega
    | cons y s => simp [List.getLast?_cons] at this ⊢; omega
theorem valid_last {xs : List Int} (h : valid xs = true) : 0 ≤ xs.getLast?.getD 0 := vfrom_last 0 xs h
theorem mask_snoc (xs : List Int) (m : Int) : mask (xs ++ [m]) = mask xs ||| bit m := by simp [mask, List.foldl_append]
theorem take_snoc (xs : List Int) (k : Nat) (h : k < xs.length) : xs.take (k + 1) = xs.take k ++ [xs.getD k 0] := by
  rw [List.take_succ_eq_append_getElem h]; simp [List.getD, h]
theorem take_last (xs : List Int) (k : Nat) (h : k ≤ xs.length) : ((xs.take k).getLast?.getD 0) = if k = 0 then 0 else xs.getD (k - 1) 0 := by
  cases k with
  | zero => simp
  | succ k => rw [take_snoc xs k (by omega)]; simp
theorem vfrom_take (p : Int) (xs : List Int) (k : Nat) (h : vfrom p xs = true) : vfrom p (xs.take k) = true := by
  induction xs generalizing p k with
  | nil => simpa using h
  | cons x r ih =>
    cases k with
    | zero => rfl
    | succ k =>
      simp only [vfrom, Bool.and_eq_true, List.take_succ_cons] at h ⊢
      exact ⟨h.1, ih x k h.2⟩
/-- a round that says no: the whole list is no set -/
theorem valid_no {xs : List Int} {k : Nat} (h : valid (xs.take k) = false) : valid xs = false := by
  cases hv : valid xs with
  | false => rfl
  | true => have := vfrom_take 0 xs k hv; unfold valid at h; rw [this] at h; cases h
/-- the test of a round -/
def stepOk (xs : List Int) (k : Nat) : Bool := isM (xs.getD k 0) && (decide (k = 0) || decide (xs.getD (k - 1) 0 < xs.getD k 0))
theorem valid_step (xs : List Int) (k : Nat) (hk : k < xs.length) (h : valid (xs.take k) = true) : valid (xs.take (k + 1)) = stepOk xs k := by
  rw [take_snoc xs k hk, valid_snoc, h, take_last xs k (by omega)]
  have hl := valid_last h
  rw [take_last xs k (by omega)] at hl
  unfold stepOk isM
  rw [Bool.eq_iff_iff]
  by_cases h0 : k = 0
  · subst h0
    simp only [if_true, Bool.true_and, Bool.and_eq_true, decide_eq_true_eq, decide_true, Bool.true_or, Bool.and_true] at hl ⊢
    omega
  · simp only [if_neg h0] at hl
    simp only [if_neg h0, Bool.true_and, Bool.and_eq_true, decide_eq_true_eq, decide_eq_false h0, Bool.false_or]
    omega
theorem intB_step (xs ys : List Int) (k : Nat) (hk : k < xs.length) : intB (xs.take (k + 1)) ys = if cont ys (xs.getD k 0) then intB (xs.take k) ys ++ [xs.getD k 0] else intB (xs.take k) ys := by
  rw [take_snoc xs k hk, intB_snoc]
theorem minB_step (xs ys : List Int) (k : Nat) (hk : k < xs.length) : minB (xs.take (k + 1)) ys = if cont ys (xs.getD k 0) then minB (xs.take k) ys else minB (xs.take k) ys ++ [xs.getD k 0] := by
  rw [take_snoc xs k hk, minB_snoc]
theorem mem_step (k : Nat) (hk : k < 6) : ([1, 2, 3, 4, 5, 6] : List Int).take (k + 1) = ([1, 2, 3, 4, 5, 6] : List Int).take k ++ [((k : Int) + 1)] := by
  have : k = 0 ∨ k = 1 ∨ k = 2 ∨ k = 3 ∨ k = 4 ∨ k = 5 := by omega
  rcases this with rfl | rfl | rfl | rfl | rfl | rfl <;> rfl
/-- the members of c up to k -/
def memTo (c k : Nat) : List Int := (([1, 2, 3, 4, 5, 6] : List Int).take k).filter (fun m => has c m)
theorem memTo_step (c k : Nat) (hk : k < 6) : memTo c (k + 1) = if has c ((k : Int) + 1) then memTo c k ++ [((k : Int) + 1)] else memTo c k := by
  unfold memTo
  rw [mem_step k hk, List.filter_append]
  cases h : has c ((k : Int) + 1) <;> simp [h]
theorem memTo_len (c k : Nat) : (memTo c k).length ≤ 6 := by
  unfold memTo
  exact Nat.le_trans (List.length_filter_le _ _) (by simp; omega)
/-! the mask as a sum -/
def sumB (xs : List Int) : Nat := (xs.map bit).sum
theorem sumB_valid {xs : List Int} (h : valid xs = true) : sumB xs = mask xs := by
  obtain ⟨c, hc, rfl⟩ := valid_mem h
  have : ∀ c < 64, sumB (mem c) = mask (mem c) := by decide +kernel
  exact this c hc
theorem sumB_drop (xs : List Int) (k : Nat) (hk : k < xs.length) : sumB (xs.drop k) = bit (xs.getD k 0) + sumB (xs.drop (k + 1)) := by
  have e : xs.getD k 0 = xs[k] := by simp [List.getD, hk]
  rw [e]; unfold sumB; rw [List.drop_eq_getElem_cons hk, List.map_cons, List.sum_cons]
theorem sumB_le (xs : List Int) (h : valid xs = true) (k : Nat) : sumB (xs.drop k) < 64 := by
  have h1 : sumB (xs.drop k) ≤ sumB xs := by
    conv => rhs; rw [← List.take_append_drop k xs]
    unfold sumB; rw [List.map_append, List.sum_append]; omega
  have h2 := mask_lt h
  rw [← sumB_valid h] at h2; omega
theorem valid_get {xs : List Int} (h : valid xs = true) (k : Nat) (hk : k < xs.length) : 1 ≤ xs.getD k 0 ∧ xs.getD k 0 ≤ 6 := by
  obtain ⟨c, hc, rfl⟩ := valid_mem h
  have : (mem c).getD k 0 ∈ mem c := by simp [List.getD, hk]
  exact has_lt ((mem_has _ _).1 this)
theorem bit_two (m : Int) (k : Nat) (h : m = (k : Int) + 1) : bit m = 2 ^ k := by
  subst h; unfold bit; congr 1
/-- the members of c from bit k on, for a loop that halves -/
theorem memTo_half (c k : Nat) (hk : k < 6) : has c ((k : Int) + 1) = decide (c / 2 ^ k % 2 = 1) := by
  have : isM ((k : Int) + 1) = true := by simp [isM]; omega
  unfold has
  rw [this, Nat.testBit_eq_decide_div_mod_eq, show ((k : Int) + 1).toNat - 1 = k from by omega]; simp
/-- the union, up to k -/
def uniTo (xs ys : List Int) (k : Nat) : List Int := (([1, 2, 3, 4, 5, 6] : List Int).take k).filter (fun m => cont xs m || cont ys m)
theorem uniTo_step (xs ys : List Int) (k : Nat) (hk : k < 6) : uniTo xs ys (k + 1) = if cont xs ((k : Int) + 1) || cont ys ((k : Int) + 1) then uniTo xs ys k ++ [((k : Int) + 1)] else uniTo xs ys k := by
  unfold uniTo
  rw [mem_step k hk, List.filter_append]
  cases h : (cont xs ((k : Int) + 1) || cont ys ((k : Int) + 1)) <;> simp [h]
theorem uniTo_len (xs ys : List Int) (k : Nat) : (uniTo xs ys k).length ≤ 6 := by
  unfold uniTo
  exact Nat.le_trans (List.length_filter_le _ _) (by simp; omega)


def okV (v : Int) : Bool := decide (0 ≤ v) && decide (v ≤ 9)
def allV (w : List Int) : Bool := w.all okV
def valW (w : List Int) : Bool := allV w && (decide (1 ≤ w.length) && decide (w.length ≤ 6))
def sumTo (w : List Int) (c : Nat) : Nat → Int
  | 0 => 0
  | k + 1 => sumTo w c k + (if has c ((k : Int) + 1) then w.getD k 0 else 0)
def sumW (w : List Int) (c : Nat) : Int := sumTo w c w.length
def sumS (w : List Int) (s : List Int) : Int := (s.map (fun m => if m ≤ (w.length : Int) then w.getD (m - 1).toNat 0 else 0)).sum
def wSumL (w s : List Int) : Int := if valid s && valW w then sumW w (mask s) else -1
def majL (w : List Int) : Int := if valW w then sumW w 63 / 2 + 1 else 0

theorem allV_snoc (xs : List Int) (x : Int) : allV (xs ++ [x]) = (allV xs && okV x) := by simp [allV]
theorem allV_step (xs : List Int) (k : Nat) (hk : k < xs.length) (h : allV (xs.take k) = true) : allV (xs.take (k + 1)) = okV (xs.getD k 0) := by
  rw [take_snoc xs k hk, allV_snoc, h]; rfl
theorem allV_no {xs : List Int} {k : Nat} (h : allV (xs.take k) = false) : allV xs = false := by
  cases hv : allV xs with
  | false => rfl
  | true =>
    unfold allV at h hv
    rw [List.all_eq_true] at hv
    rw [List.all_eq_false] at h
    obtain ⟨x, hx, hn⟩ := h
    exact absurd (hv x (List.mem_of_mem_take hx)) hn
theorem allV_get {w : List Int} (h : allV w = true) (k : Nat) : 0 ≤ w.getD k 0 ∧ w.getD k 0 ≤ 9 := by
  by_cases hk : k < w.length
  · have e : w.getD k 0 = w[k] := by simp [List.getD, hk]
    unfold allV at h
    rw [List.all_eq_true] at h
    have := h w[k] (List.getElem_mem hk)
    rw [e]; simpa [okV] using this
  · simp [List.getD, List.getElem?_eq_none (by omega : w.length ≤ k)]
theorem sumTo_bd {w : List Int} (h : allV w = true) (c k : Nat) : 0 ≤ sumTo w c k ∧ sumTo w c k ≤ 9 * k := by
  induction k with
  | zero => simp [sumTo]
  | succ k ih =>
    have hg := allV_get h k
    unfold sumTo
    split <;> omega
theorem valW_all {w : List Int} (h : valW w = true) : allV w = true := by
  simp only [valW, Bool.and_eq_true] at h; exact h.1
theorem valW_len {w : List Int} (h : valW w = true) : 1 ≤ w.length ∧ w.length ≤ 6 := by
  simp only [valW, Bool.and_eq_true, decide_eq_true_eq] at h; exact h.2
theorem sumW_bd {w : List Int} (h : valW w = true) (c : Nat) : 0 ≤ sumW w c ∧ sumW w c ≤ 54 := by
  have h1 := sumTo_bd (valW_all h) c w.length
  have h2 := valW_len h
  unfold sumW; omega
theorem sumS_snoc (w s : List Int) (m : Int) : sumS w (s ++ [m]) = sumS w s + (if m ≤ (w.length : Int) then w.getD (m - 1).toNat 0 else 0) := by
  unfold sumS; rw [List.map_append, List.sum_append]; simp
theorem sumS_step (w s : List Int) (k : Nat) (hk : k < s.length) : sumS w (s.take (k + 1)) = sumS w (s.take k) + (if s.getD k 0 ≤ (w.length : Int) then w.getD (s.getD k 0 - 1).toNat 0 else 0) := by
  rw [take_snoc s k hk, sumS_snoc]
theorem sumS_bd {w : List Int} (h : allV w = true) (s : List Int) : 0 ≤ sumS w s ∧ sumS w s ≤ 9 * s.length := by
  induction s with
  | nil => simp [sumS]
  | cons m r ih =>
    have hg := allV_get h (m - 1).toNat
    unfold sumS at ih ⊢
    rw [List.map_cons, List.sum_cons, List.length_cons]
    split <;> omega
theorem sum_filter (l : List Int) (p : Int → Bool) (g : Int → Int) : ((l.filter p).map g).sum = (l.map (fun m => if p m then g m else 0)).sum := by
  induction l with
  | nil => rfl
  | cons x r ih =>
    rw [List.filter_cons, List.map_cons, List.sum_cons]
    cases h : p x
    · simp [ih]
    · simp [ih]
theorem sumS_mem (w : List Int) (c : Nat) (hw : w.length ≤ 6) : sumS w (mem c) = sumW w c := by
  unfold sumS mem
  rw [sum_filter]
  unfold sumW
  have : w.length = 0 ∨ w.length = 1 ∨ w.length = 2 ∨ w.length = 3 ∨ w.length = 4 ∨ w.length = 5 ∨ w.length = 6 := by omega
  rcases this with h | h | h | h | h | h | h <;> rw [h] <;> simp [sumTo] <;> omega
theorem sumS_valid {w s : List Int} (hw : valW w = true) (hs : valid s = true) : sumS w s = sumW w (mask s) := by
  obtain ⟨c, hc, rfl⟩ := valid_mem hs
  rw [mask_mem hc]; exact sumS_mem w c (valW_len hw).2
theorem sumTo_and_or (w : List Int) (x y k : Nat) : sumTo w (x ||| y) k + sumTo w (x &&& y) k = sumTo w x k + sumTo w y k := by
  induction k with
  | zero => rfl
  | succ k ih =>
    unfold sumTo
    rw [has_or, has_and]
    cases has x ((k : Int) + 1) <;> cases has y ((k : Int) + 1) <;> simp <;> omega
theorem sumW_and_or (w : List Int) (x y : Nat) : sumW w (x ||| y) + sumW w (x &&& y) = sumW w x + sumW w y := sumTo_and_or w x y _
theorem sumTo_zero (w : List Int) (k : Nat) : sumTo w 0 k = 0 := by
  induction k with
  | zero => rfl
  | succ k ih => unfold sumTo; rw [ih, show has 0 ((k : Int) + 1) = false from by simp [has]]; rfl


theorem interL_comm (xs ys : List Int) : interL ys xs = interL xs ys := by
  unfold interL; rw [Bool.and_comm, Nat.and_comm]
theorem interL_valid (xs ys : List Int) : valid (interL xs ys) = true := by
  unfold interL; split
  · rename_i h; rw [Bool.and_eq_true] at h; exact mem_valid (and_lt (mask_lt h.1))
  · rfl
theorem interL_yes {xs ys : List Int} (h : valid xs = true) (k : valid ys = true) : interL xs ys = mem (mask xs &&& mask ys) := by unfold interL; rw [h, k]; rfl
theorem unionL_yes {xs ys : List Int} (h : valid xs = true) (k : valid ys = true) : unionL xs ys = mem (mask xs ||| mask ys) := by unfold unionL; rw [h, k]; rfl
theorem minusL_yes {xs ys : List Int} (h : valid xs = true) (k : valid ys = true) : minusL xs ys = mem (dif (mask xs) (mask ys)) := by unfold minusL; rw [h, k]; rfl
theorem subsetL_yes {xs ys : List Int} (h : valid xs = true) (k : valid ys = true) : subsetL xs ys = sub (mask xs) (mask ys) := by unfold subsetL; rw [h, k]; rfl
theorem maskL_yes {xs : List Int} (h : valid xs = true) : maskL xs = (mask xs : Int) := by unfold maskL; rw [h]; rfl
theorem interL_mem {x y : Nat} (hx : x < 64) (hy : y < 64) : interL (mem x) (mem y) = mem (x &&& y) := by
  rw [interL_yes (mem_valid hx) (mem_valid hy), mask_mem hx, mask_mem hy]
theorem unionL_mem {x y : Nat} (hx : x < 64) (hy : y < 64) : unionL (mem x) (mem y) = mem (x ||| y) := by
  rw [unionL_yes (mem_valid hx) (mem_valid hy), mask_mem hx, mask_mem hy]
theorem minusL_mem {x y : Nat} (hx : x < 64) (hy : y < 64) : minusL (mem x) (mem y) = mem (dif x y) := by
  rw [minusL_yes (mem_valid hx) (mem_valid hy), mask_mem hx, mask_mem hy]
theorem subsetL_mem {x y : Nat} (hx : x < 64) (hy : y < 64) : subsetL (mem x) (mem y) = sub x y := by
  rw [subsetL_yes (mem_valid hx) (mem_valid hy), mask_mem hx, mask_mem hy]
theorem maskL_mem {x : Nat} (hx : x < 64) : maskL (mem x) = (x : Int) := by
  rw [maskL_yes (mem_valid hx), mask_mem hx]
theorem containsL_mem {x : Nat} (hx : x < 64) (m : Int) : containsL (mem x) m = has x m := by
  unfold containsL; rw [mem_valid hx, mask_mem hx]; rfl
theorem interL_has {xs ys : List Int} (h : valid xs = true) (k : valid ys = true) (m : Int) : containsL (interL xs ys) m = (containsL xs m && containsL ys m) := by
  obtain ⟨x, hx, rfl⟩ := valid_mem h
  obtain ⟨y, hy, rfl⟩ := valid_mem k
  rw [interL_mem hx hy, containsL_mem (and_lt hx), containsL_mem hx, containsL_mem hy, has_and]
theorem distrib_law {xs ys : List Int} (h : valid xs = true) (k : valid ys = true) {z : Nat} (hz : z < 64) :
    interL xs (unionL ys (mem z)) = unionL (interL xs ys) (interL xs (mem z)) := by
  obtain ⟨x, hx, rfl⟩ := valid_mem h
  obtain ⟨y, hy, rfl⟩ := valid_mem k
  rw [unionL_mem hy hz, interL_mem hx (or_lt hy hz), interL_mem hx hy, interL_mem hx hz, unionL_mem (and_lt hx) (and_lt hx), Nat.and_or_distrib_left]
theorem order_law {xs ys : List Int} (h : subsetL xs ys = true) : ∃ x y : Nat, maskL xs = x ∧ maskL ys = y ∧ x ≤ y ∧ y < 64 ∧ maskL (minusL ys xs) = (y : Int) - x := by
  have hv : valid xs = true ∧ valid ys = true := by
    unfold subsetL at h; rw [Bool.and_eq_true, Bool.and_eq_true] at h; exact h.1
  obtain ⟨x, hx, rfl⟩ := valid_mem hv.1
  obtain ⟨y, hy, rfl⟩ := valid_mem hv.2
  rw [subsetL_mem hx hy] at h
  have key : ∀ x < 64, ∀ y < 64, sub x y = true → x ≤ y ∧ dif y x = y - x := by decide +kernel
  obtain ⟨h1, h2⟩ := key x hx y hy h
  refine ⟨x, y, maskL_mem hx, maskL_mem hy, h1, hy, ?_⟩
  rw [minusL_mem hy hx, maskL_mem (dif_lt hy), h2]; omega
def same (xs ys : List Int) : Bool := decide (xs = ys)
theorem same_refl (xs : List Int) : same xs xs = true := by simp [same]
theorem same_mem {x y : Nat} (hx : x < 64) (hy : y < 64) : same (mem x) (mem y) = decide (x = y) := by
  unfold same
  by_cases h : x = y
  · subst h; simp
  · rw [decide_eq_false h, decide_eq_false_iff_not]; exact fun e => h (mask_inj hx hy e)
theorem subset_law1 {xs ys : List Int} (h : valid xs = true) (k : valid ys = true) : same (interL xs ys) xs = subsetL xs ys := by
  obtain ⟨x, hx, rfl⟩ := valid_mem h
  obtain ⟨y, hy, rfl⟩ := valid_mem k
  rw [interL_mem hx hy, same_mem (and_lt hx) hx, subsetL_mem hx hy]; unfold sub; rw [Bool.eq_iff_iff]; simp
theorem subset_law2 {xs ys : List Int} (h : valid xs = true) (k : valid ys = true) : same xs ys = (subsetL xs ys && subsetL ys xs) := by
  obtain ⟨x, hx, rfl⟩ := valid_mem h
  obtain ⟨y, hy, rfl⟩ := valid_mem k
  rw [same_mem hx hy, subsetL_mem hx hy, subsetL_mem hy hx]
  have key : ∀ x < 64, ∀ y < 64, decide (x = y) = (sub x y && sub y x) := by decide +kernel
  exact key x hx y hy
theorem subset_nil {xs : List Int} (h : valid xs = true) : subsetL [] xs = true := by
  obtain ⟨x, hx, rfl⟩ := valid_mem h
  have : ([] : List Int) = mem 0 := by decide
  rw [this, subsetL_mem (by decide) hx]; simp [sub]
theorem wSumL_yes {w : List Int} (hw : valW w = true) {x : Nat} (hx : x < 64) : wSumL w (mem x) = sumW w x := by
  unfold wSumL; rw [mem_valid hx, hw, mask_mem hx]; rfl
theorem wSumL_law {w s : List Int} (h : 0 ≤ wSumL w s) (z : Nat) (hz : z < 64) :
    valW w = true ∧ valid s = true ∧ wSumL w (unionL s (mem z)) + wSumL w (interL s (mem z)) = wSumL w s + wSumL w (mem z) ∧ wSumL w [] = 0 := by
  have hv : valid s = true ∧ valW w = true := by
    unfold wSumL at h; split at h
    · rename_i h'; rwa [Bool.and_eq_true] at h'
    · omega
  obtain ⟨x, hx, rfl⟩ := valid_mem hv.1
  refine ⟨hv.2, hv.1, ?_, ?_⟩
  · rw [unionL_mem hx hz, interL_mem hx hz, wSumL_yes hv.2 (or_lt hx hz), wSumL_yes hv.2 (and_lt hx), wSumL_yes hv.2 hx, wSumL_yes hv.2 hz, sumW_and_or]
  · have : ([] : List Int) = mem 0 := by decide
    rw [this, wSumL_yes hv.2 (by decide)]; exact sumTo_zero _ _
theorem wSumL_bd (w s : List Int) : -1 ≤ wSumL w s ∧ wSumL w s ≤ 54 := by
  unfold wSumL; split
  · rename_i h'; rw [Bool.and_eq_true] at h'; have := sumW_bd h'.2 (mask s); omega
  · omega
end Go.Proofs.Ytnifgfnhcjhodaa
