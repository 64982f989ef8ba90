/- Plain mathematics of the laws of votes. No program text. -/
import Derived.Test.YtjjjpakgnipghaaDoorPQ
namespace Go.Proofs.YtjjjpakgnipghaaDoor

theorem okW_parts {w : List Int} {need : Int} (h : okW w need = true) : valW w = true ∧ 1 ≤ need ∧ need ≤ sumW w 63 := by
  unfold okW at h
  simp only [Bool.and_eq_true, decide_eq_true_eq] at h
  exact ⟨h.1, h.2.1, h.2.2⟩
theorem okW_of {w : List Int} {need : Int} (h : valW w = true) (h1 : 1 ≤ need) (h2 : need ≤ sumW w 63) : okW w need = true := by
  unfold okW; rw [h, decide_eq_true h1, decide_eq_true h2]; rfl
theorem sumW_zero (w : List Int) : sumW w 0 = 0 := sumTo_zero w _
theorem sumTo_mono {w : List Int} (h : allV w = true) {x y : Nat} (hs : ∀ m, has x m = true → has y m = true) (k : Nat) : sumTo w x k ≤ sumTo w y k := by
  induction k with
  | zero => exact Int.le_refl _
  | succ k ih =>
    have hg := (allV_get h k).1
    simp only [sumTo]
    obtain ⟨v, hvv⟩ : ∃ v, v = w.getD k 0 := ⟨_, rfl⟩
    rw [← hvv] at hg ⊢
    cases hx : has x ((k : Int) + 1)
    · cases hy : has y ((k : Int) + 1) <;> simp <;> omega
    · rw [hs _ hx]; simp; omega
theorem sumW_mono {w : List Int} (h : valW w = true) {x y : Nat} (hx : x < 64) (hs : sub x y = true) : sumW w x ≤ sumW w y :=
  sumTo_mono (valW_all h) ((sub_iff x y hx).1 hs) _
theorem enough_mono {w : List Int} (h : valW w = true) (need : Int) : Mono (enough w need) := by
  intro x y hx hy hs he
  have := sumW_mono h hx hs
  unfold enough at he ⊢
  rw [decide_eq_true_eq] at he ⊢; omega
theorem enough_zero {w : List Int} {need : Int} (h : 1 ≤ need) : enough w need 0 = false := by
  unfold enough; rw [sumW_zero, decide_eq_false_iff_not]; omega
theorem wFamL_fam {w : List Int} {need : Int} (h : okW w need = true) : famB (wFamL w need) = true := by
  rw [wFamL_yes h]; exact whereL_fam (enough_zero (okW_parts h).2.1)
theorem wFamL_has {w : List Int} {need : Int} (h : okW w need = true) {c : Nat} (hc : c < 64) : hasL (wFamL w need) (mem c) = enough w need c := by
  rw [wFamL_yes h]; exact whereL_has (enough_zero (okW_parts h).2.1) (enough_mono (okW_parts h).1 need) hc
theorem wFamL_ne {w : List Int} {need : Int} (h : okW w need = true) : wFamL w need ≠ [] := by
  refine ne_of_has (s := mem 63) ?_
  rw [wFamL_has h (by decide)]
  unfold enough; rw [decide_eq_true_eq]; exact (okW_parts h).2.2
/-- a quorum's mask: enough votes, and none to spare -/
theorem wFamL_at {w : List Int} {need : Int} (h : okW w need = true) {s : List Int} (hs : s ∈ wFamL w need) :
    ∃ c, c < 64 ∧ s = mem c ∧ need ≤ sumW w c ∧ ∀ d, d < 64 → sub d c = true → d ≠ c → sumW w d < need := by
  rw [wFamL_yes h] at hs
  obtain ⟨c, hc, rfl⟩ := List.mem_map.1 hs
  have hm := (mem_minOf _ _).1 hc
  have hmin := (isMin_iff _ _).1 hm.2
  refine ⟨c, hm.1, rfl, by have := hmin.1; unfold enough at this; simpa using this, fun d hd hsd hne => ?_⟩
  refine Int.not_le.1 fun hle => hne (hmin.2 d hd hsd ?_)
  unfold enough; rw [decide_eq_true_eq]; exact hle
theorem wSum_at {w : List Int} {need : Int} (h : okW w need = true) {k : Nat} (hk : k < (wFamL w need).length) : need ≤ wSumL w ((wFamL w need).getD k []) := by
  obtain ⟨c, hc, e, hn, _⟩ := wFamL_at h (getD_mem hk)
  rw [e, wSumL_yes (okW_parts h).1 hc]; exact hn
theorem sumW_full {w : List Int} (h : valW w = true) {c : Nat} (hc : c < 64) : sumW w c ≤ sumW w 63 := sumW_mono h hc (sub_full c hc)
/-- two quorums with more votes than there are have a member in common -/
theorem votes_meet {w : List Int} {a b : Int} (ha : okW w a = true) (hb : okW w b = true) (hab : sumW w 63 < a + b) {i k : Nat} (hi : i < (wFamL w a).length) (hk : k < (wFamL w b).length) :
    (interL ((wFamL w a).getD i []) ((wFamL w b).getD k [])).length ≠ 0 := by
  have hv := (okW_parts ha).1
  obtain ⟨x, hx, e1, h1, _⟩ := wFamL_at ha (getD_mem hi)
  obtain ⟨y, hy, e2, h2, _⟩ := wFamL_at hb (getD_mem hk)
  rw [e1, e2, interL_mem hx hy]
  intro h0
  have hz : x &&& y = 0 := by
    have := mem_pos (and_lt (y := y) hx)
    rw [h0] at this
    simpa using this
  have h3 := sumW_and_or w x y
  rw [hz, sumW_zero] at h3
  have h4 := sumW_full hv (or_lt hx hy)
  omega
theorem maj_twice {w : List Int} {need : Int} (h : okW w need = true) (hm : ¬ need < majL w) : sumW w 63 < need + need := by
  unfold majL at hm
  rw [(okW_parts h).1] at hm
  simp only [if_true] at hm
  omega
theorem majL_bd (w : List Int) : 0 ≤ majL w ∧ majL w ≤ 28 := by
  unfold majL; split
  · rename_i h
    have := sumW_bd h 63; omega
  · omega
theorem dual_okW {w : List Int} {need : Int} (h : okW w need = true) : okW w (sumW w 63 - need + 1) = true := by
  obtain ⟨h1, h2, h3⟩ := okW_parts h
  exact okW_of h1 (by omega) (by omega)
theorem more_has {w : List Int} {need : Int} (h : okW w need = true) (h2 : okW w (need + 1) = true) {k : Nat} (hk : k < (wFamL w (need + 1)).length) : hasL (wFamL w need) ((wFamL w (need + 1)).getD k []) = true := by
  obtain ⟨c, hc, e, hn, _⟩ := wFamL_at h2 (getD_mem hk)
  rw [e, wFamL_has h hc]
  unfold enough; rw [decide_eq_true_eq]; omega
theorem more_no {w : List Int} {need : Int} (h : okW w need = true) (h2 : okW w (need + 1) = false) : need = sumW w 63 := by
  obtain ⟨h1, h3, h4⟩ := okW_parts h
  rcases Int.lt_or_le need (sumW w 63) with hl | hl
  · rw [okW_of h1 (by omega) (by omega)] at h2; cases h2
  · omega

/-! tight -/
theorem bit_split {c : Nat} {m : Int} (hc : c < 64) (h : has c m = true) : dif c (bit m) ||| bit m = c ∧ dif c (bit m) &&& bit m = 0 := by
  have key : ∀ c < 64, ∀ m ∈ ([1, 2, 3, 4, 5, 6] : List Int), has c m = true → dif c (bit m) ||| bit m = c ∧ dif c (bit m) &&& bit m = 0 := by decide +kernel
  have hm := has_lt h
  have : m = 1 ∨ m = 2 ∨ m = 3 ∨ m = 4 ∨ m = 5 ∨ m = 6 := by omega
  exact key c hc m (by simpa using this) h
theorem has_bit {m : Int} (h : 1 ≤ m ∧ m ≤ 6) (k : Nat) (hk : k < 6) : has (bit m) ((k : Int) + 1) = decide (m = (k : Int) + 1) := by
  have key : ∀ m ∈ ([1, 2, 3, 4, 5, 6] : List Int), ∀ k < 6, has (bit m) (((k : Nat) : Int) + 1) = decide (m = ((k : Nat) : Int) + 1) := by decide +kernel
  have : m = 1 ∨ m = 2 ∨ m = 3 ∨ m = 4 ∨ m = 5 ∨ m = 6 := by omega
  exact key m (by simpa using this) k hk
theorem sumTo_bit (w : List Int) {m : Int} (h : 1 ≤ m ∧ m ≤ 6) (k : Nat) (hk : k ≤ 6) : sumTo w (bit m) k = if m ≤ (k : Int) then w.getD (m - 1).toNat 0 else 0 := by
  induction k with
  | zero => rw [if_neg (by omega)]; rfl
  | succ k ih =>
    simp only [sumTo]
    rw [ih (by omega), has_bit h k (by omega)]
    by_cases e : m = (k : Int) + 1
    · rw [if_neg (by omega), decide_eq_true e, if_pos rfl, if_pos (by omega)]
      have : (m - 1).toNat = k := by omega
      rw [this]; omega
    · rw [decide_eq_false e, if_neg Bool.false_ne_true]
      by_cases e2 : m ≤ (k : Int)
      · rw [if_pos e2, if_pos (show m ≤ ((k + 1 : Nat) : Int) by omega), Int.add_zero]
      · rw [if_neg e2, if_neg (show ¬ m ≤ ((k + 1 : Nat) : Int) by omega), Int.add_zero]
theorem tight {w : List Int} {need : Int} (h : okW w need = true) {i k : Nat} (hi : i < (wFamL w need).length) (hk : k < ((wFamL w need).getD i []).length) :
    wSumL w (minusL ((wFamL w need).getD i []) [((wFamL w need).getD i []).getD k 0]) < need ∧
    1 ≤ ((wFamL w need).getD i []).getD k 0 ∧ ((wFamL w need).getD i []).getD k 0 ≤ (w.length : Int) ∧ w.getD (((wFamL w need).getD i []).getD k 0 - 1).toNat 0 ≠ 0 := by
  obtain ⟨hv, hn1, hn2⟩ := okW_parts h
  have hl := valW_len hv
  obtain ⟨c, hc, e, hn, hmin⟩ := wFamL_at h (getD_mem hi)
  have hval : valid ((wFamL w need).getD i []) = true := by rw [e]; exact mem_valid hc
  obtain ⟨m1, m2, m3, m4⟩ := minus_one hval hk
  obtain ⟨m, hm⟩ : ∃ m, m = ((wFamL w need).getD i []).getD k 0 := ⟨_, rfl⟩
  rw [← hm] at m1 m2 m3 m4 ⊢
  have hmask : mask ((wFamL w need).getD i []) = c := by rw [e, mask_mem hc]
  rw [hmask] at m1 m2
  obtain ⟨b1, b2⟩ := bit_split hc m2
  obtain ⟨d1, d2⟩ := dif_bit_sub hc m2
  have hlt := hmin _ (dif_lt hc) d1 d2
  have hsum := sumW_and_or w (dif c (bit m)) (bit m)
  rw [b1, b2, sumW_zero] at hsum
  have hb : sumW w (bit m) = if m ≤ (w.length : Int) then w.getD (m - 1).toNat 0 else 0 := sumTo_bit w ⟨m3, m4⟩ _ hl.2
  rw [hb] at hsum
  refine ⟨by rw [m1, wSumL_yes hv (dif_lt hc)]; exact hlt, m3, ?_, ?_⟩
  · refine Int.not_lt.1 fun hgt => ?_
    rw [if_neg (by omega)] at hsum; omega
  · intro h0
    split at hsum
    · rw [h0] at hsum; omega
    · omega

/-! scale -/
def dbl (w : List Int) : List Int := w.map (fun v => 2 * v)
theorem dbl_snoc (w : List Int) (k : Nat) (h : k < w.length) : dbl (w.take (k + 1)) = dbl (w.take k) ++ [2 * w.getD k 0] := by
  unfold dbl; rw [snoc_take w 0 k h, List.map_append]; rfl
theorem dbl_len (w : List Int) : (dbl w).length = w.length := by simp [dbl]
theorem dbl_get (w : List Int) (k : Nat) : (dbl w).getD k 0 = 2 * w.getD k 0 := by
  unfold dbl
  simp only [List.getD, List.getElem?_map]
  cases w[k]? <;> simp
theorem sumTo_dbl (w : List Int) (c k : Nat) : sumTo (dbl w) c k = 2 * sumTo w c k := by
  induction k with
  | zero => rfl
  | succ k ih => simp only [sumTo, ih, dbl_get]; split <;> omega
theorem sumW_dbl (w : List Int) (c : Nat) : sumW (dbl w) c = 2 * sumW w c := by
  unfold sumW; rw [dbl_len]; exact sumTo_dbl w c _
theorem scale_ok {w : List Int} {need : Int} (h : okW w need = true) : okW (dbl w) (2 * need) = valW (dbl w) := by
  obtain ⟨h1, h2, h3⟩ := okW_parts h
  unfold okW
  rw [sumW_dbl, decide_eq_true (by omega), decide_eq_true (by omega), Bool.and_self, Bool.and_true]
theorem scale_eq {w : List Int} {need : Int} (h : okW w need = true) (h2 : valW (dbl w) = true) : wFamL (dbl w) (2 * need) = wFamL w need := by
  rw [wFamL_yes h, wFamL_yes ((scale_ok h).trans h2)]
  unfold whereL
  rw [minOf_congr fun c hc => ?_]
  unfold enough
  rw [sumW_dbl, decide_eq_decide]; omega
end Go.Proofs.YtjjjpakgnipghaaDoor
