/- Plain mathematics behind the laws of expressions. No program text. -/
import Derived.Test.YtaphbgagpdodkaaE2
import Derived.Test.YtaphbgagpdodkaaLM1
namespace Go.Proofs.Ytaphbgagpdodkaa
open Fo

theorem okE_some {L : List UInt8} (h : okE L = true) : ∃ t, ex L = some t ∧ L = t.str ∧ t.wf = true ∧ t.len = 1 ∧ L.length ≤ 40 := by
  obtain ⟨t, ht⟩ := Option.isSome_iff_exists.1 h
  obtain ⟨h1, h2, h3, h4, _⟩ := ex_some ht
  exact ⟨t, ht, h1, h2, h3, h4⟩
theorem satisfiedE_ok {L : List UInt8} {t : Fo} (h : ex L = some t) (xs : List Int) : satisfiedE L xs = (valid xs && sat (mask xs) t) := by
  unfold satisfiedE okE satE; rw [h]; rfl
theorem membersE_ok {L : List UInt8} {t : Fo} (h : ex L = some t) : membersE L = mem t.occ := by
  unfold membersE okE occE; rw [h]; rfl
theorem satisfiedE_yes {L : List UInt8} {xs : List Int} (h : satisfiedE L xs = true) : okE L = true ∧ valid xs = true := by
  unfold satisfiedE at h; rw [Bool.and_eq_true, Bool.and_eq_true] at h; exact ⟨h.1, h.2.1⟩
theorem membersE_valid (L : List UInt8) : valid (membersE L) = true := by
  unfold membersE; split
  · exact mem_valid (occE_lt L)
  · rfl
/-- '1(text)' -/
theorem wrap_ex {L : List UInt8} {t : Fo} (h : ex L = some t) (hl : L.length + 3 ≤ 40) : ex (49 :: 40 :: (L ++ [41])) = some (.gate 1 t .nil) := by
  obtain ⟨h1, h2, h3, h4, _⟩ := ex_some h
  have e : 49 :: 40 :: (L ++ [41]) = (Fo.gate 1 t .nil).str := by rw [str_gate, h1]; rfl
  rw [e]
  refine ex_str ?_ rfl ?_
  · simp [wf, h2, h3]
  · rw [← e]; simp; omega
theorem wrap_law {L : List UInt8} (h : okE L = true) (hl : L.length + 3 ≤ 40) (xs : List Int) : satisfiedE (49 :: 40 :: (L ++ [41])) xs = satisfiedE L xs := by
  obtain ⟨t, ht, h1, h2, h3, h4⟩ := okE_some h
  rw [satisfiedE_ok ht, satisfiedE_ok (wrap_ex ht hl), sat_gate]; rfl
/-- 'k(text,m)' -/
theorem pair_ex {L : List UInt8} {t : Fo} (h : ex L = some t) (k m : Nat) (hk : k = 1 ∨ k = 2) (h1 : 1 ≤ m) (h6 : m ≤ 6) (hl : L.length + 5 ≤ 40) :
    ex (dg k :: 40 :: (L ++ 44 :: dg m :: [41])) = some (.gate k (t.app (.leaf m .nil)) .nil) := by
  obtain ⟨e1, e2, e3, e4, _⟩ := ex_some h
  have hne : t ≠ .nil := ne_nil (by omega)
  have e : dg k :: 40 :: (L ++ 44 :: dg m :: [41]) = (Fo.gate k (t.app (.leaf m .nil)) .nil).str := by
    rw [str_gate, str_app hne (by simp), str_leaf, e1]; simp
  rw [e]
  refine ex_str ?_ rfl ?_
  · simp only [wf, app_wf, app_len, e2, e3, len, Bool.and_eq_true, decide_eq_true_eq]
    refine ⟨⟨⟨⟨by omega, by omega⟩, by omega⟩, ?_⟩, trivial⟩
    exact ⟨trivial, ⟨h1, h6⟩, trivial⟩
  · rw [← e]; simp; omega
theorem cnt_leaf (c m : Nat) : (Fo.leaf m .nil).cnt c = if has c m then 1 else 0 := by simp [cnt]
theorem or_law {L : List UInt8} (h : okE L = true) (hl : L.length + 5 ≤ 40) {xs : List Int} (hv : valid xs = true) {m : Nat} (h1 : 1 ≤ m) (h6 : m ≤ 6) :
    satisfiedE (dg 1 :: 40 :: (L ++ 44 :: dg m :: [41])) xs = (satisfiedE L xs || containsL xs m) ∧
    satisfiedE (dg 2 :: 40 :: (L ++ 44 :: dg m :: [41])) xs = (satisfiedE L xs && containsL xs m) := by
  obtain ⟨t, ht, _, h2, h3, _⟩ := okE_some h
  have hone := cnt_one (mask xs) t h3
  rw [satisfiedE_ok ht, satisfiedE_ok (pair_ex ht 1 m (.inl rfl) h1 h6 hl), satisfiedE_ok (pair_ex ht 2 m (.inr rfl) h1 h6 hl), sat_gate, sat_gate, app_cnt, cnt_leaf, hone]
  unfold containsL
  rw [hv]
  cases sat (mask xs) t <;> cases has (mask xs) m <;> simp
theorem parts_law {L : List UInt8} (h : okE L = true) (hl : L.length + 5 ≤ 40) {m : Nat} (h1 : 1 ≤ m) (h6 : m ≤ 6) :
    membersE (dg 1 :: 40 :: (L ++ 44 :: dg m :: [41])) = unionL (membersE L) [(m : Int)] := by
  obtain ⟨t, ht, _, h2, h3, _⟩ := okE_some h
  have hb : bit (m : Int) < 64 := by
    have hm : m = 1 ∨ m = 2 ∨ m = 3 ∨ m = 4 ∨ m = 5 ∨ m = 6 := by omega
    rcases hm with rfl | rfl | rfl | rfl | rfl | rfl <;> decide
  rw [membersE_ok ht, membersE_ok (pair_ex ht 1 m (.inl rfl) h1 h6 hl), occ_gate, app_occ, occ_leaf, ← mem_bit h1 h6, unionL_mem (occ_lt t h2) hb]
theorem cnt_zero (F : Fo) (h : F.wf = true) : F.cnt 0 = 0 := by
  induction F with
  | nil => rfl
  | leaf m r ih =>
    simp only [wf, Bool.and_eq_true] at h
    simp [cnt, ih h.2, has]
  | gate k ops r ih1 ih2 =>
    simp only [wf, Bool.and_eq_true, decide_eq_true_eq] at h
    simp only [cnt, ih1 h.1.2, ih2 h.2]
    rw [if_neg (by omega)]
theorem cnt_full (F : Fo) (c : Nat) (hw : F.wf = true) (h : ∀ m, has F.occ m = true → has c m = true) : F.cnt c = F.len := by
  induction F with
  | nil => rfl
  | leaf m r ih =>
    simp only [wf, Bool.and_eq_true, decide_eq_true_eq] at hw
    have h1 : has c m = true := h m (by
      rw [occ, has_or]
      have : has (bit (m : Int)) m = true := by
        have hm : m = 1 ∨ m = 2 ∨ m = 3 ∨ m = 4 ∨ m = 5 ∨ m = 6 := by omega
        rcases hm with rfl | rfl | rfl | rfl | rfl | rfl <;> decide
      rw [this]; rfl)
    have h2 := ih hw.2 (fun j hj => h j (by rw [occ, has_or, hj, Bool.or_true]))
    simp only [cnt, len, h1, h2, if_true]; omega
  | gate k ops r ih1 ih2 =>
    simp only [wf, Bool.and_eq_true, decide_eq_true_eq] at hw
    have h1 := ih1 hw.1.2 (fun j hj => h j (by rw [occ, has_or, hj, Bool.true_or]))
    have h2 := ih2 hw.2 (fun j hj => h j (by rw [occ, has_or, hj, Bool.or_true]))
    simp only [cnt, len, h1, h2]
    rw [if_pos hw.1.1.1.2]; omega
theorem occ_pos (F : Fo) (hw : F.wf = true) (h : F ≠ .nil) : F.occ ≠ 0 := by
  induction F with
  | nil => exact absurd rfl h
  | leaf m r ih =>
    intro e
    have := congrArg (fun c => has c (m : Int)) e
    simp only [wf, Bool.and_eq_true, decide_eq_true_eq] at hw
    rw [occ] at this
    simp only [has_or] at this
    have hb : has (bit (m : Int)) m = true := by
      have hm : m = 1 ∨ m = 2 ∨ m = 3 ∨ m = 4 ∨ m = 5 ∨ m = 6 := by omega
      rcases hm with rfl | rfl | rfl | rfl | rfl | rfl <;> decide
    rw [hb] at this
    simp [has] at this
  | gate k ops r ih1 ih2 =>
    intro e
    simp only [wf, Bool.and_eq_true, decide_eq_true_eq] at hw
    rw [occ, Nat.or_eq_zero_iff] at e
    exact ih1 hw.1.2 (ne_nil (by omega)) e.1
theorem empty_law {L : List UInt8} (h : okE L = true) : satisfiedE L [] = false ∧ satisfiedE L (membersE L) = true ∧ 0 < (membersE L).length := by
  obtain ⟨t, ht, _, h2, h3, _⟩ := okE_some h
  have hlt := occ_lt t h2
  refine ⟨?_, ?_, ?_⟩
  · rw [satisfiedE_ok ht]
    have : mask [] = 0 := rfl
    rw [this]; unfold sat; rw [cnt_zero t h2]; simp
  · rw [satisfiedE_ok ht, membersE_ok ht, mem_valid hlt, mask_mem hlt]
    unfold sat; rw [cnt_full t t.occ h2 (fun _ h => h), h3]; rfl
  · rw [membersE_ok ht]
    rcases Nat.eq_zero_or_pos (mem t.occ).length with h0 | h0
    · have := List.eq_nil_of_length_eq_zero h0
      have h1 := mask_mem hlt
      rw [this] at h1
      exact absurd h1.symm (occ_pos t h2 (ne_nil (by omega)))
    · exact h0
theorem cnt_local (F : Fo) (c d : Nat) (h : ∀ m, has F.occ m = true → has c m = has d m) (hw : F.wf = true) : F.cnt c = F.cnt d := by
  induction F with
  | nil => rfl
  | leaf m r ih =>
    simp only [wf, Bool.and_eq_true, decide_eq_true_eq] at hw
    have h1 : has c m = has d m := h m (by
      rw [occ, has_or]
      have : has (bit (m : Int)) m = true := by
        have hm : m = 1 ∨ m = 2 ∨ m = 3 ∨ m = 4 ∨ m = 5 ∨ m = 6 := by omega
        rcases hm with rfl | rfl | rfl | rfl | rfl | rfl <;> decide
      rw [this]; rfl)
    simp only [cnt, h1, ih (fun j hj => h j (by rw [occ, has_or, hj, Bool.or_true])) hw.2]
  | gate k ops r ih1 ih2 =>
    simp only [wf, Bool.and_eq_true, decide_eq_true_eq] at hw
    simp only [cnt, ih1 (fun j hj => h j (by rw [occ, has_or, hj, Bool.true_or])) hw.1.2, ih2 (fun j hj => h j (by rw [occ, has_or, hj, Bool.or_true])) hw.2]
theorem local_law {L : List UInt8} {xs : List Int} (hv : valid xs = true) : satisfiedE L (interL xs (membersE L)) = satisfiedE L xs := by
  cases hok : okE L with
  | false => unfold satisfiedE; rw [hok]; rfl
  | true =>
    obtain ⟨t, ht, _, h2, h3, _⟩ := okE_some hok
    obtain ⟨c, hc, rfl⟩ := valid_mem hv
    have hlt := occ_lt t h2
    rw [satisfiedE_ok ht, satisfiedE_ok ht, membersE_ok ht, interL_mem hc hlt, mem_valid (and_lt hc), mem_valid hc, mask_mem (and_lt hc), mask_mem hc]
    unfold sat
    rw [cnt_local t (c &&& t.occ) c (fun m hm => by rw [has_and, hm, Bool.and_true]) h2]
theorem cnt_mono (F : Fo) (c d : Nat) (h : ∀ m, has c m = true → has d m = true) : F.cnt c ≤ F.cnt d := by
  induction F with
  | nil => exact Nat.le_refl _
  | leaf m r ih =>
    simp only [cnt]
    cases hc : has c m
    · simp; omega
    · rw [h m hc]; simp; omega
  | gate k ops r ih1 ih2 =>
    simp only [cnt]
    by_cases hk : k ≤ ops.cnt c
    · rw [if_pos hk, if_pos (by omega)]; omega
    · rw [if_neg hk]; omega
theorem sat_mono (t : Fo) (c d : Nat) (h : ∀ m, has c m = true → has d m = true) (hs : sat c t = true) : sat d t = true := by
  unfold sat at hs ⊢
  rw [decide_eq_true_eq] at hs ⊢
  have := cnt_mono t c d h; omega
theorem mono_law {L : List UInt8} {xs : List Int} (h : satisfiedE L xs = true) (z : Nat) (hz : z < 64) : satisfiedE L (unionL xs (mem z)) = true ∧ satisfiedE L (mem 63) = true := by
  obtain ⟨hok, hv⟩ := satisfiedE_yes h
  obtain ⟨t, ht, _, h2, h3, _⟩ := okE_some hok
  obtain ⟨c, hc, rfl⟩ := valid_mem hv
  rw [satisfiedE_ok ht, mem_valid hc, mask_mem hc, Bool.true_and] at h
  rw [satisfiedE_ok ht, satisfiedE_ok ht, unionL_mem hc hz, mem_valid (or_lt hc hz), mem_valid (by decide : 63 < 64), mask_mem (or_lt hc hz), mask_mem (by decide : 63 < 64)]
  exact ⟨sat_mono t c _ (fun m hm => by rw [has_or, hm, Bool.true_or]) h, sat_mono t c _ (fun m hm => by rw [has_full]; exact by have := has_lt hm; simp [isM, this]) h⟩
end Go.Proofs.Ytaphbgagpdodkaa
