/- The helpers of the exact laws, on families: szIntSS, toIntSS, markIntSS, heldIntSS. Conditions: each lemma's own. -/
import Derived.Test.YtnifgfnhcjhodaaX2
namespace Go.Proofs.Ytnifgfnhcjhodaa
open Go.RowKit
set_option linter.unusedVariables false

/-- how many numbers lie in a family -/
def sumLen (f : List (List Int)) : Nat := (f.map List.length).sum
def tot (f : List (List Int)) : Nat := f.length + sumLen f
theorem sumLen_snoc (f : List (List Int)) (s : List Int) : sumLen (f ++ [s]) = sumLen f + s.length := by simp [sumLen]
theorem sumLen_step (f : List (List Int)) (k : Nat) (h : k < f.length) : sumLen (f.take (k + 1)) = sumLen (f.take k) + (f.getD k []).length := by rw [snoc_take f [] k h, sumLen_snoc]
theorem sumLen_take (f : List (List Int)) (k : Nat) : sumLen (f.take k) ≤ sumLen f := by
  conv => rhs; rw [← List.take_append_drop k f]
  unfold sumLen; rw [List.map_append, List.sum_append]; omega
theorem sumLen_at (f : List (List Int)) (k : Nat) (h : k < f.length) : (f.getD k []).length ≤ sumLen f := by
  have := sumLen_take f (k + 1)
  rw [sumLen_step f k h] at this; omega

set_option maxHeartbeats 1000000 in
theorem szIntS_any {a : Option Addr} {n c : Nat} {xs : List Int} {left : Nat} {w : World} (h : Ints w a n xs) (hl : left ≤ 1048576) :
    Calls Try.prog 46 #[.slice a n c, .int .i64 (left : Nat)] w fun e w' => e = .returned (.int .i64 (if n ≤ left then ((left - n : Nat) : Int) else -1)) ∧ w = w' := by
  have hm := h.max
  by_cases hn : n ≤ left
  · have hI : ¬ ((left : Int) - (n : Int) < 0) := by omega
    have hE := Lib.hid (show (left : Int) - (n : Int) = ((left - n : Nat) : Int) from by omega)
    have h0 : (0 : Int) ≤ (left : Int) - (n : Int) := by omega
    go_enter Try.func46, Try.ntmps46
    go_wp2_with fail
    go_ret
    exact ⟨by rw [← hE.out]; rfl, rfl⟩
  · have hI : (left : Int) - (n : Int) < 0 := by omega
    go_enter Try.func46, Try.ntmps46
    go_wp2_with fail
    go_ret
    exact ⟨rfl, rfl⟩
theorem szIntS_yes {a : Option Addr} {n c : Nat} {xs : List Int} {left : Nat} {w : World} (h : Ints w a n xs) (hl : left ≤ 1048576) (hn : n ≤ left) :
    Calls Try.prog 46 #[.slice a n c, .int .i64 (left : Nat)] w fun e w' => e = .returned (.int .i64 ((left - n : Nat) : Int)) ∧ w = w' := by
  have := szIntS_any (c := c) h hl; rwa [if_pos hn] at this
theorem szIntS_no {a : Option Addr} {n c : Nat} {xs : List Int} {left : Nat} {w : World} (h : Ints w a n xs) (hl : left ≤ 1048576) (hn : ¬ n ≤ left) :
    Calls Try.prog 46 #[.slice a n c, .int .i64 (left : Nat)] w fun e w' => e = .returned (.int .i64 (-1)) ∧ w = w' := by
  have := szIntS_any (c := c) h hl; rwa [if_neg hn] at this

set_option maxHeartbeats 2000000 in
theorem szIntSS_any {a : Option Addr} {n c : Nat} {f : List (List Int)} {left : Nat} {w : World} (h : Fam w a n f) (hl : left ≤ 1048576) :
    Calls Try.prog 18 #[.slice a n c, .int .i64 (left : Nat)] w fun e w' => (tot f ≤ left ∧ e = .returned (.int .i64 ((left - tot f : Nat) : Int)) ∨ left < tot f ∧ e = .returned (.int .i64 (-1))) ∧ w = w' := by
  have hm := h.max
  have hlen := Lib.hid h.len
  by_cases hn : n ≤ left
  · have hI : ¬ ((left : Int) - (n : Int) < 0) := by omega
    have h0 : (0 : Int) ≤ (left : Int) - (n : Int) := by omega
    go_enter Try.func18, Try.ntmps18
    go_wp2_with fail
    go_loop [1, 5] (fun q i => ∃ k : Nat, k ≤ n ∧ i = .int .i64 (k : Nat) ∧ n + sumLen (f.take k) ≤ left ∧ q = .int .i64 ((left - (n + sumLen (f.take k)) : Nat) : Int))
      (fun _ i => n - (intOf i).toNat)
    case atStart => exact ⟨0, by omega, rfl, by simp [sumLen]; omega, by simp [sumLen]; omega⟩
    case round =>
      obtain ⟨k, hk, rfl, hle, rfl⟩ := hrel
      by_cases hlt : k < n
      · obtain ⟨b, off, a2, n2, c2, rfl, hc, hi⟩ := h.cell hlt
        have hkl : k < f.length := by rw [hlen.out]; exact hlt
        have hst := Lib.hid (show sumLen (f.take (k + 1)) = sumLen (f.take k) + n2 from by rw [sumLen_step f k hkl, hi.len])
        have hge := Lib.hid (sumLen_take f (k + 1))
        obtain ⟨r, hr⟩ : ∃ r, r = left - (n + sumLen (f.take k)) := ⟨_, rfl⟩
        rw [← hr]
        have HR := Lib.hid hr
        have HLE := Lib.hid hle
        have hr2 : r ≤ 1048576 := by omega
        clear hr hle
        by_cases hn2 : n2 ≤ r
        · have hnx := Lib.hid (show n + sumLen (f.take (k + 1)) ≤ left ∧ left - (n + sumLen (f.take (k + 1))) = r - n2 from by have := hst.out; have := HR.out; have := HLE.out; omega)
          have hI2 : ¬ (((r - n2 : Nat) : Int) < 0) := by omega
          go_wp2_with fail
          refine (szIntS_yes hi hr2 hn2).mono ?_; rintro e w_ ⟨rfl, rfl⟩
          obtain ⟨z, hz⟩ : ∃ z, z = r - n2 := ⟨_, rfl⟩
          rw [← hz]
          have HZ := Lib.hid hz
          clear hz hI2
          go_wp2_with fail
          go_round
          case rel => exact ⟨k + 1, by omega, by go_num, hnx.out.1, by rw [hnx.out.2, ← HZ.out]⟩
          case measure => simp [intOf]; omega
        · have hno := Lib.hid (show left < tot f from by unfold tot; rw [hlen.out]; have := hst.out; have := HR.out; have := HLE.out; have := hge.out; omega)
          go_wp2_with fail
          refine (szIntS_no hi hr2 hn2).mono ?_; rintro e w_ ⟨rfl, rfl⟩
          go_wp2_with fail
          go_ret
          exact ⟨.inr ⟨hno.out, rfl⟩, rfl⟩
      · obtain rfl : k = n := by omega
        have hfin := Lib.hid (show k + sumLen (f.take k) = tot f from by unfold tot; rw [List.take_of_length_le (by rw [hlen.out]; exact Nat.le_refl _), hlen.out])
        rw [hfin.out] at hle ⊢
        have HLE := Lib.hid hle
        clear hle
        go_wp2_with fail
        go_ret
        exact ⟨.inl ⟨HLE.out, rfl⟩, rfl⟩
  · have hI : (left : Int) - (n : Int) < 0 := by omega
    have hno := Lib.hid (show left < tot f from by unfold tot; rw [hlen.out]; omega)
    go_enter Try.func18, Try.ntmps18
    go_wp2_with fail
    go_ret
    exact ⟨.inr ⟨hno.out, rfl⟩, rfl⟩

/-- each row written over with k, k+1, .. -/
def markF : Int → List (List Int) → List (List Int)
  | _, [] => []
  | k, x :: r => seqI k x.length :: markF (k + (x.length : Int)) r
theorem markF_len (k : Int) (f : List (List Int)) : (markF k f).length = f.length := by
  induction f generalizing k with
  | nil => rfl
  | cons x r ih => simp [markF, ih]
theorem markF_snoc (k : Int) (f : List (List Int)) (x : List Int) : markF k (f ++ [x]) = markF k f ++ [seqI (k + (sumLen f : Int)) x.length] := by
  induction f generalizing k with
  | nil => simp [markF, sumLen]
  | cons y r ih =>
    have e : k + (y.length : Int) + (sumLen r : Int) = k + (sumLen (y :: r) : Int) := by simp [sumLen]; omega
    simp only [List.cons_append, markF, ih, e]
theorem markF_at (k : Int) (f : List (List Int)) (j : Nat) (hj : j < f.length) : (markF k f).getD j [] = seqI (k + (sumLen (f.take j) : Int)) (f.getD j []).length := by
  have h1 : (markF k f).take (j + 1) = markF k (f.take (j + 1)) := by
    have key : ∀ (f : List (List Int)) (k : Int) (j : Nat), (markF k f).take j = markF k (f.take j) := by
      intro f
      induction f with
      | nil => intro k j; simp [markF]
      | cons x r ih => intro k j; cases j with | zero => simp [markF] | succ j => simp [markF, ih]
    exact key f k (j + 1)
  rw [snoc_take f [] j hj, markF_snoc] at h1
  have h2 : (markF k f).getD j [] = ((markF k f).take (j + 1)).getD j [] := by rw [getD_take _ _ _ _ (by omega)]
  rw [h2, h1]
  have hl : (markF k (f.take j)).length = j := by rw [markF_len, List.length_take]; omega
  simp only [List.getD, List.getElem?_append_right (show (markF k (f.take j)).length ≤ j by omega), hl, Nat.sub_self, List.getElem?_cons_zero, Option.getD_some]
def markTo (k : Int) (f : List (List Int)) (j : Nat) : List (List Int) := markF k (f.take j) ++ f.drop j
theorem markTo_at (k : Int) (f : List (List Int)) (j : Nat) (hj : j < f.length) : (markTo k f j).getD j [] = f.getD j [] := by
  unfold markTo
  have hl : (markF k (f.take j)).length = j := by rw [markF_len, List.length_take]; omega
  simp only [List.getD, List.getElem?_append_right (show (markF k (f.take j)).length ≤ j by omega), hl, Nat.sub_self, List.getElem?_drop, Nat.add_zero]
theorem markTo_step (k : Int) (f : List (List Int)) (j : Nat) (hj : j < f.length) : (markTo k f j).set j (seqI (k + (sumLen (f.take j) : Int)) (f.getD j []).length) = markTo k f (j + 1) := by
  unfold markTo
  have hl : (markF k (f.take j)).length = j := by rw [markF_len, List.length_take]; omega
  rw [List.set_append_right _ _ (by omega), hl, Nat.sub_self, List.drop_eq_getElem_cons hj, snoc_take f [] j hj, markF_snoc, List.append_assoc]
  rfl
theorem markTo_all (k : Int) (f : List (List Int)) : markTo k f f.length = markF k f := by unfold markTo; simp

set_option maxHeartbeats 2000000 in
theorem markIntSS_any {lo hi : Nat} {a : Option Addr} {n c : Nat} {f : List (List Int)} {k : Int} {w : World} (h : OwnG w lo hi a n c f) (hk0 : 0 ≤ k) (hk : k ≤ 100000000) (ht : sumLen f ≤ 1048576) (hn : n ≤ 1048576) :
    Calls Try.prog 23 #[.slice a n c, .int .i64 k] w fun e w' => e = .returned (.int .i64 (k + (sumLen f : Int))) ∧ OwnG w' lo hi a n c (markF k f) ∧ Chg lo hi w w' := by
  have hlen := Lib.hid h.len
  have H := Lib.hid h
  have HT := Lib.hid ht
  clear h
  go_enter Try.func23, Try.ntmps23
  go_wp2_with fail
  go_loopw [1, 5] (fun q i wr => ∃ j : Nat, j ≤ n ∧ i = .int .i64 (j : Nat) ∧ q = .int .i64 (k + (sumLen (f.take j) : Int)) ∧ OwnG wr lo hi a n c (markTo k f j) ∧ Chg lo hi w wr)
    (fun _ i _ => n - (intOf i).toNat)
  case atStart => exact ⟨0, by omega, rfl, by simp [sumLen], by unfold markTo; simpa [markF] using H.out, Chg.refl _ _ _⟩
  case round =>
    obtain ⟨j, hj, rfl, rfl, ho, hC⟩ := hrel
    have hle := sumLen_take f j
    have HO := Lib.hid ho
    have HC := Lib.hid hC
    clear ho hC
    obtain ⟨s, hs⟩ : ∃ s, s = sumLen (f.take j) := ⟨_, rfl⟩
    rw [← hs] at hle ⊢
    have HS := Lib.hid hs
    clear hs
    by_cases hlt : j < n
    · have hltI : (j : Int) < (n : Int) := by omega
      have hjl : j < f.length := by rw [hlen.out]; exact hlt
      obtain ⟨g, a2, n2, c2, rfl, hc, oi⟩ := HO.out.cell hlt
      rw [markTo_at k f j hjl] at oi
      have hl2 := Lib.hid oi.len
      have hn2 : n2 ≤ 1048576 := by have := sumLen_at f j hjl; rw [oi.len] at this; omega
      have HOI := Lib.hid oi
      have hst := Lib.hid (markTo_step k f j hjl)
      have hss := Lib.hid (show sumLen (f.take (j + 1)) = s + n2 from by rw [sumLen_step f j hjl, hl2.out, HS.out])
      have HCELL := Lib.hid hc
      clear oi
      go_wp2_with fail
      refine (markIntS_any HOI.out (by omega) (by omega) (by omega)).mono ?_; rintro e w2 ⟨rfl, o2, g2⟩
      have hm := Lib.hid (HO.out.mark hlt rfl HCELL.out o2 g2)
      clear o2 g2 hc
      go_wp2_with fail
      go_roundw
      case rel => exact ⟨j + 1, by omega, by go_num, by rw [hss.out]; go_num, by rw [← hst.out, hl2.out, ← HS.out]; exact hm.out.1, HC.out.trans hm.out.2⟩
      case measure => simp [intOf]; omega
    · obtain rfl : j = n := by omega
      have hfin := Lib.hid (show s = sumLen f from by rw [HS.out, List.take_of_length_le (by rw [hlen.out]; exact Nat.le_refl _)])
      have hfin2 := Lib.hid (show markTo k f j = markF k f from by rw [← hlen.out]; exact markTo_all k f)
      go_wp2_with fail
      go_ret
      exact ⟨by rw [← hfin.out]; rfl, by rw [← hfin2.out]; exact HO.out, HC.out⟩

theorem wpl_make_rows (w : World) {ops : Array Oper} {rest : List Oper} {o : Oper} {a : Act} {Q : Exit → Act → World → Prop}
    (hg : o.guard = none) (l c : Operand) (hop : o.op = Op.makeSlice 23 l c) (n : Nat) (hl : a.eval l = .int .i64 (n : Int)) (hc : a.eval c = .int .i64 (n : Int)) (hn : n ≤ 10000000)
    (hK : ∀ w', OwnG w' w.heap.size w'.heap.size (some ⟨w.heap.size, 0, none⟩) n n (List.replicate n []) → (∀ j, j < n → w'.cell? ⟨w.heap.size, j, none⟩ = some (.slice none 0 0)) → Ext none w w' → wpList Try.prog ops Q rest (a.put o.dst (.slice (some ⟨w.heap.size, 0, none⟩) n n)) w') :
    wpList Try.prog ops Q (o :: rest) a w := by
  obtain ⟨i0, hi, hz0, hz1, hz2⟩ := info_parts rowInfo
  refine wpList_make_full w hg l c 23 hop w.heap.size 26 i0 (.slice none 0 0) 1 Try.underlying23 hi hz0 hz1 .i64 .i64 _ _ n hl hc rfl rfl (by rw [hz2]; omega) (by simp only [maxLen]; omega) (Nat.le_refl _) ?_
  intro w' h1 h2
  have e : (madeCells (Value.slice none 0 0).cells (n * 1)).toList = List.replicate n (Value.slice none 0 0) := by
    rw [Nat.mul_one]; exact toList_madeCells_one _ _
  rw [e] at h1
  have hsz := (World.ownsRow.lt h1 w.heap.size rfl).2
  refine hK w' ⟨_, h1, by simp, fun k v xs hv hx => ?_, fun j k u v g g' _ hu _ hg' => ?_, fun g hg' => ?_⟩ (fun j hj => ?_) h2
  · have hv' := List.eq_of_mem_replicate (List.mem_of_getElem? hv)
    have hx' := List.eq_of_mem_replicate (List.mem_of_getElem? hx)
    subst hv' hx'
    exact ⟨none, 0, 0, rfl, OwnI.nil _ _, fun g hg' => by simp [Value.ownBlock] at hg'⟩
  · have hu' := List.eq_of_mem_replicate (List.mem_of_getElem? hu)
    subst hu'
    simp [Value.ownBlock] at hg'
  · have : w.heap.size = g := by simpa [Value.ownBlock] using hg'
    omega
  · have := World.ownsRow.cellAt h1 j (by omega)
    rw [this, List.getElem?_replicate, if_pos hj]
theorem OwnG.frozenAt {w : World} {lo hi g n c : Nat} {f : List (List Int)} (h : OwnG w lo hi (some ⟨g, 0, none⟩) n c f) (j : Nat) : w.frozen? ⟨g, j, none⟩ = false := by
  obtain ⟨vs, h1, _⟩ := h
  exact World.ownsRow.frozenAt (show w.ownsRow lo 26 1 (.slice (some ⟨g, 0, none⟩) n c) n vs from h1) j
theorem fill_step (f : List (List Int)) (n j : Nat) (hn : f.length = n) (hj : j < n) : (f.take j ++ List.replicate (n - j) []).set j (f.getD j []) = f.take (j + 1) ++ List.replicate (n - (j + 1)) [] := by
  have hl : (f.take j).length = j := by rw [List.length_take]; omega
  rw [List.set_append_right _ _ (by omega), hl, Nat.sub_self, snoc_take f [] j (by omega), List.append_assoc]
  congr 1
  obtain ⟨m, hm⟩ : ∃ m, n - j = m + 1 := ⟨n - j - 1, by omega⟩
  rw [hm, show n - (j + 1) = m from by omega, List.replicate_succ]; rfl

theorem hput_cell {w : World} {g j k : Nat} {u v : Value} (h : w.cell? ⟨g, k, none⟩ = some v) (hne : k ≠ j) : (w.setCell ⟨g, j, none⟩ u).cell? ⟨g, k, none⟩ = some v := by
  rw [← h]
  exact World.cell?_setCell_other (h := fun e => hne (by injection e with _ e2 _; omega)) ..
set_option maxHeartbeats 2000000 in
theorem toIntSS_any {a : Option Addr} {n c : Nat} {f : List (List Int)} {w : World} (h : Fam w a n f) (ht : tot f ≤ 1048576) :
    Calls Try.prog 19 #[.slice a n c] w (RG w f) := by
  have hlen := Lib.hid h.len
  have H := Lib.hid h
  have hn : n ≤ 1048576 := by rw [← h.len]; unfold tot at ht; omega
  have hrow := Lib.hid (show ∀ k, k < n → (f.getD k []).length ≤ 1048576 from fun k hk => by have := sumLen_at f k (by rw [hlen.out]; exact hk); unfold tot at ht; omega)
  clear h ht
  go_enter Try.func19, Try.ntmps19
  go_wp2_with (at_make; refine wpl_make_rows _ rfl _ _ rfl n rfl rfl (by omega) ?_; intro w1 hG1 hc1 hx1)
  go_loopw [4] (fun i wr => ∃ j : Nat, j ≤ n ∧ i = .int .i64 (j : Nat) ∧ OwnG wr w.heap.size wr.heap.size (some ⟨w.heap.size, 0, none⟩) n n (f.take j ++ List.replicate (n - j) []) ∧ (∀ k, j ≤ k → k < n → wr.cell? ⟨w.heap.size, k, none⟩ = some (.slice none 0 0)) ∧ Ext none w wr)
    (fun i _ => n - (intOf i).toNat)
  case atStart => exact ⟨0, by omega, rfl, by simpa using hG1, fun k _ hk => hc1 k hk, hx1⟩
  case round =>
    obtain ⟨j, hj, rfl, hG, hlate, hE⟩ := hrel
    have HG := Lib.hid hG
    have HLT := Lib.hid hlate
    have HC1 := Lib.hid hc1
    clear hG hlate hc1 hG1
    by_cases hlt : j < n
    · have hltI : (j : Int) < (n : Int) := by omega
      obtain ⟨b, off, a2, n2, c2, rfl, hc, hi⟩ := (H.out.ext hE).cell hlt
      have hn2 : n2 ≤ 1048576 := by rw [← hi.len]; exact hrow.out j hlt
      have hst := Lib.hid (fill_step f n j hlen.out hlt)
      have HI := Lib.hid hi
      clear hi
      go_wp2_with (go_at_call 20; refine (toIntS_any HI.out hn2).mono ?_; rintro e w2 ⟨a3, n3, c3, rfl, o3, e3⟩; have hcj := e3.cell (HLT.out j (Nat.le_refl _) hlt); have hfj := (HG.out.ext0 e3).frozenAt j; have hput := Lib.hid ((HG.out.ext0 e3).put hlt o3 hE.size e3.size (Nat.le_refl _) (fun k hk hkn => e3.cell (HLT.out k (Nat.le_of_lt hk) hkn))); have hE2 := Lib.hid (hE.trans e3); have hl2 := Lib.hid (show ∀ k, j + 1 ≤ k → k < n → w2.cell? ⟨w.heap.size, k, none⟩ = some (.slice none 0 0) from fun k hk hkn => e3.cell (HLT.out k (by omega) hkn)); clear o3 e3)
      go_roundw
      case rel => exact ⟨j + 1, by omega, by go_num, by rw [← hst.out]; simpa using hput.out.1, fun k hk hkn => hput_cell (hl2.out k hk hkn) (by omega), hE2.out.grown hput.out.2 (fun q hq => .inl (by cases hq; exact Nat.le_refl _))⟩
      case measure => simp [intOf]; omega
    · obtain rfl : j = n := by omega
      have hfin := Lib.hid (show f.take j ++ List.replicate (j - j) [] = f from by rw [Nat.sub_self, List.take_of_length_le (by rw [hlen.out]; exact Nat.le_refl _)]; simp)
      go_wp2_with fail
      go_ret
      exact ⟨_, _, _, rfl, by rw [← hfin.out]; exact HG.out, hE⟩
end Go.Proofs.Ytnifgfnhcjhodaa
