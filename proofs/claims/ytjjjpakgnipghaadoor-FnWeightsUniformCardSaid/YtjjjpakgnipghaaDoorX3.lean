/- The helpers of the exact laws, on families: szIntSS, toIntSS, markIntSS, heldIntSS. Conditions: each lemma's own. -/
import Derived.Test.YtjjjpakgnipghaaDoorX2
namespace Go.Proofs.YtjjjpakgnipghaaDoor
open Go.RowKit
set_option linter.unusedVariables false

/-- how many numbers lie in a family -/
def sumLen (f : List (List Int)) : Nat := (f.map List.length).sum
def tot (f : List (List Int)) : Nat := f.length + sumLen f
theorem sumLen_snoc (f : List (List Int)) (s : List Int) : sumLen (f ++ [s]) = sumLen f + s.length := by simp [sumLen]
theorem sumLen_step (f : List (List Int)) (k : Nat) (h : k < f.length) : sumLen (f.take (k + 1)) = sumLen (f.take k) + (f.getD k []).length := by rw [snoc_take f [] k h, sumLen_snoc]
theorem sumLen_take (f : List (List Int)) (k : Nat) : sumLen (f.take k) ≤ sumLen f := by
  conv => rhs; rw [← List.take_append_drop k f]
  unfold sumLen; rw [List.map_append, List.sum_append]; omega
theorem sumLen_at (f : List (List Int)) (k : Nat) (h : k < f.length) : (f.getD k []).length ≤ sumLen f := by
  have := sumLen_take f (k + 1)
  rw [sumLen_step f k h] at this; omega

/-- each row written over with k, k+1, .. -/
def markF : Int → List (List Int) → List (List Int)
  | _, [] => []
  | k, x :: r => seqI k x.length :: markF (k + (x.length : Int)) r
theorem markF_len (k : Int) (f : List (List Int)) : (markF k f).length = f.length := by
  induction f generalizing k with
  | nil => rfl
  | cons x r ih => simp [markF, ih]
theorem markF_snoc (k : Int) (f : List (List Int)) (x : List Int) : markF k (f ++ [x]) = markF k f ++ [seqI (k + (sumLen f : Int)) x.length] := by
  induction f generalizing k with
  | nil => simp [markF, sumLen]
  | cons y r ih =>
    have e : k + (y.length : Int) + (sumLen r : Int) = k + (sumLen (y :: r) : Int) := by simp [sumLen]; omega
    simp only [List.cons_append, markF, ih, e]
theorem markF_at (k : Int) (f : List (List Int)) (j : Nat) (hj : j < f.length) : (markF k f).getD j [] = seqI (k + (sumLen (f.take j) : Int)) (f.getD j []).length := by
  have h1 : (markF k f).take (j + 1) = markF k (f.take (j + 1)) := by
    have key : ∀ (f : List (List Int)) (k : Int) (j : Nat), (markF k f).take j = markF k (f.take j) := by
      intro f
      induction f with
      | nil => intro k j; simp [markF]
      | cons x r ih => intro k j; cases j with | zero => simp [markF] | succ j => simp [markF, ih]
    exact key f k (j + 1)
  rw [snoc_take f [] j hj, markF_snoc] at h1
  have h2 : (markF k f).getD j [] = ((markF k f).take (j + 1)).getD j [] := by rw [getD_take _ _ _ _ (by omega)]
  rw [h2, h1]
  have hl : (markF k (f.take j)).length = j := by rw [markF_len, List.length_take]; omega
  simp only [List.getD, List.getElem?_append_right (show (markF k (f.take j)).length ≤ j by omega), hl, Nat.sub_self, List.getElem?_cons_zero, Option.getD_some]
def markTo (k : Int) (f : List (List Int)) (j : Nat) : List (List Int) := markF k (f.take j) ++ f.drop j
theorem markTo_at (k : Int) (f : List (List Int)) (j : Nat) (hj : j < f.length) : (markTo k f j).getD j [] = f.getD j [] := by
  unfold markTo
  have hl : (markF k (f.take j)).length = j := by rw [markF_len, List.length_take]; omega
  simp only [List.getD, List.getElem?_append_right (show (markF k (f.take j)).length ≤ j by omega), hl, Nat.sub_self, List.getElem?_drop, Nat.add_zero]
theorem markTo_step (k : Int) (f : List (List Int)) (j : Nat) (hj : j < f.length) : (markTo k f j).set j (seqI (k + (sumLen (f.take j) : Int)) (f.getD j []).length) = markTo k f (j + 1) := by
  unfold markTo
  have hl : (markF k (f.take j)).length = j := by rw [markF_len, List.length_take]; omega
  rw [List.set_append_right _ _ (by omega), hl, Nat.sub_self, List.drop_eq_getElem_cons hj, snoc_take f [] j hj, markF_snoc, List.append_assoc]
  rfl
theorem markTo_all (k : Int) (f : List (List Int)) : markTo k f f.length = markF k f := by unfold markTo; simp

theorem wpl_make_rows (w : World) {ops : Array Oper} {rest : List Oper} {o : Oper} {a : Act} {Q : Exit → Act → World → Prop}
    (hg : o.guard = none) (l c : Operand) (hop : o.op = Op.makeSlice 38 l c) (n : Nat) (hl : a.eval l = .int .i64 (n : Int)) (hc : a.eval c = .int .i64 (n : Int)) (hn : n ≤ 10000000)
    (hK : ∀ w', OwnG w' w.heap.size w'.heap.size (some ⟨w.heap.size, 0, none⟩) n n (List.replicate n []) → (∀ j, j < n → w'.cell? ⟨w.heap.size, j, none⟩ = some (.slice none 0 0)) → Ext none w w' → wpList Tryd.prog ops Q rest (a.put o.dst (.slice (some ⟨w.heap.size, 0, none⟩) n n)) w') :
    wpList Tryd.prog ops Q (o :: rest) a w := by
  obtain ⟨i0, hi, hz0, hz1, hz2⟩ := info_parts rowInfo
  refine wpList_make_full w hg l c 38 hop w.heap.size 23 i0 (.slice none 0 0) 1 Tryd.underlying38 hi hz0 hz1 .i64 .i64 _ _ n hl hc rfl rfl (by rw [hz2]; omega) (by simp only [maxLen]; omega) (Nat.le_refl _) ?_
  intro w' h1 h2
  have e : (madeCells (Value.slice none 0 0).cells (n * 1)).toList = List.replicate n (Value.slice none 0 0) := by
    rw [Nat.mul_one]; exact toList_madeCells_one _ _
  rw [e] at h1
  have hsz := (World.ownsRow.lt h1 w.heap.size rfl).2
  refine hK w' ⟨_, h1, by simp, fun k v xs hv hx => ?_, fun j k u v g g' _ hu _ hg' => ?_, fun g hg' => ?_⟩ (fun j hj => ?_) h2
  · have hv' := List.eq_of_mem_replicate (List.mem_of_getElem? hv)
    have hx' := List.eq_of_mem_replicate (List.mem_of_getElem? hx)
    subst hv' hx'
    exact ⟨none, 0, 0, rfl, OwnI.nil _ _, fun g hg' => by simp [Value.ownBlock] at hg'⟩
  · have hu' := List.eq_of_mem_replicate (List.mem_of_getElem? hu)
    subst hu'
    simp [Value.ownBlock] at hg'
  · have : w.heap.size = g := by simpa [Value.ownBlock] using hg'
    omega
  · have := World.ownsRow.cellAt h1 j (by omega)
    rw [this, List.getElem?_replicate, if_pos hj]
theorem OwnG.frozenAt {w : World} {lo hi g n c : Nat} {f : List (List Int)} (h : OwnG w lo hi (some ⟨g, 0, none⟩) n c f) (j : Nat) : w.frozen? ⟨g, j, none⟩ = false := by
  obtain ⟨vs, h1, _⟩ := h
  exact World.ownsRow.frozenAt (show w.ownsRow lo 23 1 (.slice (some ⟨g, 0, none⟩) n c) n vs from h1) j
theorem fill_step (f : List (List Int)) (n j : Nat) (hn : f.length = n) (hj : j < n) : (f.take j ++ List.replicate (n - j) []).set j (f.getD j []) = f.take (j + 1) ++ List.replicate (n - (j + 1)) [] := by
  have hl : (f.take j).length = j := by rw [List.length_take]; omega
  rw [List.set_append_right _ _ (by omega), hl, Nat.sub_self, snoc_take f [] j (by omega), List.append_assoc]
  congr 1
  obtain ⟨m, hm⟩ : ∃ m, n - j = m + 1 := ⟨n - j - 1, by omega⟩
  rw [hm, show n - (j + 1) = m from by omega, List.replicate_succ]; rfl

theorem hput_cell {w : World} {g j k : Nat} {u v : Value} (h : w.cell? ⟨g, k, none⟩ = some v) (hne : k ≠ j) : (w.setCell ⟨g, j, none⟩ u).cell? ⟨g, k, none⟩ = some v := by
  rw [← h]
  exact World.cell?_setCell_other (h := fun e => hne (by injection e with _ e2 _; omega)) ..
end Go.Proofs.YtjjjpakgnipghaaDoor
