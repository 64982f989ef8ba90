/- The quorum systems of package impl that a test gives: minimalWhere. Conditions: each lemma's own. -/
import Derived.Test.YtnifgfnhcjhodaaRA
import Derived.Test.YtnifgfnhcjhodaaPH
import Derived.Test.YtnifgfnhcjhodaaPQ
namespace Go.Proofs.Ytnifgfnhcjhodaa
open Go.RowKit Go.Shelf
set_option linter.unusedVariables false
attribute [local go_sem] Oper.semAt_some

def flt (U : Nat → Bool) (pre : List (Fin 64)) : List Nat := (pre.map (·.1)).filter U
theorem flt_snoc (U : Nat → Bool) (pre : List (Fin 64)) (x : Fin 64) : flt U (pre ++ [x]) = if U x.1 then flt U pre ++ [x.1] else flt U pre := by
  unfold flt; rw [List.map_append, List.filter_append]
  cases h : U x.1 <;> simp [h]
theorem flt_len (U : Nat → Bool) (pre : List (Fin 64)) : (flt U pre).length ≤ pre.length := by
  unfold flt; exact Nat.le_trans (List.length_filter_le _ _) (by simp)
theorem flt_all (U : Nat → Bool) : flt U (subs 63 (63 + 1)) = fltrTo U 64 := by
  unfold flt
  rw [subs_full 63 (by decide)]
  unfold fltrTo
  rw [List.filter_filter]
  refine List.filter_congr fun x hx => ?_
  rw [sub_full x (List.mem_range.1 hx), Bool.and_true]
theorem ext_of_below {w W : World} (h : Below w.heap.size w W) : Ext none w W := ⟨h.os, h.tape, h.output, h.size, fun k hk _ => h.block k hk⟩
theorem row_slice {W : World} {base e size k : Nat} {v : Value} {xs : List Value} (h : W.ownsRow base e size v k xs) : ∃ a c, v = .slice a k c := by
  rcases h.2 with ⟨rfl, rfl⟩ | ⟨g, cap, _, rfl, _⟩
  · exact ⟨_, _, rfl⟩
  · exact ⟨_, _, rfl⟩
/-- a box keeps a slice whose row lies above it; one value is appended -/
theorem boxApp {W w1 : World} {n₀ B : Nat} {t e : TypeId} {size : Nat} {v v' : Value} {k m : Nat} {xs ys : List Value} {tmp : Obj}
    (hv : Boxed W B t v) (hrow : W.ownsRow n₀ e size v k xs) (hBn : B < n₀) (hn₀ : n₀ ≤ W.heap.size)
    (hown' : w1.ownsRow n₀ e size v' m ys) (hgrow : (W.alloc tmp).grownBy w1 v.ownBlock) :
    Boxed w1 B t v ∧ Boxed (w1.setCell ⟨B, 0, none⟩ v') B t v' ∧ (w1.setCell ⟨B, 0, none⟩ v').ownsRow n₀ e size v' m ys ∧ KeepsOthers W (w1.setCell ⟨B, 0, none⟩ v') ∧ Below B W (w1.setCell ⟨B, 0, none⟩ v') ∧
      ∀ j, j < n₀ → j ≠ B → (w1.setCell ⟨B, 0, none⟩ v').heap[j]? = W.heap[j]? := by
  have hne : some B ≠ v.ownBlock := fun e' => by have := (hrow.lt B e'.symm).1; omega
  have hne' : v'.ownBlock ≠ some B := fun e' => by have := (hown'.lt B e').1; omega
  have hv1 : Boxed w1 B t v := (hv.alloc tmp).kept hgrow hne
  have hlow : ∀ j, j < n₀ → w1.heap[j]? = W.heap[j]? := fun j hj => by
    refine (hgrow.block j (by rw [World.size_alloc]; omega) fun e' => ?_).trans (Below.heap_alloc W tmp j (by omega))
    have := (hrow.lt j e'.symm).1; omega
  refine ⟨hv1, hv1.set v', hown'.kept (grownBy_setCell' w1 B v') (.inr hne'), ?_, ?_, fun j hj hjB => (Below.heap_setCell _ _ _ j hjB).trans (hlow j hj)⟩
  · refine ((KeepsOthers.alloc W tmp).trans (KeepsOthers.of_grownBy hgrow fun j o ej hj => ?_)).trans (KeepsOthers.setCell _ _ _)
    rcases (hrow.alloc tmp).2 with ⟨rfl, _⟩ | ⟨g, cap, cur, rfl, _, hgb, _⟩
    · simp [Value.ownBlock] at ej
    · obtain rfl : g = j := by simpa [Value.ownBlock] using ej
      rw [hgb] at hj; cases hj; rfl
  · have hs := hgrow.size
    rw [World.size_alloc] at hs
    exact ⟨hgrow.os, hgrow.tape, hgrow.output, by show W.heap.size ≤ (w1.heap.modify B _).size; rw [Array.size_modify]; omega, fun j hj => (Below.heap_setCell _ _ _ j (by simp; omega)).trans (hlow j (by omega))⟩
def encC (q : List Nat) : List Value := q.map (fun c => Value.int .u64 (c : Nat))
theorem encC_snoc (q : List Nat) (x : Nat) : encC (q ++ [x]) = encC q ++ [.int .u64 (x : Nat)] := by simp [encC]
theorem dr_kb {b : Nat} {W W' : World} (h : Ext none W W') (hb : b < W.heap.size) : Kb b W W' := World.grownBy.block h b hb (by simp)
theorem dr_row {W W' : World} {base e size k : Nat} {v : Value} {xs : List Value} (hr : W.ownsRow base e size v k xs) (h : Ext none W W') : W'.ownsRow base e size v k xs := by
  refine World.ownsRow.kept hr h ?_
  cases v.ownBlock
  · exact .inl rfl
  · exact .inr (by simp)
theorem dr_others {W W' : World} (h : Ext none W W') : KeepsOthers W W' := KeepsOthers.of_grownBy h (fun j o e => by cases e)

end Go.Proofs.Ytnifgfnhcjhodaa
