/- The iterator impl.crew.subsets: it yields all subsets of a set of members, by ascending masks. Conditions: each lemma's own. -/
import Derived.RangeFuncNested
import Derived.RangeFuncLeaves
import Derived.Shelf.Abstract
import Derived.WalkKit
import Derived.OwnWalkIn
import Derived.TacticsInMore
import Derived.LoopNIn
import Derived.LoopIn
import Derived.Maps.AppendAt
import Derived.Test.YtnifgfnhcjhodaaPB
import Derived.Test.YtnifgfnhcjhodaaPN
namespace Go.Proofs.Ytnifgfnhcjhodaa
open Go.RowKit Go.Shelf
set_option linter.unusedVariables false
attribute [local go_sem] Oper.semAt_some

/-- the subsets of c below k, ascending -/
def subs (c : Nat) : Nat → List (Fin 64)
  | 0 => []
  | k + 1 => if h : k < 64 then (if sub k c then subs c k ++ [⟨k, h⟩] else subs c k) else subs c k
theorem subs_succ (c k : Nat) (h : k < 64) : subs c (k + 1) = if sub k c then subs c k ++ [⟨k, h⟩] else subs c k := by
  show (if h : k < 64 then _ else _) = _
  rw [dif_pos h]
theorem subs_len (c k : Nat) : (subs c k).length ≤ k := by
  induction k with
  | zero => exact Nat.le_refl _
  | succ k ih =>
    unfold subs
    split
    · split
      · rw [List.length_append]; simp; exact ih
      · omega
    · omega
theorem subs_val (c k : Nat) (hk : k ≤ 64) : (subs c k).map (·.1) = (List.range k).filter (fun s => sub s c) := by
  induction k with
  | zero => rfl
  | succ k ih =>
    rw [subs_succ c k (by omega), List.range_succ, List.filter_append, ← ih (by omega)]
    cases h : sub k c <;> simp [h]
theorem subs_full (c : Nat) (hc : c < 64) : (subs c (c + 1)).map (·.1) = (List.range 64).filter (fun s => sub s c) := by
  rw [subs_val c _ (by omega)]
  have e : (List.range 64) = List.range (c + 1) ++ (List.range (64 - (c + 1))).map (fun x => (c + 1) + x) := by
    rw [← List.range_add]; congr 1; omega
  have hz : ((List.range (64 - (c + 1))).map (fun x => (c + 1) + x)).filter (fun s => sub s c) = [] := by
    rw [List.filter_eq_nil_iff]
    intro x hx hs
    obtain ⟨y, hy, rfl⟩ := List.mem_map.1 hx
    have := sub_le hs
    omega
  rw [e, List.filter_append, hz, List.append_nil]

/-- what a round that goes on keeps: one block -/
def Kb (b : Nat) (W W' : World) : Prop := W'.heap[b]? = W.heap[b]?
theorem Kb_t {b : Nat} {A B C : World} (h : Kb b A B) (k : Kb b B C) : Kb b A C := Eq.trans k h
theorem Kb_b {b : Nat} {w : World} (hb : b < w.heap.size) (W : World) (l : Nat) (o o' : Obj) (hl : w.heap.size ≤ l) (h : W.heap[l]? = some o) (_ : o.isCells = false) (_ : o.isWalk = false) : Kb b W (W.putObj l o') :=
  World.putObj_heap_other (by omega)

theorem within_is {c d : Nat} {q : Bool} {w : World} (hc : c < 64) (hd : d < 64) (hq : sub c d = q) :
    Calls Try.prog 95 #[.int .u64 c, .int .u64 d] w fun e w' => e = .returned (.bool q) ∧ w = w' := by
  rw [← hq]; exact within_any hc hd

end Go.Proofs.Ytnifgfnhcjhodaa
