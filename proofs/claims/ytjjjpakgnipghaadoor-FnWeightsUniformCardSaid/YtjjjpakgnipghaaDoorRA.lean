/- The iterator impl.crew.subsets: it yields all subsets of a set of members, by ascending masks. Conditions: each lemma's own. -/
import Derived.RangeFuncNested
import Derived.RangeFuncLeaves
import Derived.Shelf.Abstract
import Derived.WalkKit
import Derived.OwnWalkIn
import Derived.TacticsInMore
import Derived.LoopNIn
import Derived.LoopIn
import Derived.Maps.AppendAt
import Derived.Test.YtjjjpakgnipghaaDoorPB
import Derived.Test.YtjjjpakgnipghaaDoorPN
namespace Go.Proofs.YtjjjpakgnipghaaDoor
open Go.RowKit Go.Shelf
set_option linter.unusedVariables false
attribute [local go_sem] Oper.semAt_some

/-- the subsets of c below k, ascending -/
def subs (c : Nat) : Nat → List (Fin 64)
  | 0 => []
  | k + 1 => if h : k < 64 then (if sub k c then subs c k ++ [⟨k, h⟩] else subs c k) else subs c k
theorem subs_succ (c k : Nat) (h : k < 64) : subs c (k + 1) = if sub k c then subs c k ++ [⟨k, h⟩] else subs c k := by
  show (if h : k < 64 then _ else _) = _
  rw [dif_pos h]
theorem subs_len (c k : Nat) : (subs c k).length ≤ k := by
  induction k with
  | zero => exact Nat.le_refl _
  | succ k ih =>
    unfold subs
    split
    · split
      · rw [List.length_append]; simp; exact ih
      · omega
    · omega
theorem subs_val (c k : Nat) (hk : k ≤ 64) : (subs c k).map (·.1) = (List.range k).filter (fun s => sub s c) := by
  induction k with
  | zero => rfl
  | succ k ih =>
    rw [subs_succ c k (by omega), List.range_succ, List.filter_append, ← ih (by omega)]
    cases h : sub k c <;> simp [h]
theorem subs_full (c : Nat) (hc : c < 64) : (subs c (c + 1)).map (·.1) = (List.range 64).filter (fun s => sub s c) := by
  rw [subs_val c _ (by omega)]
  have e : (List.range 64) = List.range (c + 1) ++ (List.range (64 - (c + 1))).map (fun x => (c + 1) + x) := by
    rw [← List.range_add]; congr 1; omega
  have hz : ((List.range (64 - (c + 1))).map (fun x => (c + 1) + x)).filter (fun s => sub s c) = [] := by
    rw [List.filter_eq_nil_iff]
    intro x hx hs
    obtain ⟨y, hy, rfl⟩ := List.mem_map.1 hx
    have := sub_le hs
    omega
  rw [e, List.filter_append, hz, List.append_nil]

/-- what a round that goes on keeps: one block -/
def Kb (b : Nat) (W W' : World) : Prop := W'.heap[b]? = W.heap[b]?
theorem Kb_t {b : Nat} {A B C : World} (h : Kb b A B) (k : Kb b B C) : Kb b A C := Eq.trans k h
theorem Kb_b {b : Nat} {w : World} (hb : b < w.heap.size) (W : World) (l : Nat) (o o' : Obj) (hl : w.heap.size ≤ l) (h : W.heap[l]? = some o) (_ : o.isCells = false) (_ : o.isWalk = false) : Kb b W (W.putObj l o') :=
  World.putObj_heap_other (by omega)

set_option maxRecDepth 20000 in
set_option maxHeartbeats 400000 in
theorem subsets_any {c : Nat} {w : World} :
    Calls Tryd.prog 58 #[.int .u64 (c : Nat)] w fun e w' => e = .returned (.func (.func 67) #[] #[.pointer (some ⟨w.heap.size, 0, none⟩)]) ∧ w' = w.alloc (.cells #[.int .u64 (c : Nat)] 62) := by
  go_enter Tryd.func58, Tryd.ntmps58
  go_wp2_with fail
  go_ret
  exact ⟨rfl, rfl⟩

theorem within_is {c d : Nat} {q : Bool} {w : World} (hc : c < 64) (hd : d < 64) (hq : sub c d = q) :
    Calls Tryd.prog 68 #[.int .u64 c, .int .u64 d] w fun e w' => e = .returned (.bool q) ∧ w = w' := by
  rw [← hq]; exact within_any hc hd

set_option maxRecDepth 100000 in
set_option maxHeartbeats 2000000 in
theorem subs1_in (n : Nat) (hn : 1 ≤ n) (l b c : Nat) (hc : c < 64) (J Jx : List (Fin 64) → World → Prop)
    (hY : ∀ pre x W, J pre W → pre.length < 64 → YieldAt Fence.wide (n - 1) Tryd.prog l #[.int .u64 (x.1 : Nat)] W fun e W' =>
      (e = .returned (.bool true) ∧ J (pre ++ [x]) W' ∧ Kb b W W') ∨ (e = .returned (.bool false) ∧ Jx (pre ++ [x]) W'))
    (W : World) (hb : W.heap[b]? = some (.cells #[.int .u64 (c : Nat)] 62 (0, 0))) (h0 : J [] W) :
    CallsIn Fence.wide n Tryd.prog 67 #[.func (.yield l) #[] #[], .pointer (some ⟨b, 0, none⟩)] W fun e W' => (∃ v, e = .returned v) ∧
      ((∃ ys, ys = subs c (c + 1) ∧ J ys W') ∨ (∃ pre, True ∧ Jx pre W')) := by
  have hcell : ∀ W' : World, W'.heap[b]? = some (.cells #[.int .u64 (c : Nat)] 62 (0, 0)) → W'.cell? ⟨b, 0, none⟩ = some (.int .u64 (c : Nat)) := fun W' h => by simp [World.cell?, h]
  have hcell0 := hcell W hb
  have HB := Lib.hid hb
  clear hb
  refine callsIn_of_wp Tryd.func67 rfl trivial ?_ rfl
  simp only [Tryd.ntmps67, List.size_toArray, List.length_cons, List.length_nil, Nat.reduceAdd, Nat.reduceSub, Array.replicate_succ, Array.replicate_zero, List.push_toArray, List.append_toArray, List.nil_append, List.cons_append]
  gi_wp2
  gi_loopw [6] (fun i wr => ∃ k : Nat, k ≤ c + 1 ∧ i = .int .u64 (k : Nat) ∧ wr.heap[b]? = some (.cells #[.int .u64 (c : Nat)] 62 (0, 0)) ∧ J (subs c k) wr)
    (fun i _ => c + 1 - (intOf i).toNat)
  case atStart => exact ⟨0, by omega, rfl, HB.out, h0⟩
  case round =>
    obtain ⟨k, hk, rfl, hbw, hJ⟩ := hrel
    have hcw := hcell wr hbw
    have HBW := Lib.hid hbw
    clear hbw
    by_cases hlt : k < c + 1
    · have hltI : (k : Int) < (c : Int) + 1 := by omega
      have hk64 : k < 64 := by omega
      have hst := Lib.hid (subs_succ c k hk64)
      have hlen := subs_len c k
      cases hs : sub k c
      · rw [hs] at hst
        gi_wp2_with (refine ⟨trivial, ?_⟩; gi_at_call 68; refine (callsIn_wide.2 (within_is hk64 hc hs)).mono ?_; rintro e w' ⟨rfl, rfl⟩)
        refine ⟨fun _ h => (by cases h), ?_⟩
        gi_wp2
        go_roundw
        case rel => exact ⟨k + 1, by omega, by go_num, HBW.out, by rw [hst.out]; exact hJ⟩
        case measure => simp [intOf]; omega
      · rw [hs] at hst
        obtain ⟨fn, tmps, assign, body, hy, hR⟩ := hY (subs c k) ⟨k, hk64⟩ wr hJ (by omega)
        dsimp only at hy
        gi_wp2_with (refine ⟨trivial, ?_⟩; gi_at_call 68; refine (callsIn_wide.2 (within_is hk64 hc hs)).mono ?_; rintro e w' ⟨rfl, rfl⟩)
        refine hR.mono ?_
        rintro e W3 (⟨rfl, hJ3, hk3⟩ | ⟨rfl, hJx3⟩)
        · have hb3 := Lib.hid (show W3.heap[b]? = some (.cells #[.int .u64 (c : Nat)] 62 (0, 0)) from Eq.trans hk3 HBW.out)
          gi_wp2
          go_roundw
          case rel => exact ⟨k + 1, by omega, by go_num, hb3.out, by rw [hst.out, if_pos trivial]; exact hJ3⟩
          case measure => simp [intOf]; omega
        · gi_wp2
          refine bodyPost_ret (results_none rfl _ _ _) rfl ?_
          exact ⟨⟨_, rfl⟩, .inr ⟨_, trivial, hJx3⟩⟩
    · obtain rfl : k = c + 1 := by omega
      gi_wp2
      go_end0
      exact ⟨⟨_, rfl⟩, .inl ⟨_, rfl, hJ⟩⟩

/-- the iterator, as the law of a range over a function asks for it -/
theorem subs_stops (n : Nat) (hn : 1 ≤ n) (b c : Nat) (hc : c < 64) (w : World) (hb : w.heap[b]? = some (.cells #[.int .u64 (c : Nat)] 62 (0, 0))) :
    SeqStopsK Fence.wide n Tryd.prog 67 #[.pointer (some ⟨b, 0, none⟩)] (fun x : Fin 64 => #[Value.int .u64 (x.1 : Nat)]) (Kb b) (fun ys => ys = subs c (c + 1)) (fun _ => True) 64 w := fun l J Jx W hW _ _ hY h0 =>
  subs1_in n hn l b c hc J Jx hY W ((hW.block b (Array.getElem?_eq_some_iff.1 hb).1).trans hb) h0
end Go.Proofs.YtjjjpakgnipghaaDoor
