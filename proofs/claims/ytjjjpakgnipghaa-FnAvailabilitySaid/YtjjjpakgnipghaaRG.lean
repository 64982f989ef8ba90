/- The measures of package impl: Resilience, Availability. Conditions: each lemma's own. -/
import Derived.Test.YtjjjpakgnipghaaRF
import Derived.Test.YtjjjpakgnipghaaSG
namespace Go.Proofs.Ytjjjpakgnipghaa
open Go.RowKit
set_option linter.unusedVariables false

theorem lacks_cnt {q : List Nat} {n : Nat} (hn : n ≤ 6) (j : Nat) : cntW (fun x => !up q x) (subs (firstM n) (firstM n + 1)) j = lacks q n j := by
  unfold cntW lacks
  rw [subs_full _ (firstM_lt hn), List.countP_filter]
  refine List.countP_congr fun c _ => ?_
  cases h1 : sub c (firstM n) <;> cases h2 : up q c <;> by_cases h3 : many c = j <;> simp [h2, h3]
def sumV (v : Nat → Nat) : Nat → Nat
  | 0 => 0
  | k + 1 => sumV v k + v k
theorem sumV_add (a b : Nat → Nat) (k : Nat) : sumV (fun j => a j + b j) k = sumV a k + sumV b k := by
  induction k with
  | zero => rfl
  | succ k ih => simp only [sumV, ih]; omega
theorem sumV_zero (k : Nat) : sumV (fun _ => 0) k = 0 := by
  induction k with
  | zero => rfl
  | succ k ih => simp only [sumV, ih]
theorem sumV_one {m : Nat} (hm : m < 7) (b : Bool) : sumV (fun j => if (b && decide (m = j)) = true then 1 else 0) 7 = if b then 1 else 0 := by
  have : m = 0 ∨ m = 1 ∨ m = 2 ∨ m = 3 ∨ m = 4 ∨ m = 5 ∨ m = 6 := by omega
  rcases this with rfl | rfl | rfl | rfl | rfl | rfl | rfl <;> cases b <;> rfl
theorem sum_cnt (U : Nat → Bool) : ∀ l : List Nat, (∀ x ∈ l, x < 64) → sumV (fun j => l.countP (fun c => U c && decide (many c = j))) 7 = l.countP U
  | [], _ => sumV_zero 7
  | x :: l, h => by
    have ih := sum_cnt U l fun y hy => h y (List.mem_cons_of_mem _ hy)
    have e : (fun j => (x :: l).countP (fun c => U c && decide (many c = j))) = fun j => l.countP (fun c => U c && decide (many c = j)) + (if (U x && decide (many x = j)) = true then 1 else 0) := by
      funext j; rw [List.countP_cons]
    rw [e, sumV_add, ih, sumV_one (many_le (h x (by simp))), List.countP_cons]
theorem avail_cnt {q : List Nat} {n : Nat} (hn : n ≤ 6) : sumV (cntW (up q) (subs (firstM n) (firstM n + 1))) 7 = availTo q n 64 := by
  unfold availTo
  have e : cntW (up q) (subs (firstM n) (firstM n + 1)) = fun j => ((List.range 64).filter (fun s => sub s (firstM n))).countP (fun c => up q c && decide (many c = j)) := by
    funext j; unfold cntW; rw [subs_full _ (firstM_lt hn)]
  rw [e, sum_cnt _ _ fun x hx => List.mem_range.1 (List.mem_filter.1 hx).1, List.countP_filter]
  refine List.countP_congr fun c _ => ?_
  unfold hasIn
  cases sub c (firstM n) <;> cases up q c <;> simp

theorem sumV_le (v : Nat → Nat) (h : ∀ j, v j ≤ 64) (k : Nat) : sumV v k ≤ 64 * k := by
  induction k with
  | zero => exact Nat.le_refl _
  | succ k ih => have := h k; simp only [sumV]; omega
theorem subs_len64 (c k : Nat) (hk : k ≤ 64) : (subs c k).length ≤ 64 := Nat.le_trans (subs_len c k) hk
set_option maxRecDepth 20000 in
set_option maxHeartbeats 8000000 in
theorem Availability_any {a : Option Addr} {n cp : Nat} {f : List (List Int)} {m : Int} {w : World} (h : Fam w a n f) :
    Calls Try.prog 25 #[.slice a n cp, .int .i64 m] w fun e w' => e = .returned (.int .i64 (availL f m)) ∧ Ext none w w' := by
  cases ho : okR f m
  · have hno := Lib.hid (availL_no ho)
    go_enter Try.func25, Try.ntmps25
    go_wp2_with fail
    refine (measure_is h ho).mono ?_; rintro e w1 ⟨a1, n1, c1, x1, rfl, _, he⟩
    go_wp2_with fail
    go_ret
    exact ⟨retI hno.out, he⟩
  · have hN := okR_N ho
    obtain ⟨t, rfl⟩ := Int.eq_ofNat_of_zero_le (show 0 ≤ m by omega)
    have ht6 : t ≤ 6 := by omega
    have hF := firstM_lt ht6
    have hlt := Lib.hid (masks_lt (okT_fam (okR_T ho)))
    go_enter Try.func25, Try.ntmps25
    go_wp2_with fail
    refine (measure_is h ho).mono ?_; rintro e w1 ⟨a1, n1, c1, x1, rfl, hok, he⟩
    obtain ⟨hq, hx1⟩ := hok rfl
    rw [Int.toNat_natCast] at hx1
    subst hx1
    clear hN hok
    go_wp2_with fail
    refine (tally_any hq.crs hlt.out hF).mono ?_; rintro e w2 ⟨rfl, he2⟩
    have hE := Lib.hid (he.trans he2)
    obtain ⟨v3, hv3⟩ : ∃ v, v = cntW (up (masks f)) (subs (firstM t) (firstM t + 1)) := ⟨_, rfl⟩
    obtain ⟨v4, hv4⟩ : ∃ v, v = cntW (fun x => !up (masks f) x) (subs (firstM t) (firstM t + 1)) := ⟨_, rfl⟩
    rw [← hv3, ← hv4]
    have hfin := Lib.hid (show availL f (t : Int) = (sumV v3 7 : Int) from by
      rw [availL_yes ho, Int.toNat_natCast, hv3, avail_cnt ht6])
    have hle := fun j => Nat.le_trans (show v3 j ≤ (subs (firstM t) (firstM t + 1)).length from by rw [hv3]; exact cntW_le _ _ j) (subs_len64 _ _ (by omega))
    have HLE := Lib.hid hle
    clear hv3 hv4 hq he he2 h ho hle
    simp only [aggOf]
    go_wp2_with fail
    have b3 : Arr ((w2.alloc (.cells #[.int .i64 (v3 0 : Nat), .int .i64 (v3 1 : Nat), .int .i64 (v3 2 : Nat), .int .i64 (v3 3 : Nat), .int .i64 (v3 4 : Nat), .int .i64 (v3 5 : Nat), .int .i64 (v3 6 : Nat)] 82)).alloc (.cells #[.int .i64 (v4 0 : Nat), .int .i64 (v4 1 : Nat), .int .i64 (v4 2 : Nat), .int .i64 (v4 3 : Nat), .int .i64 (v4 4 : Nat), .int .i64 (v4 5 : Nat), .int .i64 (v4 6 : Nat)] 82)) w2.heap.size v3 := Arr.kept (show Arr (w2.alloc (.cells #[.int .i64 (v3 0 : Nat), .int .i64 (v3 1 : Nat), .int .i64 (v3 2 : Nat), .int .i64 (v3 3 : Nat), .int .i64 (v3 4 : Nat), .int .i64 (v3 5 : Nat), .int .i64 (v3 6 : Nat)] 82)) w2.heap.size v3 from heap_alloc_new w2 _) (World.grownBy_alloc _ _ none) (by simp)
    obtain ⟨w9, hw9⟩ : ∃ x, x = (w2.alloc (.cells #[.int .i64 (v3 0 : Nat), .int .i64 (v3 1 : Nat), .int .i64 (v3 2 : Nat), .int .i64 (v3 3 : Nat), .int .i64 (v3 4 : Nat), .int .i64 (v3 5 : Nat), .int .i64 (v3 6 : Nat)] 82)).alloc (.cells #[.int .i64 (v4 0 : Nat), .int .i64 (v4 1 : Nat), .int .i64 (v4 2 : Nat), .int .i64 (v4 3 : Nat), .int .i64 (v4 4 : Nat), .int .i64 (v4 5 : Nat), .int .i64 (v4 6 : Nat)] 82) := ⟨_, rfl⟩
    have hE9 := Lib.hid (show Ext none w w9 from by rw [hw9]; exact (hE.out.alloc _).alloc _)
    rw [← hw9]
    clear hw9 b3
    go_loop [10, 29] (fun s i => ∃ k : Nat, k ≤ 7 ∧ i = .int .i64 (k : Nat) ∧ s = .int .i64 (sumV v3 k : Nat))
      (fun _ i => 7 - (intOf i).toNat)
    case atStart => exact ⟨0, by omega, rfl, rfl⟩
    case round =>
      obtain ⟨k, hk, rfl, rfl⟩ := hrel
      have hsl := sumV_le v3 HLE.out k
      have hv3k := HLE.out k
      by_cases hlt2 : k < 7
      · have hstep := Lib.hid (show sumV v3 (k + 1) = sumV v3 k + v3 k from rfl)
        obtain ⟨u, hu⟩ : ∃ u, u = sumV v3 k := ⟨_, rfl⟩
        rw [← hu] at hsl hstep ⊢
        clear hu
        rcases seven hlt2 with rfl | rfl | rfl | rfl | rfl | rfl | rfl
        · go_wp2_with fail
          rename_i hKK _
          refine hKK _ _ ?_
          generalize hX : (GetElem.getElem (_ : Array Value) (_ : Nat) _ : Value) = X
          obtain rfl : X = .int .i64 (v3 0 : Nat) := by rw [← hX]; kernel_rfl
          go_wp2_with fail
          go_round
          case rel => exact ⟨1, by omega, by first | rfl | go_num, by rw [hstep.out]; first | rfl | go_num⟩
          case measure => simp [intOf]
        · go_wp2_with fail
          rename_i hKK _
          refine hKK _ _ ?_
          generalize hX : (GetElem.getElem (_ : Array Value) (_ : Nat) _ : Value) = X
          obtain rfl : X = .int .i64 (v3 1 : Nat) := by rw [← hX]; kernel_rfl
          go_wp2_with fail
          go_round
          case rel => exact ⟨2, by omega, by first | rfl | go_num, by rw [hstep.out]; first | rfl | go_num⟩
          case measure => simp [intOf]
        · go_wp2_with fail
          rename_i hKK _
          refine hKK _ _ ?_
          generalize hX : (GetElem.getElem (_ : Array Value) (_ : Nat) _ : Value) = X
          obtain rfl : X = .int .i64 (v3 2 : Nat) := by rw [← hX]; kernel_rfl
          go_wp2_with fail
          go_round
          case rel => exact ⟨3, by omega, by first | rfl | go_num, by rw [hstep.out]; first | rfl | go_num⟩
          case measure => simp [intOf]
        · go_wp2_with fail
          rename_i hKK _
          refine hKK _ _ ?_
          generalize hX : (GetElem.getElem (_ : Array Value) (_ : Nat) _ : Value) = X
          obtain rfl : X = .int .i64 (v3 3 : Nat) := by rw [← hX]; kernel_rfl
          go_wp2_with fail
          go_round
          case rel => exact ⟨4, by omega, by first | rfl | go_num, by rw [hstep.out]; first | rfl | go_num⟩
          case measure => simp [intOf]
        · go_wp2_with fail
          rename_i hKK _
          refine hKK _ _ ?_
          generalize hX : (GetElem.getElem (_ : Array Value) (_ : Nat) _ : Value) = X
          obtain rfl : X = .int .i64 (v3 4 : Nat) := by rw [← hX]; kernel_rfl
          go_wp2_with fail
          go_round
          case rel => exact ⟨5, by omega, by first | rfl | go_num, by rw [hstep.out]; first | rfl | go_num⟩
          case measure => simp [intOf]
        · go_wp2_with fail
          rename_i hKK _
          refine hKK _ _ ?_
          generalize hX : (GetElem.getElem (_ : Array Value) (_ : Nat) _ : Value) = X
          obtain rfl : X = .int .i64 (v3 5 : Nat) := by rw [← hX]; kernel_rfl
          go_wp2_with fail
          go_round
          case rel => exact ⟨6, by omega, by first | rfl | go_num, by rw [hstep.out]; first | rfl | go_num⟩
          case measure => simp [intOf]
        · go_wp2_with fail
          rename_i hKK _
          refine hKK _ _ ?_
          generalize hX : (GetElem.getElem (_ : Array Value) (_ : Nat) _ : Value) = X
          obtain rfl : X = .int .i64 (v3 6 : Nat) := by rw [← hX]; kernel_rfl
          go_wp2_with fail
          go_round
          case rel => exact ⟨7, by omega, by first | rfl | go_num, by rw [hstep.out]; first | rfl | go_num⟩
          case measure => simp [intOf]
      · obtain rfl : k = 7 := by omega
        have hI : ¬ ((7 : Nat) : Int) < 7 := by omega
        obtain ⟨u, hu⟩ : ∃ u, u = sumV v3 7 := ⟨_, rfl⟩
        rw [← hu] at hsl hfin ⊢
        clear hu
        go_wp2_with fail
        go_ret
        exact ⟨retI hfin.out, hE9.out⟩
end Go.Proofs.Ytjjjpakgnipghaa
