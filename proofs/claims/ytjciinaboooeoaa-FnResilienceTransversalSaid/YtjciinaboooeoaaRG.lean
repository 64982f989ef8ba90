/- The measures of package impl: Resilience, Availability. Conditions: each lemma's own. -/
import Derived.Test.YtjciinaboooeoaaRF
import Derived.Test.YtjciinaboooeoaaSG
namespace Go.Proofs.Ytjciinaboooeoaa
open Go.RowKit
set_option linter.unusedVariables false

theorem lacks_cnt {q : List Nat} {n : Nat} (hn : n ≤ 6) (j : Nat) : cntW (fun x => !up q x) (subs (firstM n) (firstM n + 1)) j = lacks q n j := by
  unfold cntW lacks
  rw [subs_full _ (firstM_lt hn), List.countP_filter]
  refine List.countP_congr fun c _ => ?_
  cases h1 : sub c (firstM n) <;> cases h2 : up q c <;> by_cases h3 : many c = j <;> simp [h2, h3]
def sumV (v : Nat → Nat) : Nat → Nat
  | 0 => 0
  | k + 1 => sumV v k + v k
theorem sumV_add (a b : Nat → Nat) (k : Nat) : sumV (fun j => a j + b j) k = sumV a k + sumV b k := by
  induction k with
  | zero => rfl
  | succ k ih => simp only [sumV, ih]; omega
theorem sumV_zero (k : Nat) : sumV (fun _ => 0) k = 0 := by
  induction k with
  | zero => rfl
  | succ k ih => simp only [sumV, ih]
theorem sumV_one {m : Nat} (hm : m < 7) (b : Bool) : sumV (fun j => if (b && decide (m = j)) = true then 1 else 0) 7 = if b then 1 else 0 := by
  have : m = 0 ∨ m = 1 ∨ m = 2 ∨ m = 3 ∨ m = 4 ∨ m = 5 ∨ m = 6 := by omega
  rcases this with rfl | rfl | rfl | rfl | rfl | rfl | rfl <;> cases b <;> rfl
theorem sum_cnt (U : Nat → Bool) : ∀ l : List Nat, (∀ x ∈ l, x < 64) → sumV (fun j => l.countP (fun c => U c && decide (many c = j))) 7 = l.countP U
  | [], _ => sumV_zero 7
  | x :: l, h => by
    have ih := sum_cnt U l fun y hy => h y (List.mem_cons_of_mem _ hy)
    have e : (fun j => (x :: l).countP (fun c => U c && decide (many c = j))) = fun j => l.countP (fun c => U c && decide (many c = j)) + (if (U x && decide (many x = j)) = true then 1 else 0) := by
      funext j; rw [List.countP_cons]
    rw [e, sumV_add, ih, sumV_one (many_le (h x (by simp))), List.countP_cons]
theorem avail_cnt {q : List Nat} {n : Nat} (hn : n ≤ 6) : sumV (cntW (up q) (subs (firstM n) (firstM n + 1))) 7 = availTo q n 64 := by
  unfold availTo
  have e : cntW (up q) (subs (firstM n) (firstM n + 1)) = fun j => ((List.range 64).filter (fun s => sub s (firstM n))).countP (fun c => up q c && decide (many c = j)) := by
    funext j; unfold cntW; rw [subs_full _ (firstM_lt hn)]
  rw [e, sum_cnt _ _ fun x hx => List.mem_range.1 (List.mem_filter.1 hx).1, List.countP_filter]
  refine List.countP_congr fun c _ => ?_
  unfold hasIn
  cases sub c (firstM n) <;> cases up q c <;> simp

set_option maxRecDepth 20000 in
set_option maxHeartbeats 4000000 in
theorem Resilience_any {a : Option Addr} {n cp : Nat} {f : List (List Int)} {m : Int} {w : World} (h : Fam w a n f) :
    Calls Try.prog 34 #[.slice a n cp, .int .i64 m] w fun e w' => e = .returned (.int .i64 (resL f m)) ∧ Ext none w w' := by
  cases ho : okR f m
  · have hno := Lib.hid (resL_no ho)
    go_enter Try.func34, Try.ntmps34
    go_wp2_with fail
    refine (measure_is h ho).mono ?_; rintro e w1 ⟨a1, n1, c1, x1, rfl, _, he⟩
    go_wp2_with fail
    go_ret
    exact ⟨retI hno.out, he⟩
  · have hN := okR_N ho
    obtain ⟨t, rfl⟩ := Int.eq_ofNat_of_zero_le (show 0 ≤ m by omega)
    have ht6 : t ≤ 6 := by omega
    have hF := firstM_lt ht6
    have hlt := Lib.hid (masks_lt (okT_fam (okR_T ho)))
    have HO := Lib.hid ho
    go_enter Try.func34, Try.ntmps34
    go_wp2_with fail
    refine (measure_is h ho).mono ?_; rintro e w1 ⟨a1, n1, c1, x1, rfl, hok, he⟩
    obtain ⟨hq, hx1⟩ := hok rfl
    rw [Int.toNat_natCast] at hx1
    subst hx1
    clear ho hN hok
    go_wp2_with fail
    refine (tally_any hq.crs hlt.out hF).mono ?_; rintro e w2 ⟨rfl, he2⟩
    have hE := Lib.hid (he.trans he2)
    obtain ⟨v3, hv3⟩ : ∃ v, v = cntW (up (masks f)) (subs (firstM t) (firstM t + 1)) := ⟨_, rfl⟩
    obtain ⟨v4, hv4⟩ : ∃ v, v = cntW (fun x => !up (masks f) x) (subs (firstM t) (firstM t + 1)) := ⟨_, rfl⟩
    rw [← hv3, ← hv4]
    have hv := Lib.hid (show ∀ j, v4 j = lacks (masks f) t j from fun j => by rw [hv4]; exact lacks_cnt ht6 j)
    clear hv3 hv4 hq he he2 h
    simp only [aggOf]
    go_wp2_with fail
    have b3 : Arr (w2.alloc (.cells #[.int .i64 (v3 0 : Nat), .int .i64 (v3 1 : Nat), .int .i64 (v3 2 : Nat), .int .i64 (v3 3 : Nat), .int .i64 (v3 4 : Nat), .int .i64 (v3 5 : Nat), .int .i64 (v3 6 : Nat)] 80)) w2.heap.size v3 := heap_alloc_new w2 _
    have b4 : Arr ((w2.alloc (.cells #[.int .i64 (v3 0 : Nat), .int .i64 (v3 1 : Nat), .int .i64 (v3 2 : Nat), .int .i64 (v3 3 : Nat), .int .i64 (v3 4 : Nat), .int .i64 (v3 5 : Nat), .int .i64 (v3 6 : Nat)] 80)).alloc (.cells #[.int .i64 (v4 0 : Nat), .int .i64 (v4 1 : Nat), .int .i64 (v4 2 : Nat), .int .i64 (v4 3 : Nat), .int .i64 (v4 4 : Nat), .int .i64 (v4 5 : Nat), .int .i64 (v4 6 : Nat)] 80)) (w2.heap.size + 1) v4 := by
      have := heap_alloc_new (w2.alloc (.cells #[.int .i64 (v3 0 : Nat), .int .i64 (v3 1 : Nat), .int .i64 (v3 2 : Nat), .int .i64 (v3 3 : Nat), .int .i64 (v3 4 : Nat), .int .i64 (v3 5 : Nat), .int .i64 (v3 6 : Nat)] 80)) (.cells #[.int .i64 (v4 0 : Nat), .int .i64 (v4 1 : Nat), .int .i64 (v4 2 : Nat), .int .i64 (v4 3 : Nat), .int .i64 (v4 4 : Nat), .int .i64 (v4 5 : Nat), .int .i64 (v4 6 : Nat)] 80)
      rw [World.size_alloc] at this; exact this
    obtain ⟨w9, hw9⟩ : ∃ x, x = (w2.alloc (.cells #[.int .i64 (v3 0 : Nat), .int .i64 (v3 1 : Nat), .int .i64 (v3 2 : Nat), .int .i64 (v3 3 : Nat), .int .i64 (v3 4 : Nat), .int .i64 (v3 5 : Nat), .int .i64 (v3 6 : Nat)] 80)).alloc (.cells #[.int .i64 (v4 0 : Nat), .int .i64 (v4 1 : Nat), .int .i64 (v4 2 : Nat), .int .i64 (v4 3 : Nat), .int .i64 (v4 4 : Nat), .int .i64 (v4 5 : Nat), .int .i64 (v4 6 : Nat)] 80) := ⟨_, rfl⟩
    have hE9 := Lib.hid (show Ext none w w9 from by rw [hw9]; exact (hE.out.alloc _).alloc _)
    rw [← hw9] at b4 ⊢
    clear hw9 b3
    go_loop [10] (fun i => ∃ r : Nat, r ≤ t ∧ i = .int .i64 (r : Nat) ∧ ∀ j, j < r → lacks (masks f) t (t - 1 - j) = 0)
      (fun i => t - (intOf i).toNat)
    case atStart => exact ⟨0, by omega, rfl, fun j hj => by omega⟩
    case round =>
      obtain ⟨r, hr, rfl, hno⟩ := hrel
      have HNO := Lib.hid hno
      clear hno
      by_cases hlt2 : r < t
      · have hltI : (r : Int) < (t : Int) := by omega
        obtain ⟨i, hi⟩ : ∃ i, i = t - 1 - r := ⟨_, rfl⟩
        have hiI : (t : Int) - (r : Int) - 1 = (i : Int) := by omega
        have hi7 : i < 7 := by omega
        have hi7I : (i : Int) < 7 := by omega
        have hc := b4.cell hi7
        have hle := lacks_all (masks f) t i
        have hvi := hv.out i
        rw [hvi] at hc
        have HI := Lib.hid hi
        clear hi hvi
        by_cases hz : lacks (masks f) t i = 0
        · rw [hz] at hc
          go_wp2_with fail
          go_round
          case rel => exact ⟨r + 1, by omega, by go_num, fun j hj => by
            by_cases e : j = r
            · subst e; rw [← HI.out]; exact hz
            · exact HNO.out j (by omega)⟩
          case measure => simp [intOf]; omega
        · have hz2 : ((lacks (masks f) t i : Int) == 0) = false := by rw [beq_eq_false_iff_ne]; omega
          have hfin := Lib.hid (show resL f (t : Int) = (r : Int) from by
            rw [resL_yes HO.out, Int.toNat_natCast, worst_is HO.out (Nat.le_of_lt hlt2) HNO.out (.inr (by rw [← HI.out]; exact hz))]; omega)
          go_wp2_with fail
          go_ret
          exact ⟨retI hfin.out, hE9.out⟩
      · obtain rfl : r = t := by omega
        have hfin := Lib.hid (show resL f (r : Int) = (r : Int) from by
          rw [resL_yes HO.out, Int.toNat_natCast, worst_is HO.out (Nat.le_refl _) HNO.out (.inl rfl)]; omega)
        go_wp2_with fail
        go_ret
        exact ⟨retI hfin.out, hE9.out⟩

theorem sumV_le (v : Nat → Nat) (h : ∀ j, v j ≤ 64) (k : Nat) : sumV v k ≤ 64 * k := by
  induction k with
  | zero => exact Nat.le_refl _
  | succ k ih => have := h k; simp only [sumV]; omega
theorem subs_len64 (c k : Nat) (hk : k ≤ 64) : (subs c k).length ≤ 64 := Nat.le_trans (subs_len c k) hk
end Go.Proofs.Ytjciinaboooeoaa
