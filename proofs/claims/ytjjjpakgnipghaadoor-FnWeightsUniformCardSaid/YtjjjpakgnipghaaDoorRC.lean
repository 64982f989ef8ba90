/- The quorum systems of package impl: FamilyTransversals, WeightsFamily. Conditions: each lemma's own. -/
import Derived.Test.YtjjjpakgnipghaaDoorRB
import Derived.Test.YtjjjpakgnipghaaDoorPI
import Derived.Test.YtjjjpakgnipghaaDoorC4
import Derived.Test.YtjjjpakgnipghaaDoorPQ
import Derived.Test.YtjjjpakgnipghaaDoorSF
namespace Go.Proofs.YtjjjpakgnipghaaDoor
open Go.RowKit
set_option linter.unusedVariables false

theorem hitsT_step (q : List Nat) (c k : Nat) (h : k < q.length) : hitsQ (q.take (k + 1)) c = (hitsQ (q.take k) c && decide (q.getD k 0 &&& c ≠ 0)) := by
  rw [snoc_take q 0 k h]; unfold hitsQ; rw [List.all_append]; simp
theorem hitsT_take {q : List Nat} {c k : Nat} (h : hitsQ (q.take k) c = false) : hitsQ q c = false := by
  cases hq : hitsQ q c
  · rfl
  · exfalso
    unfold hitsQ at *
    rw [List.all_eq_true] at hq
    have : (q.take k).all (fun x => decide (x &&& c ≠ 0)) = true := by
      rw [List.all_eq_true]; exact fun x hx => hq x (List.mem_of_mem_take hx)
    rw [this] at h; cases h

theorem WeightsValid_is {a : Option Addr} {n cp : Nat} {xs : List Int} {w : World} {q : Bool} (h : Ints w a n xs) (hq : valW xs = q) :
    Calls Tryd.prog 45 #[.slice a n cp] w fun e w' => e = .returned (.bool q) ∧ w = w' := by
  rw [← hq]; exact WeightsValid_any h
set_option maxHeartbeats 1000000 in
theorem votesTest {p1 p2 : Addr} {a : Option Addr} {n c x : Nat} {ws : List Int} {need : Int} {w : World} (hc : w.cell? p1 = some (.slice a n c)) (hc2 : w.cell? p2 = some (.int .i64 need)) (hi : Ints w a n ws) (hv : valW ws = true) (hx : x < 64) :
    Calls Tryd.prog 48 #[.int .u64 (x : Nat), .pointer (some p1), .pointer (some p2)] w fun e w' => e = .returned (.bool (enough ws need x)) ∧ Ext none w w' := by
  obtain ⟨t, ht⟩ : ∃ t, t = sumW ws x := ⟨_, rfl⟩
  have HT := Lib.hid ht
  have e0 : Ext none w w.drew := (Ext.refl _ _).drew
  have hI := Lib.hid (hi.ext e0)
  have hc3 := e0.cell hc2
  have hen := Lib.hid (show enough ws need x = decide (need ≤ t) from by rw [ht]; rfl)
  clear hi ht
  go_enter Tryd.func48, Tryd.ntmps48
  go_wp2_with fail
  go_region_law (go_simp; go_at_call 46; refine (boxSum_any hI.out hx hv).mono ?_; rintro e w2 ⟨rfl, e2⟩; have hc4 := e2.cell hc3; rw [← HT.out])
  all_goals
    go_wp2_with fail
    go_ret
    exact ⟨retB hen.out, e0.trans e2⟩

set_option maxHeartbeats 4000000 in
theorem WeightsFamily_any {a : Option Addr} {n cp : Nat} {ws : List Int} {need : Int} {w : World} (h : Ints w a n ws) :
    Calls Tryd.prog 18 #[.slice a n cp, .int .i64 need] w (RGB w (wFamL ws need) (okW ws need)) := by
  have hX := Lib.hid (show Ext none w ((w.alloc (.cells #[.slice a n cp] 23)).alloc (.cells #[.int .i64 need] 3)).drew from (((Ext.refl _ _).alloc _).alloc _).drew)
  have hI := Lib.hid (h.ext hX.out)
  have hcA : ((w.alloc (.cells #[.slice a n cp] 23)).alloc (.cells #[.int .i64 need] 3)).drew.cell? ⟨w.heap.size, 0, none⟩ = some (.slice a n cp) :=
    ((((Ext.refl none _).alloc _).drew) : Ext none (w.alloc (.cells #[.slice a n cp] 23)) _).cell (Boxed.new w _ _).cell
  have hcB : ((w.alloc (.cells #[.slice a n cp] 23)).alloc (.cells #[.int .i64 need] 3)).drew.cell? ⟨w.heap.size + 1, 0, none⟩ = some (.int .i64 need) := by
    have := (Boxed.new (w.alloc (.cells #[.slice a n cp] 23)) 3 (.int .i64 need)).cell
    rw [World.size_alloc] at this
    exact (((Ext.refl none _).drew) : Ext none ((w.alloc (.cells #[.slice a n cp] 23)).alloc (.cells #[.int .i64 need] 3)) _).cell this
  clear h
  cases hv : valW ws
  · have hno := Lib.hid (show okW ws need = false from by unfold okW; rw [hv]; rfl)
    have hno2 := Lib.hid (wFamL_no hno.out)
    go_enter Tryd.func18, Tryd.ntmps18
    go_wp2_with fail
    go_region_law (go_simp; go_at_call 45; refine (WeightsValid_is hI.out hv).mono ?_; rintro e w2 ⟨rfl, rfl⟩)
    all_goals
      go_wp2_with fail
      go_ret2
      exact ⟨_, _, _, by rw [hno.out]; rfl, by rw [hno2.out]; exact OwnG.nil _ _ _, hX.out⟩
  · obtain ⟨t, ht⟩ : ∃ t, t = sumW ws 63 := ⟨_, rfl⟩
    have HT := Lib.hid ht
    have hok := Lib.hid (show okW ws need = (decide (1 ≤ need) && decide (need ≤ t)) from by unfold okW; rw [hv, ht]; rfl)
    clear ht
    by_cases h1 : need < 1
    · have hno := Lib.hid (show okW ws need = false from by rw [hok.out, decide_eq_false (by omega)]; rfl)
      have hno2 := Lib.hid (wFamL_no hno.out)
      go_enter Tryd.func18, Tryd.ntmps18
      go_wp2_with fail
      go_region_law (go_simp; go_at_call 45; refine (WeightsValid_is hI.out hv).mono ?_; rintro e w2 ⟨rfl, rfl⟩)
      all_goals
        go_wp2_with fail
        go_ret2
        exact ⟨_, _, _, by rw [hno.out]; rfl, by rw [hno2.out]; exact OwnG.nil _ _ _, hX.out⟩
    · by_cases h2 : t < need
      · have hno := Lib.hid (show okW ws need = false from by rw [hok.out, decide_eq_false (show ¬ need ≤ t by omega), Bool.and_false])
        have hno2 := Lib.hid (wFamL_no hno.out)
        have hd1 : decide (need < 1) = false := decide_eq_false h1
        have hd2 : decide (t < need) = true := decide_eq_true h2
        clear h1 h2
        go_enter Tryd.func18, Tryd.ntmps18
        go_wp2_with fail
        go_region_law (first
          | (go_simp; go_at_call 45; refine (WeightsValid_is hI.out hv).mono ?_; rintro e w2 ⟨rfl, rfl⟩)
          | (go_simp; go_at_call 46; refine (boxSum_any (c := 63) hI.out (by decide) hv).mono ?_; rintro e w2 ⟨rfl, e2⟩; have hc4 := e2.cell hcB; rw [← HT.out]))
        all_goals
          go_wp2_with fail
          go_ret2
          exact ⟨_, _, _, by rw [hno.out]; rfl, by rw [hno2.out]; exact OwnG.nil _ _ _, hX.out.trans e2⟩
      · have hyes := Lib.hid (show okW ws need = true from by rw [hok.out, decide_eq_true (show 1 ≤ need by omega), decide_eq_true (show need ≤ t by omega)]; rfl)
        have hyes2 := Lib.hid (show wFamL ws need = famL (minOf (enough ws need)) from wFamL_yes hyes.out)
        have hd1 : decide (need < 1) = false := decide_eq_false h1
        have hd2 : decide (t < need) = false := decide_eq_false h2
        clear h1 h2
        go_enter Tryd.func18, Tryd.ntmps18
        go_wp2_with fail
        go_region_law (first
          | (go_simp; go_at_call 45; refine (WeightsValid_is hI.out hv).mono ?_; rintro e w2 ⟨rfl, rfl⟩)
          | (go_simp; go_at_call 46; refine (boxSum_any (c := 63) hI.out (by decide) hv).mono ?_; rintro e w2 ⟨rfl, e2⟩; have hc4 := e2.cell hcB; rw [← HT.out]))
        all_goals
          have hc3 := e2.cell hcA
          have hI2 := Lib.hid (hI.out.ext e2)
          have hE := Lib.hid (hX.out.trans e2)
          clear e2
          have hT := Lib.hid (show ∀ x : Nat, x < 64 → ∀ W, Ext none w2 W → Calls Tryd.prog 48 #[.int .u64 (x : Nat), .pointer (some ⟨w.heap.size, 0, none⟩), .pointer (some ⟨w.heap.size + 1, 0, none⟩)] W fun e W' => e = .returned (.bool (enough ws need x)) ∧ Ext none W W' from
            fun x hx W hW => votesTest (hW.cell hc3) (hW.cell hc4) (hI2.out.ext hW) hv hx)
          go_wp2_with fail
          refine (minWhereWeightsFamily_any hT.out).mono ?_; rintro e w3 ⟨a3, n3, c3, rfl, o3, e3⟩
          have hn3 := Lib.hid (show n3 ≤ 900000 from by rw [← o3.len]; exact Nat.le_trans (List.length_filter_le _ _) (by simp))
          go_wp2_with fail
          refine (lists_any o3.crs (fun x hx => minOf_lt hx) hn3.out).mono ?_; rintro e w4 ⟨a4, n4, c4, rfl, o4, e4⟩
          go_wp2_with fail
          go_ret2
          exact ⟨a4, n4, c4, by rw [hyes.out]; rfl, by rw [hyes2.out]; exact o4.low (hE.out.trans e3).size, (hE.out.trans e3).trans e4⟩
end Go.Proofs.YtjjjpakgnipghaaDoor
