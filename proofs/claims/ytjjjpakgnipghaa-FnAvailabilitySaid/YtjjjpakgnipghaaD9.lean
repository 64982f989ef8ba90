/- The draws of package spec: a quorum system and a number of members. Conditions: each lemma's own. -/
import Derived.Test.YtjjjpakgnipghaaD8
namespace Go.Proofs.Ytjjjpakgnipghaa
open Go.RowKit
set_option linter.unusedVariables false

def F1NR (w : World) (e : Ending) (w' : World) : Prop :=
  ∃ a n c f z, e = .returned (.tuple #[.slice a n c, .int .i64 z]) ∧ FamV w' a n c f ∧ n ≤ 80 ∧ 0 ≤ z ∧ z ≤ 7 ∧ Ext none w w'
theorem pick_four {rb k : Nat} {w : World} (h : Rd w rb k) (hk : k ≤ 1000000) :
    Calls Try.prog 90 #[.pointer (some ⟨rb, 0, none⟩), .int .i64 4] w fun e w' => ∃ j : Nat, e = .returned (.int .i64 (j : Nat)) ∧ j < 4 ∧ (j : Int) < 4 ∧ Ext (some rb) w w' := by
  refine (pick_any (n := 4) h hk (by omega) (by omega)).mono ?_
  rintro e w' ⟨y, rfl, h0, h1, _, he⟩
  obtain ⟨j, rfl⟩ := Int.eq_ofNat_of_zero_le h0
  exact ⟨j, rfl, by omega, by omega, he⟩
theorem lit4 {rb k : Nat} {x : Int} {w1 w2 w3 w4 : World} (he : Ext (some rb) (w3.alloc (.cells #[.int .i64 6, .int .i64 6, .int .i64 6, .int .i64 x] 3)) w4) (hlt : rb < w1.heap.size) (h2 : w1.drew.heap.size ≤ w2.heap.size) (h3 : w2.heap.size ≤ w3.heap.size) (hx0 : 0 ≤ x) (hx1 : x < 8) (hk : k < 4) :
    ∃ z, w4.cell? ⟨w3.heap.size, k, none⟩ = some (.int .i64 z) ∧ 0 ≤ z ∧ z ≤ 7 := by
  have h0 : w1.drew.heap.size = w1.heap.size := rfl
  have hb := he.blk (heap_alloc_new w3 (.cells #[.int .i64 6, .int .i64 6, .int .i64 6, .int .i64 x] 3)) (by simp; omega)
  have : k = 0 ∨ k = 1 ∨ k = 2 ∨ k = 3 := by omega
  rcases this with rfl | rfl | rfl | rfl
  · exact ⟨6, by simp [World.cell?, hb], by omega, by omega⟩
  · exact ⟨6, by simp [World.cell?, hb], by omega, by omega⟩
  · exact ⟨6, by simp [World.cell?, hb], by omega, by omega⟩
  · exact ⟨x, by simp [World.cell?, hb], by omega, by omega⟩
theorem lit4b {k : Nat} {x : Int} {w4 : World} (hx0 : 0 ≤ x) (hx1 : x < 8) (hk : k < 4) :
    ∃ z, (w4.alloc (.cells #[.int .i64 6, .int .i64 6, .int .i64 6, .int .i64 x] 3)).cell? ⟨w4.heap.size, k, none⟩ = some (.int .i64 z) ∧ 0 ≤ z ∧ z ≤ 7 := by
  have hb := heap_alloc_new w4 (.cells #[.int .i64 6, .int .i64 6, .int .i64 6, .int .i64 x] 3)
  obtain ⟨b, hbb⟩ : ∃ b, b = w4.heap.size := ⟨_, rfl⟩
  obtain ⟨w5, h5⟩ : ∃ w5, w5 = w4.alloc (.cells #[.int .i64 6, .int .i64 6, .int .i64 6, .int .i64 x] 3) := ⟨_, rfl⟩
  rw [← h5, ← hbb] at hb ⊢
  have : k = 0 ∨ k = 1 ∨ k = 2 ∨ k = 3 := by omega
  rcases this with rfl | rfl | rfl | rfl
  · exact ⟨6, by simp [World.cell?, hb], by omega, by omega⟩
  · exact ⟨6, by simp [World.cell?, hb], by omega, by omega⟩
  · exact ⟨6, by simp [World.cell?, hb], by omega, by omega⟩
  · exact ⟨x, by simp [World.cell?, hb], by omega, by omega⟩
set_option maxHeartbeats 2000000 in
theorem DrawResilience_any {a : Option Addr} {n c : Nat} {w : World} (h : Bytes w a n c) :
    Calls Try.prog 65 #[.slice a n c] w (F1NR w) := by
  go_enter Try.func65, Try.ntmps65
  go_wp2_with fail
  refine (l6Open_any h).mono ?_; rintro e w1 ⟨rfl, hr1, he1⟩
  have hlt := hr1.lt
  go_wp2_with fail
  have e0 : Ext none w1 w1.drew := (Ext.refl _ _).drew
  have HR1 := Lib.hid (hr1.ext e0)
  clear hr1
  go_region_law (first
    | (go_simp; go_at_call 81; refine (l91Family_any HR1.out (by omega)).mono ?_; rintro e w2 ⟨a2, n2, c2, f, rfl, ho2, hn2, hr2, he2⟩; have HR2 := Lib.hid hr2; have HO2 := Lib.hid ho2; have HE2 := Lib.hid he2; clear HR1 hr2 ho2 he2)
    | (go_simp; go_at_call 90; refine (pick_any (n := 8) HR2.out (by omega) (by omega) (by omega)).mono ?_; rintro e w3 ⟨x, rfl, hx0, hx1, hr3, he3⟩; have HR3 := Lib.hid hr3; have HE3 := Lib.hid he3; clear HR2 hr3 he3)
    | (go_simp; go_at_call 90; refine (pick_four (HR3.out.ext ((Ext.refl _ _).alloc _)) (by omega)).mono ?_; rintro e w4 ⟨k, rfl, hk4, hk4I, he4⟩; have HE4 := Lib.hid he4; obtain ⟨z, hz, hz0, hz7⟩ := lit4 he4 hlt (Ext.size HE2.out) (Ext.size HE3.out) hx0 hx1 hk4; clear HR3 he4)
    | (go_simp; go_at_call 90; refine (pick_four HR3.out (by omega)).mono ?_; rintro e w4 ⟨k, rfl, hk4, hk4I, he4⟩; have HE5 := Lib.hid he4; obtain ⟨z, hz, hz0, hz7⟩ := lit4b (w4 := w4) hx0 hx1 hk4; clear HR3 he4))
  all_goals
    go_wp2_with fail
    go_ret2
  · exact ⟨_, _, _, _, z, rfl, (HO2.out.ext ((HE3.out.trans (((Ext.refl _ _).alloc _) : Ext (some w.heap.size) w3 _)).trans HE4.out) (fun j hj => by cases hj; exact ⟨hlt, hlt⟩)).famV, by omega, hz0, hz7, he1.loc (((e0.weak.trans HE2.out).trans (HE3.out.trans (((Ext.refl _ _).alloc _) : Ext (some w.heap.size) w3 _))).trans HE4.out) (Nat.le_refl _)⟩
  · exact ⟨_, _, _, _, z, rfl, (HO2.out.ext ((HE3.out.trans HE5.out).trans (((Ext.refl _ _).alloc _) : Ext (some w.heap.size) w4 _)) (fun j hj => by cases hj; exact ⟨hlt, hlt⟩)).famV, by omega, hz0, hz7, he1.loc (((e0.weak.trans HE2.out).trans (HE3.out.trans HE5.out)).trans (((Ext.refl _ _).alloc _) : Ext (some w.heap.size) w4 _)) (Nat.le_refl _)⟩
set_option maxHeartbeats 1000000 in
theorem DrawAvailability_any {a : Option Addr} {n c : Nat} {w : World} (h : Bytes w a n c) :
    Calls Try.prog 24 #[.slice a n c] w (F1NR w) := by
  go_enter Try.func24, Try.ntmps24
  go_wp2_with fail
  refine (DrawResilience_any h).mono ?_; rintro e w1 ⟨a2, n2, c2, f, z, rfl, hf, hn, hz0, hz7, he⟩
  go_wp2_with fail
  go_ret2
  exact ⟨_, _, _, _, _, rfl, hf, hn, hz0, hz7, he⟩
end Go.Proofs.Ytjjjpakgnipghaa
