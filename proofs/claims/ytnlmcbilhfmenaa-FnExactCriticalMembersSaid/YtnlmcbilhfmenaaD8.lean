/- The draws of package spec: what the laws of quorum systems draw. Conditions: each lemma's own. -/
import Derived.Test.YtnlmcbilhfmenaaD7
namespace Go.Proofs.Ytnlmcbilhfmenaa
open Go.RowKit
set_option linter.unusedVariables false

/-- A family's slice, with what Go says of a slice. -/
def FamV (w : World) (a : Option Addr) (n c : Nat) (f : List (List Int)) : Prop := Fam w a n f ∧ Nil0 a n c ∧ n ≤ c ∧ c ≤ 9223372036854775807
theorem FamV.ext {w w' : World} {a : Option Addr} {n c : Nat} {f : List (List Int)} (h : FamV w a n c f) (hx : Ext none w w') : FamV w' a n c f := ⟨h.1.ext hx, h.2⟩
theorem OwnF.famV {w : World} {B R : Nat} {a : Option Addr} {n c : Nat} {f : List (List Int)} (h : OwnF w B R a n c f) : FamV w a n c f := ⟨h.fam, h.nil0, h.cap⟩
def F1R (w : World) (e : Ending) (w' : World) : Prop :=
  ∃ a n c f, e = .returned (.slice a n c) ∧ FamV w' a n c f ∧ n ≤ 80 ∧ Ext none w w'
def F1SR (w : World) (e : Ending) (w' : World) : Prop :=
  ∃ a n c f b m d xs, e = .returned (.tuple #[.slice a n c, .slice b m d]) ∧ FamV w' a n c f ∧ n ≤ 80 ∧ Ints w' b m xs ∧ Ext none w w'
def F2R (w : World) (e : Ending) (w' : World) : Prop :=
  ∃ a n c f b m d g, e = .returned (.tuple #[.slice a n c, .slice b m d]) ∧ FamV w' a n c f ∧ n ≤ 80 ∧ FamV w' b m d g ∧ m ≤ 80 ∧ Ext none w w'

set_option maxHeartbeats 400000 in
theorem DrawCriticalMembers_any {a : Option Addr} {n c : Nat} {w : World} (h : Bytes w a n c) :
    Calls Try.prog 36 #[.slice a n c] w (F1R w) := by
  go_enter Try.func36, Try.ntmps36
  go_wp2_with fail
  refine (l6Open_any h).mono ?_; rintro e w1 ⟨rfl, hr1, he1⟩
  go_wp2_with fail
  refine (l91Family_any hr1 (by omega)).mono ?_; rintro e w2 ⟨a2, n2, c2, f, rfl, ho2, hn2, hr2, he2⟩
  go_wp2_with fail
  go_ret
  exact ⟨_, _, _, _, rfl, ho2.famV, by omega, he1.loc he2 (Nat.le_refl _)⟩
set_option maxHeartbeats 400000 in
theorem DrawFamilyHasQuorum_any {a : Option Addr} {n c : Nat} {w : World} (h : Bytes w a n c) :
    Calls Try.prog 28 #[.slice a n c] w (F1SR w) := by
  go_enter Try.func28, Try.ntmps28
  go_wp2_with fail
  refine (l6Open_any h).mono ?_; rintro e w1 ⟨rfl, hr1, he1⟩
  have hlt := hr1.lt
  go_wp2_with fail
  refine (l91Family_any hr1 (by omega)).mono ?_; rintro e w2 ⟨a2, n2, c2, f, rfl, ho2, hn2, hr2, he2⟩
  go_wp2_with fail
  refine (l91Set_any hr2 (by omega)).mono ?_; rintro e w3 ⟨a3, n3, c3, ys, rfl, ho3, _, hr3, he3⟩
  have ho2' := ho2.ext he3 (fun j hj => by cases hj; exact ⟨hlt, hlt⟩)
  go_wp2_with fail
  go_ret2
  exact ⟨_, _, _, _, _, _, _, _, rfl, ho2'.famV, by omega, ho3.ints, he1.loc (he2.trans he3) (Nat.le_refl _)⟩
set_option maxHeartbeats 400000 in
theorem DrawSurvives_any {a : Option Addr} {n c : Nat} {w : World} (h : Bytes w a n c) :
    Calls Try.prog 41 #[.slice a n c] w (F1SR w) := by
  go_enter Try.func41, Try.ntmps41
  go_wp2_with fail
  refine (l6Open_any h).mono ?_; rintro e w1 ⟨rfl, hr1, he1⟩
  have hlt := hr1.lt
  go_wp2_with fail
  refine (l91Family_any hr1 (by omega)).mono ?_; rintro e w2 ⟨a2, n2, c2, f, rfl, ho2, hn2, hr2, he2⟩
  go_wp2_with fail
  refine (l91Set_any hr2 (by omega)).mono ?_; rintro e w3 ⟨a3, n3, c3, ys, rfl, ho3, _, hr3, he3⟩
  have ho2' := ho2.ext he3 (fun j hj => by cases hj; exact ⟨hlt, hlt⟩)
  go_wp2_with fail
  go_ret2
  exact ⟨_, _, _, _, _, _, _, _, rfl, ho2'.famV, by omega, ho3.ints, he1.loc (he2.trans he3) (Nat.le_refl _)⟩
set_option maxHeartbeats 400000 in
theorem DrawFamilyEither_any {a : Option Addr} {n c : Nat} {w : World} (h : Bytes w a n c) :
    Calls Try.prog 53 #[.slice a n c] w (F2R w) := by
  go_enter Try.func53, Try.ntmps53
  go_wp2_with fail
  refine (l6Open_any h).mono ?_; rintro e w1 ⟨rfl, hr1, he1⟩
  have hlt := hr1.lt
  go_wp2_with fail
  refine (l91Family_any hr1 (by omega)).mono ?_; rintro e w2 ⟨a2, n2, c2, f, rfl, ho2, hn2, hr2, he2⟩
  go_wp2_with fail
  refine (l91Family_any hr2 (by omega)).mono ?_; rintro e w3 ⟨a3, n3, c3, g, rfl, ho3, hn3, hr3, he3⟩
  have ho2' := ho2.ext he3 (fun j hj => by cases hj; exact ⟨hlt, hlt⟩)
  go_wp2_with fail
  go_ret2
  exact ⟨_, _, _, _, _, _, _, _, rfl, ho2'.famV, by omega, ho3.famV, by omega, he1.loc (he2.trans he3) (Nat.le_refl _)⟩
set_option maxHeartbeats 1000000 in
theorem DrawFamilyValid_any {a : Option Addr} {n c : Nat} {w : World} (h : Bytes w a n c) :
    Calls Try.prog 24 #[.slice a n c] w (F1R w) := by
  go_enter Try.func24, Try.ntmps24
  go_wp2_with fail
  refine (l6Open_any h).mono ?_; rintro e w1 ⟨rfl, hr1, he1⟩
  have hlt := hr1.lt
  go_wp2_with fail
  refine (l91Family_any hr1 (by omega)).mono ?_; rintro e w2 ⟨a2, n2, c2, f, rfl, ho2, hn2, hr2, he2⟩
  go_wp2_with fail
  refine (pick_any hr2 (by omega) (by omega) (by omega)).mono ?_; rintro e w3 ⟨y, rfl, hy0, hy1, hr3, he3⟩
  have ho3 := ho2.ext he3 (fun j hj => by cases hj; exact ⟨hlt, hlt⟩)
  have he13 := he2.trans he3
  clear ho2 he2 he3 hr1 hr2
  by_cases y0 : y = 0
  · subst y0
    go_wp2_with fail
    refine (l91Set_any hr3 (by omega)).mono ?_; rintro e w4 ⟨a4, n4, c4, ys, rfl, ho4, _, hr4, he4⟩
    have hrow := ho4.row (r := (Value.slice a2 n2 c2).ownBlock) (R := w1.heap.size) (fun j hj => ho3.blockLt j hj) he13.size
    have ho5 := ho3.ext he4 (fun j hj => by cases hj; exact ⟨hlt, hlt⟩)
    have he5 := he13.trans he4
    clear ho3 ho4 he4 he13
    go_wp2_with (at_builtin; refine app_row _ rfl _ _ rfl w1.heap.size w1.heap.size a2 n2 c2 _ ho5 a4 n4 c4 _ hrow rfl rfl (by omega) he5.size ?_; intro g c' w9 ho9 hg9)
    go_ret
    exact ⟨_, _, _, _, rfl, ho9.famV, by omega, he1.loc (he5.grown hg9 (fun j hj => .inl (ho5.block j hj))) (Nat.le_refl _)⟩
  · have b0 : (y == 0) = false := by rw [beq_eq_false_iff_ne]; exact y0
    go_wp2_with fail
    go_ret
    exact ⟨_, _, _, _, rfl, ho3.famV, by omega, he1.loc he13 (Nat.le_refl _)⟩
set_option maxHeartbeats 2000000 in
theorem DrawFamilyMinimize_any {a : Option Addr} {n c : Nat} {w : World} (h : Bytes w a n c) :
    Calls Try.prog 44 #[.slice a n c] w fun e w' => ∃ a n c f, e = .returned (.slice a n c) ∧ FamV w' a n c f ∧ n ≤ 5 ∧ Ext none w w' := by
  go_enter Try.func44, Try.ntmps44
  go_wp2_with fail
  refine (l6Open_any h).mono ?_; rintro e w1 ⟨rfl, hr1, he1⟩
  have hlt := hr1.lt
  obtain ⟨rb, hrb⟩ : ∃ rb, rb = w.heap.size := ⟨_, rfl⟩
  rw [← hrb] at hr1 hlt ⊢
  have HRB := Lib.hid hrb
  clear hrb
  have hal : Ext none w1 (w1.alloc (.cells #[] 24)) := (Ext.refl _ _).alloc _
  have hr1' := hr1.ext hal
  have hs0 := OwnF.made w1 w1.heap.size
  go_wp2_with fail
  refine (pick_any hr1' (by omega) (by omega) (by omega)).mono ?_; rintro e w2 ⟨y, rfl, hy0, hy1, hr2, he2⟩
  obtain ⟨r0, rfl⟩ := Int.eq_ofNat_of_zero_le hy0
  have hr05 : r0 ≤ 5 := by omega
  have hs2 := hs0.ext he2 (fun j hj => by cases hj; exact ⟨hlt, hlt⟩)
  have hE2 : Ext (some rb) w1 w2 := hal.weak.trans he2
  clear hy0 hy1 hs0 he2 hal hr1' hr1
  go_wp2_with fail
  go_loopw [4, 5] (fun v i wr => ∃ (r n c : Nat) (a : Option Addr) (f : List (List Int)), r ≤ 5 ∧ n + r ≤ 5 ∧ i = .int .i64 (r : Nat) ∧ v = .slice a n c ∧ OwnF wr w1.heap.size w1.heap.size a n c f ∧ Rd wr rb (100 - 5 * r) ∧ Ext (some rb) w1 wr)
    (fun _ i _ => (intOf i).toNat)
  case atStart => exact ⟨r0, 0, 0, _, [], by omega, by omega, rfl, rfl, hs2, hr2.more (by omega), hE2⟩
  case round =>
    obtain ⟨r, n, c, a, f, hr6, hnr, rfl, rfl, ho, hrd, hE⟩ := hrel
    by_cases h0 : 0 < r
    · have h0I : (0 : Int) < (r : Int) := by omega
      go_wp2_with fail
      refine (l91Set_any hrd (by omega)).mono ?_; rintro e w4 ⟨a4, n4, c4, ys, rfl, ho4, hn4, hr4, he4⟩
      have hrow := Lib.hid (ho4.row (r := (Value.slice a n c).ownBlock) (R := w1.heap.size) (fun j hj => ho.blockLt j hj) hE.size)
      have ho5 := ho.ext he4 (fun j hj => by cases hj; exact ⟨hlt, hlt⟩)
      have hE4 := hE.trans he4
      have hb4 := Lib.hid ho4.block
      have i4 := ho4.ints
      have hrbw := Lib.hid (show rb < wr.heap.size from Nat.lt_of_lt_of_le hlt hE.size)
      by_cases hn0 : 0 < n4
      · have hn0I : (0 : Int) < (n4 : Int) := by omega
        clear ho ho4 he4 hE hrd
        go_wp2_with (at_builtin; refine app_row _ rfl _ _ rfl w1.heap.size w1.heap.size a n c _ ho5 a4 n4 c4 _ hrow.out rfl rfl (by omega) hE4.size ?_; intro g c' w9 ho9 hg9)
        go_roundw
        case rel => exact ⟨r - 1, n + 1, _, _, _, by omega, by omega, by go_num, rfl, ho9, (hr4.grown hg9 (fun j hj => Nat.lt_of_lt_of_le hlt (ho5.block j hj))).more (by omega), hE4.grown hg9 (fun j hj => .inl (ho5.block j hj))⟩
        case measure => simp [intOf]; omega
      · have hn0I : ¬ (0 : Int) < (n4 : Int) := by omega
        have hrow4 := Lib.hid (show ∀ W, Ext (some rb) w4 W → RowI W (Value.slice a n c).ownBlock w1.heap.size (.slice a4 n4 c4) ys from fun W hW => (ho4.ext hW (fun j hj => by cases hj; exact hrbw.out)).row (fun j hj => ho.blockLt j hj) hE.size)
        clear ho ho4 he4 hE hrd
        go_wp2_with fail
        refine (pick_any hr4 (by omega) (by omega) (by omega)).mono ?_; rintro e w5 ⟨y, rfl, hy0, hy1, hr5, he5⟩
        have ho6 := ho5.ext he5 (fun j hj => by cases hj; exact ⟨hlt, hlt⟩)
        have hE5 := hE4.trans he5
        have hrow5 := hrow4.out _ he5
        clear ho5 hE4 he5 hr4
        by_cases y0 : y = 0
        · subst y0
          go_wp2_with (at_builtin; refine app_row _ rfl _ _ rfl w1.heap.size w1.heap.size a n c _ ho6 a4 n4 c4 _ hrow5 rfl rfl (by omega) hE5.size ?_; intro g c' w9 ho9 hg9)
          go_roundw
          case rel => exact ⟨r - 1, n + 1, _, _, _, by omega, by omega, by go_num, rfl, ho9, (hr5.grown hg9 (fun j hj => Nat.lt_of_lt_of_le hlt (ho6.block j hj))).more (by omega), hE5.grown hg9 (fun j hj => .inl (ho6.block j hj))⟩
          case measure => simp [intOf]; omega
        · have b0 : (y == 0) = false := by rw [beq_eq_false_iff_ne]; exact y0
          go_wp2_with fail
          go_roundw
          case rel => exact ⟨r - 1, n, _, _, _, by omega, by omega, by go_num, rfl, ho6, hr5.more (by omega), hE5⟩
          case measure => simp [intOf]; omega
    · obtain rfl : r = 0 := by omega
      go_wp2_with fail
      go_ret
      exact ⟨_, _, _, _, rfl, ho.famV, by omega, he1.loc hE (by rw [HRB.out]; exact Nat.le_refl _)⟩
end Go.Proofs.Ytnlmcbilhfmenaa
