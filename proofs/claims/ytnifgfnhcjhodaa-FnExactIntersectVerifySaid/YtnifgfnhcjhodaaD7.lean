/- The draws of package spec: quorum systems. Conditions: each lemma's own. -/
import Derived.Test.YtnifgfnhcjhodaaPE
import Derived.Test.YtnifgfnhcjhodaaD5
import Derived.Test.YtnifgfnhcjhodaaD3
import Derived.Deep.CutBlock
namespace Go.Proofs.Ytnifgfnhcjhodaa
open Go.RowKit
set_option linter.unusedVariables false

/-- A family in new memory, and the reader moved on. -/
def FamR (w : World) (rb k : Nat) (e : Ending) (w' : World) : Prop :=
  ∃ a n c f, e = .returned (.slice a n c) ∧ OwnF w' w.heap.size w.heap.size a n c f ∧ n ≤ 70 ∧ Rd w' rb k ∧ Ext (some rb) w w'
theorem minOf_len (U : Nat → Bool) : (minOf U).length ≤ 64 := by
  unfold minOf; exact Nat.le_trans (List.length_filter_le _ _) (by simp)
theorem whereL_len (U : Nat → Bool) : (whereL U).length ≤ 64 := by unfold whereL; rw [famL_len]; exact minOf_len U
theorem minL_len (f : List (List Int)) : (minL f).length ≤ 64 := by unfold minL; rw [famL_len]; exact minOf_len _
theorem ofExprL_len (s : List UInt8) : (ofExprL s).length ≤ 64 := by unfold ofExprL; split; exact whereL_len _; exact Nat.zero_le _
theorem wFamL_len (w : List Int) (q : Int) : (wFamL w q).length ≤ 64 := by unfold wFamL; split; exact whereL_len _; exact Nat.zero_le _

set_option maxRecDepth 20000 in
set_option maxHeartbeats 8000000 in
theorem l91Family_any {rb k : Nat} {w : World} (h : Rd w rb k) (hk : k ≤ 800000) :
    Calls Try.prog 48 #[.pointer (some ⟨rb, 0, none⟩)] w (FamR w rb (k + 40)) := by
  have hrb := h.lt
  have hx0 : Ext none w (w.alloc (.cells #[] 26)) := (Ext.refl _ _).alloc _
  have hm0 := OwnF.made w w.heap.size
  go_enter Try.func48, Try.ntmps48
  go_wp2_with fail
  refine (pick_any (h.ext hx0) (by omega) (by omega) (by omega)).mono ?_; rintro e w1 ⟨x, rfl, hx0', hx1, hr1, he1⟩
  have hm1 := hm0.ext he1 (fun j hj => by cases hj; exact ⟨hrb, hrb⟩)
  have hE1 : Ext (some rb) w w1 := hx0.weak.trans he1
  clear h hx0 hm0 he1
  go_upto_block 0 with (fail)
  go_cut [3] (fun s3 wx => ∃ (a : Option Addr) (n c : Nat) (f : List (List Int)), s3 = .slice a n c ∧ OwnF wx w.heap.size w.heap.size a n c f ∧ n ≤ 64 ∧ Rd wx rb (k + 36) ∧ Ext (some rb) w wx)
  case first =>
    by_cases x0 : x = 0
    · subst x0
      go_wp2_with fail
      refine (l91Expr_any hr1 (by omega)).mono ?_; rintro e w2 ⟨s, rfl, s1, s2, hr2, he2⟩
      have hlen := Lib.hid (ofExprL_len (byt s))
      go_wp2_with fail
      refine (sFamilyOfExpr_any (by omega)).mono ?_; rintro e w3 ⟨a3, n3, c3, rfl, o3, e3⟩
      have hm3 := (hm1.ext he2 (fun j hj => by cases hj; exact ⟨hrb, hrb⟩)).ext0 e3
      have hB := (hE1.trans he2).size
      have hE3 := (hE1.trans he2).trans e3.weak
      have hr3 := hr2.ext e3
      have hn3 : n3 ≤ 64 := by rw [← o3.len]; exact hlen.out
      replace o3 := o3.mono hB hB
      clear hm1 hE1 he2 e3 hr1 hr2 hB hlen s1
      cases hok : okE (byt s)
      · go_wp2_with fail
        go_meet
        exact ⟨_, _, _, _, rfl, hm3, by omega, hr3.more (by omega), hE3⟩
      · go_wp2_with fail
        go_meet
        exact ⟨_, _, _, _, rfl, o3, hn3, hr3.more (by omega), hE3⟩
    · have b0 : (x == 0) = false := by rw [beq_eq_false_iff_ne]; exact x0
      by_cases x1 : x = 1
      · subst x1
        go_wp2_with fail
        refine (l91Weights_any hr1 (by omega)).mono ?_; rintro e w2 ⟨a2, n2, c2, xs, rfl, o2, hn2, hr2, he2⟩
        go_wp2_with fail
        refine (pick_any hr2 (by omega) (by omega) (by omega)).mono ?_; rintro e w3 ⟨y, rfl, hy0, hy1, hr3, he3⟩
        have i3 := (o2.ext he3 (fun j hj => by cases hj; exact Nat.lt_of_lt_of_le hrb hE1.size)).ints
        have hlen := Lib.hid (wFamL_len xs (1 + y))
        go_wp2_with fail
        refine (sWeightsFamily_any i3).mono ?_; rintro e w4 ⟨a4, n4, c4, rfl, o4, e4⟩
        have hm4 := ((hm1.ext (he2.trans he3) (fun j hj => by cases hj; exact ⟨hrb, hrb⟩))).ext0 e4
        have hB := ((hE1.trans he2).trans he3).size
        have hE4 := ((hE1.trans he2).trans he3).trans e4.weak
        have hr4 := hr3.ext e4
        have hn4 : n4 ≤ 64 := by rw [← o4.len]; exact hlen.out
        replace o4 := o4.mono hB hB
        clear hm1 hE1 he2 he3 e4 hr1 hr2 hr3 hB hlen i3 o2
        cases hok : okW xs (1 + y)
        · go_wp2_with fail
          go_meet
          exact ⟨_, _, _, _, rfl, hm4, by omega, hr4.more (by omega), hE4⟩
        · go_wp2_with fail
          go_meet
          exact ⟨_, _, _, _, rfl, o4, hn4, hr4.more (by omega), hE4⟩
      · have b1 : (x == 1) = false := by rw [beq_eq_false_iff_ne]; exact x1
        clear x0 x1 hx0' hx1
        have hal : Ext none w1 (w1.alloc (.cells #[] 26)) := (Ext.refl _ _).alloc _
        have hs0 := (OwnF.made w1 w.heap.size).mono hE1.size (Nat.le_refl _)
        have hr1' := hr1.ext hal
        have hE1' := hE1.trans hal.weak
        clear hr1 hE1 hal hm1
        go_wp2_with fail
        refine (pick_any hr1' (by omega) (by omega) (by omega)).mono ?_; rintro e w2 ⟨y, rfl, hy0, hy1, hr2, he2⟩
        obtain ⟨r0, rfl⟩ := Int.eq_ofNat_of_zero_le hy0
        have hr4 : r0 ≤ 4 := by omega
        have hs2 := hs0.ext he2 (fun j hj => by cases hj; exact ⟨hrb, hrb⟩)
        have hE2 := hE1'.trans he2
        clear hy0 hy1 hs0 he2 hE1' hr1'
        go_wp2_with fail
        go_loopw [8, 9] (fun v i wr => ∃ (r n c : Nat) (a : Option Addr) (f : List (List Int)), r ≤ 4 ∧ n + r ≤ 4 ∧ i = .int .i64 (r : Nat) ∧ v = .slice a n c ∧ OwnF wr w.heap.size w.heap.size a n c f ∧ Rd wr rb (k + 7 - r) ∧ Ext (some rb) w wr)
          (fun _ i _ => (intOf i).toNat)
        case atStart => exact ⟨r0, 0, 0, _, [], by omega, by omega, rfl, rfl, hs2, hr2.more (by omega), hE2⟩
        case round =>
          obtain ⟨r, n, c, a, f, hr6, hnr, rfl, rfl, ho, hrd, hE⟩ := hrel
          by_cases h0 : 0 < r
          · have h0I : (0 : Int) < (r : Int) := by omega
            go_wp2_with fail
            refine (pick_any hrd (by omega) (by omega) (by omega)).mono ?_; rintro e w3 ⟨y, rfl, hy0, hy1, hr3, he3⟩
            obtain ⟨z, rfl⟩ := Int.eq_ofNat_of_zero_le hy0
            have hz : z + 1 < 64 := by omega
            have hz2 := Lib.hid (show (1 : Int) + (z : Int) = ((z + 1 : Nat) : Int) from by omega)
            have ho3 := ho.ext he3 (fun j hj => by cases hj; exact ⟨hrb, hrb⟩)
            have hE3 := hE.trans he3
            clear ho hrd hE he3 hy0 hy1
            go_wp2_with fail
            rw [hz2.out]
            refine (l1OfMask_any hz).mono ?_; rintro e w4 ⟨a4, n4, c4, rfl, o4, e4⟩
            have hrow := o4.row (r := (Value.slice a n c).ownBlock) (R := w.heap.size) (fun j hj => ho3.blockLt j hj) hE3.size
            have ho4 := ho3.ext0 e4
            have hE4 := hE3.trans e4.weak
            have hr4 := hr3.ext e4
            clear o4 e4 ho3 hE3 hr3
            go_wp2_with (at_builtin; refine app_row _ rfl _ _ rfl w.heap.size w.heap.size a n c _ ho4 a4 n4 c4 _ hrow rfl rfl (by omega) hE4.size ?_; intro g c' w9 ho9 hg9)
            go_roundw
            case rel => exact ⟨r - 1, n + 1, _, _, _, by omega, by omega, by go_num, rfl, ho9, (hr4.grown hg9 (fun j hj => Nat.lt_of_lt_of_le hrb (ho4.block j hj))).more (by omega), hE4.grown hg9 (fun j hj => .inl (ho4.block j hj))⟩
            case measure => simp [intOf]; omega
          · obtain rfl : r = 0 := by omega
            have hF := ho.fam
            have hlen := Lib.hid (minL_len f)
            go_wp2_with fail
            refine (l3Minimize_any hF).mono ?_; rintro e w7 ⟨a7, n7, c7, rfl, o7, e7⟩
            have hn7 : n7 ≤ 64 := by rw [← o7.len]; exact hlen.out
            go_wp2_with fail
            go_meet
            exact ⟨_, _, _, _, rfl, o7.mono hE.size hE.size, hn7, (hrd.ext e7).more (by omega), hE.trans e7.weak⟩
  case rest =>
    obtain ⟨a, n, c, f, rfl, ho, hn, hr, he⟩ := hcut
    go_wp2_with fail
    refine (pick_any hr (by omega) (by omega) (by omega)).mono ?_; rintro e w2 ⟨y, rfl, hy0, hy1, hr2, he2⟩
    have ho2 := ho.ext he2 (fun j hj => by cases hj; exact ⟨hrb, hrb⟩)
    have hE2 := he.trans he2
    clear ho hr he he2
    by_cases y0 : y = 0
    · subst y0
      go_wp2_with fail
      refine (pick_any hr2 (by omega) (by omega) (by omega)).mono ?_; rintro e w3 ⟨z, rfl, hz0, hz1, hr3, he3⟩
      have ho3 := ho2.ext he3 (fun j hj => by cases hj; exact ⟨hrb, hrb⟩)
      have hE3 := hE2.trans he3
      have hal : Ext none w3 (w3.alloc (.cells #[.int .i64 (1 + z)] 3)) := (Ext.refl _ _).alloc _
      have hrow := Lib.hid ((OwnI.lit1 w3 (1 + z)).row (r := (Value.slice a n c).ownBlock) (R := w.heap.size) (fun j hj => ho3.blockLt j hj) hE3.size)
      have ho4 := ho3.ext0 hal
      have hE4 := hE3.trans hal.weak
      have hr4 := hr3.ext hal
      clear ho2 ho3 hE2 hE3 he3 hr2 hr3 hal
      go_wp2_with (at_builtin; refine app_row _ rfl _ _ rfl w.heap.size w.heap.size a n c _ ho4 _ 1 1 _ hrow.out rfl (by rw [World.size_alloc]; rfl) (by omega) hE4.size ?_; intro g c' w9 ho9 hg9)
      go_ret
      exact ⟨_, _, _, _, rfl, ho9, by omega, (hr4.grown hg9 (fun j hj => Nat.lt_of_lt_of_le hrb (ho4.block j hj))).more (by omega), hE4.grown hg9 (fun j hj => .inl (ho4.block j hj))⟩
    · have b0 : (y == 0) = false := by rw [beq_eq_false_iff_ne]; exact y0
      by_cases y1 : y = 1
      · subst y1
        have hal : Ext none w2 (w2.alloc (.cells #[] 3)) := (Ext.refl _ _).alloc _
        have hrow := Lib.hid ((OwnI.made w2).row (r := (Value.slice a n c).ownBlock) (R := w.heap.size) (fun j hj => ho2.blockLt j hj) hE2.size)
        have ho4 := ho2.ext0 hal
        have hE4 := hE2.trans hal.weak
        have hr4 := hr2.ext hal
        clear ho2 hE2 hr2 hal
        go_wp2_with (at_builtin; refine app_row _ rfl _ _ rfl w.heap.size w.heap.size a n c _ ho4 _ 0 0 _ hrow.out rfl (by rw [World.size_alloc]; rfl) (by omega) hE4.size ?_; intro g c' w9 ho9 hg9)
        go_ret
        exact ⟨_, _, _, _, rfl, ho9, by omega, (hr4.grown hg9 (fun j hj => Nat.lt_of_lt_of_le hrb (ho4.block j hj))).more (by omega), hE4.grown hg9 (fun j hj => .inl (ho4.block j hj))⟩
      · have b1 : (y == 1) = false := by rw [beq_eq_false_iff_ne]; exact y1
        go_wp2_with fail
        go_ret
        exact ⟨_, _, _, _, rfl, ho2, by omega, hr2.more (by omega), hE2⟩
end Go.Proofs.Ytnifgfnhcjhodaa
