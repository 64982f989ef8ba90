/- Drawing expressions, second part: l91Expr. Conditions: each lemma's own. -/
import Derived.Test.YtnifgfnhcjhodaaD4
namespace Go.Proofs.Ytnifgfnhcjhodaa
open Go.RowKit
set_option linter.unusedVariables false

theorem take_size (s : ByteArray) (z : Nat) (h : z ≤ s.size) : (s.extract 0 z).size = z := by rw [ByteArray.size_extract]; omega
theorem drop_size (s : ByteArray) (z : Nat) : (s.extract z s.size).size = s.size - z := by rw [ByteArray.size_extract]; omega

theorem OwnS.two (w : World) (p q : ByteArray) : OwnS (w.alloc (.cells #[.string p, .string q] 9)) w.heap.size (some ⟨w.heap.size, 0, none⟩) 2 2 [p, q] := OwnS.lit w [p, q] 2 rfl (by omega)
theorem OwnS.three (w : World) (p q r : ByteArray) : OwnS (w.alloc (.cells #[.string p, .string q, .string r] 9)) w.heap.size (some ⟨w.heap.size, 0, none⟩) 3 3 [p, q, r] := OwnS.lit w [p, q, r] 3 rfl (by omega)

theorem all2 {P : ByteArray → Prop} {p q : ByteArray} (hp : P p) (hq : P q) : ∀ u ∈ [p, q], P u := by
  intro u hu
  rcases List.mem_cons.1 hu with rfl | hu
  · exact hp
  · rcases List.mem_cons.1 hu with rfl | hu
    · exact hq
    · cases hu
theorem all3 {P : ByteArray → Prop} {p q r : ByteArray} (hp : P p) (hq : P q) (hr : P r) : ∀ u ∈ [p, q, r], P u := by
  intro u hu
  rcases List.mem_cons.1 hu with rfl | hu
  · exact hp
  · exact all2 hq hr u hu

set_option maxHeartbeats 4000000 in
theorem l91Expr_any {rb k : Nat} {w : World} (h : Rd w rb k) (hk : k ≤ 900000 - 100) :
    Calls Try.prog 61 #[.pointer (some ⟨rb, 0, none⟩)] w (StrR w rb (k + 20) 0 100) := by
  have hrb := h.lt
  go_enter Try.func61, Try.ntmps61
  go_wp2_with fail
  refine (pick_any h (by omega) (by omega) (by omega)).mono ?_; rintro e w1 ⟨x, rfl, hx0, hx1, hr1, he1⟩
  have hrb1 := hr1.lt
  by_cases x0 : x = 0
  · subst x0
    go_wp2_with fail
    refine (l91Leaf_any hr1 (by omega)).mono ?_; rintro e w2 ⟨s, rfl, s1, s2, hr2, he2⟩
    have hr := hr2.more (k' := k + 15) (by omega)
    have he := he1.trans he2
    have s3 : s.size ≤ 30 := by omega
    clear hr2 s2 he1 he2 hr1 h
    go_wp2_with fail
    refine (pick_any hr (by omega) (by omega) (by omega)).mono ?_; rintro e w6 ⟨y, rfl, hy0, hy1, hr6, he6⟩
    by_cases y0 : y = 0
    · subst y0
      go_wp2_with fail
      refine (pick_any hr6 (by omega) (by omega) (by omega)).mono ?_; rintro e w7 ⟨z, rfl, hz0, hz1, hr7, he7⟩
      obtain ⟨i, rfl⟩ := Int.eq_ofNat_of_zero_le hz0
      have his : i < s.size := by omega
      have heT := (he.trans he6).trans he7
      have hE1 : (s.extract 0 i).size ≤ 30 := by rw [take_size s i (by omega)]; omega
      have hE2 : (s.extract (i + 1) s.size).size ≤ 30 := by rw [drop_size]; omega
      have HX := Lib.hid (show Ext none w7 ((w7.alloc (.cells ([bs [48], bs [40], bs [41], bs [44], bs [55], bs []].map Value.string).toArray 9)).drew) from ((Ext.refl _ _).alloc _).drew)
      have h7 := Lib.hid (hr7.ext HX.out)
      have ho7 := Lib.hid (show OwnS ((w7.alloc (.cells ([bs [48], bs [40], bs [41], bs [44], bs [55], bs []].map Value.string).toArray 9)).drew) w7.heap.size (some ⟨w7.heap.size, 0, none⟩) 6 6 [bs [48], bs [40], bs [41], bs [44], bs [55], bs []] from OwnS.lit w7 [bs [48], bs [40], bs [41], bs [44], bs [55], bs []] 6 rfl (by omega))
      have HP := Lib.hid (show ∀ p ∈ [bs [48], bs [40], bs [41], bs [44], bs [55], bs []], 0 ≤ p.size ∧ p.size ≤ 1 from by decide)
      have hrb7 := hr7.lt
      have q1 : IntKind.i64.wrap ((i : Int) + 1) = (i : Int) + 1 := IntWalk.i64_in _ (by omega)
      have q2 : (0 : Int) ≤ (i : Int) + 1 := by omega
      have q3 : ((i : Int) + 1).toNat = i + 1 := by omega
      have q4 : (i : Int) + 1 ≤ (s.size : Int) := by omega
      have q5 : (i : Int) ≤ (s.size : Int) := by omega
      have q6 : i ≤ s.size := by omega
      have q7 : i + 1 ≤ s.size := by omega
      have Z1 := Lib.hid hz1
      have HE := Lib.hid heT
      clear hr hr6 hr7 he he6 he7 hz0 hz1 heT
      go_wp2_with fail
      go_region_with (go_at_call 90; refine (of_any h7.out (by omega) ho7.out hrb7 (by omega) (by omega) HP.out).mono ?_; rintro e w8 ⟨u, rfl, u0, u1, hr8, he8⟩; have hE3 : (s.extract 0 i ++ u).size ≤ 31 := (by rw [cat_size]; omega))
      have hfin := Lib.hid (show (s.extract 0 i ++ u ++ s.extract (i + 1) s.size).size ≤ 100 from by rw [cat_size]; omega)
      go_wp2_with fail
      go_ret
      exact ⟨_, rfl, Nat.zero_le _, hfin.out, hr8.more (by omega), HE.out.trans (HX.out.weak.trans he8)⟩
    · have yb : (y == 0) = false := by rw [beq_eq_false_iff_ne]; exact y0
      go_wp2_with fail
      go_ret
      exact ⟨s, rfl, by omega, by omega, hr6.more (by omega), he.trans he6⟩
  by_cases x1 : x = 1
  · subst x1
    have ho := OwnS.lit w1 [bs [50, 40, 49, 44, 50, 44, 51, 41], bs [51, 40, 49, 44, 50, 44, 51, 44, 52, 44, 53, 41], bs [50, 40, 49, 40, 49, 44, 50, 41, 44, 49, 40, 51, 44, 52, 41, 41], bs [49, 40, 50, 40, 49, 44, 50, 41, 44, 50, 40, 51, 44, 52, 41, 41], bs [50, 40, 50, 40, 49, 44, 50, 44, 51, 41, 44, 50, 40, 52, 44, 53, 44, 54, 41, 41]] 5 rfl (by omega)
    have hx : Ext none w1 (w1.alloc (.cells ([bs [50, 40, 49, 44, 50, 44, 51, 41], bs [51, 40, 49, 44, 50, 44, 51, 44, 52, 44, 53, 41], bs [50, 40, 49, 40, 49, 44, 50, 41, 44, 49, 40, 51, 44, 52, 41, 41], bs [49, 40, 50, 40, 49, 44, 50, 41, 44, 50, 40, 51, 44, 52, 41, 41], bs [50, 40, 50, 40, 49, 44, 50, 44, 51, 41, 44, 50, 40, 52, 44, 53, 44, 54, 41, 41]].map Value.string).toArray 9)) := (Ext.refl _ _).alloc _
    have h' := hr1.ext hx
    have hp : ∀ p ∈ [bs [50, 40, 49, 44, 50, 44, 51, 41], bs [51, 40, 49, 44, 50, 44, 51, 44, 52, 44, 53, 41], bs [50, 40, 49, 40, 49, 44, 50, 41, 44, 49, 40, 51, 44, 52, 41, 41], bs [49, 40, 50, 40, 49, 44, 50, 41, 44, 50, 40, 51, 44, 52, 41, 41], bs [50, 40, 50, 40, 49, 44, 50, 44, 51, 41, 44, 50, 40, 52, 44, 53, 44, 54, 41, 41]], 1 ≤ p.size ∧ p.size ≤ 25 := by decide
    have HX := Lib.hid hx
    have HP := Lib.hid hp
    clear hx hp
    go_wp2_with fail
    refine (of_any h' (by omega) ho hrb1 (by omega) (by omega) HP.out).mono ?_; rintro e w2 ⟨s, rfl, s1, s2, hr2, he2⟩
    have hr := hr2.more (k' := k + 15) (by omega)
    have he := he1.trans (HX.out.weak.trans he2)
    have s3 : s.size ≤ 30 := by omega
    clear hr2 s2 he1 he2 hr1 h ho h'
    go_wp2_with fail
    refine (pick_any hr (by omega) (by omega) (by omega)).mono ?_; rintro e w6 ⟨y, rfl, hy0, hy1, hr6, he6⟩
    by_cases y0 : y = 0
    · subst y0
      go_wp2_with fail
      refine (pick_any hr6 (by omega) (by omega) (by omega)).mono ?_; rintro e w7 ⟨z, rfl, hz0, hz1, hr7, he7⟩
      obtain ⟨i, rfl⟩ := Int.eq_ofNat_of_zero_le hz0
      have his : i < s.size := by omega
      have heT := (he.trans he6).trans he7
      have hE1 : (s.extract 0 i).size ≤ 30 := by rw [take_size s i (by omega)]; omega
      have hE2 : (s.extract (i + 1) s.size).size ≤ 30 := by rw [drop_size]; omega
      have HX := Lib.hid (show Ext none w7 ((w7.alloc (.cells ([bs [48], bs [40], bs [41], bs [44], bs [55], bs []].map Value.string).toArray 9)).drew) from ((Ext.refl _ _).alloc _).drew)
      have h7 := Lib.hid (hr7.ext HX.out)
      have ho7 := Lib.hid (show OwnS ((w7.alloc (.cells ([bs [48], bs [40], bs [41], bs [44], bs [55], bs []].map Value.string).toArray 9)).drew) w7.heap.size (some ⟨w7.heap.size, 0, none⟩) 6 6 [bs [48], bs [40], bs [41], bs [44], bs [55], bs []] from OwnS.lit w7 [bs [48], bs [40], bs [41], bs [44], bs [55], bs []] 6 rfl (by omega))
      have HP := Lib.hid (show ∀ p ∈ [bs [48], bs [40], bs [41], bs [44], bs [55], bs []], 0 ≤ p.size ∧ p.size ≤ 1 from by decide)
      have hrb7 := hr7.lt
      have q1 : IntKind.i64.wrap ((i : Int) + 1) = (i : Int) + 1 := IntWalk.i64_in _ (by omega)
      have q2 : (0 : Int) ≤ (i : Int) + 1 := by omega
      have q3 : ((i : Int) + 1).toNat = i + 1 := by omega
      have q4 : (i : Int) + 1 ≤ (s.size : Int) := by omega
      have q5 : (i : Int) ≤ (s.size : Int) := by omega
      have q6 : i ≤ s.size := by omega
      have q7 : i + 1 ≤ s.size := by omega
      have Z1 := Lib.hid hz1
      have HE := Lib.hid heT
      clear hr hr6 hr7 he he6 he7 hz0 hz1 heT
      go_wp2_with fail
      go_region_with (go_at_call 90; refine (of_any h7.out (by omega) ho7.out hrb7 (by omega) (by omega) HP.out).mono ?_; rintro e w8 ⟨u, rfl, u0, u1, hr8, he8⟩; have hE3 : (s.extract 0 i ++ u).size ≤ 31 := (by rw [cat_size]; omega))
      have hfin := Lib.hid (show (s.extract 0 i ++ u ++ s.extract (i + 1) s.size).size ≤ 100 from by rw [cat_size]; omega)
      go_wp2_with fail
      go_ret
      exact ⟨_, rfl, Nat.zero_le _, hfin.out, hr8.more (by omega), HE.out.trans (HX.out.weak.trans he8)⟩
    · have yb : (y == 0) = false := by rw [beq_eq_false_iff_ne]; exact y0
      go_wp2_with fail
      go_ret
      exact ⟨s, rfl, by omega, by omega, hr6.more (by omega), he.trans he6⟩
  have b0 : (x == 0) = false := by rw [beq_eq_false_iff_ne]; exact x0
  have b1 : (x == 1) = false := by rw [beq_eq_false_iff_ne]; exact x1
  by_cases x23 : x = 2 ∨ x = 3
  · have b23 : (x == 2) = true ∨ ((x == 2) = false ∧ (x == 3) = true) := by
      rcases x23 with rfl | rfl
      · exact .inl rfl
      · exact .inr ⟨rfl, rfl⟩
    clear x0 x1 x23
    rcases b23 with b2 | ⟨b2, b3⟩
    all_goals
      go_wp2_with fail
      refine (l91Leaf_any hr1 (by omega)).mono ?_; rintro e w2 ⟨p, rfl, p1, p2, hr2, he2⟩
      go_wp2_with fail
      refine (l91Leaf_any hr2 (by omega)).mono ?_; rintro e w3 ⟨q, rfl, q1, q2, hr3, he3⟩
      go_wp2_with fail
      refine (l91Leaf_any hr3 (by omega)).mono ?_; rintro e w4 ⟨r, rfl, r1, r2, hr4, he4⟩
      have hal : Ext none w4 (w4.alloc (.cells #[.string p, .string q, .string r] 9)) := (Ext.refl _ _).alloc _
      have HAL := Lib.hid hal
      clear hal
      go_wp2_with fail
      refine (l91List_any (hi := 1) (hr4.ext HAL.out) (by omega) (OwnS.three w4 p q r) hr4.lt (by omega) (by omega) (by omega) (all3 ⟨p1, p2⟩ ⟨q1, q2⟩ ⟨r1, r2⟩)).mono ?_; rintro e w5 ⟨s, rfl, s1, s2, hr5, he5⟩
      have hr := hr5.more (k' := k + 15) (by omega)
      have he := ((((he1.trans he2).trans he3).trans he4).trans HAL.out.weak).trans he5
      have s3 : s.size ≤ 30 := by omega
      clear hr2 s2 he1 he2 hr1 h hr3 hr4 hr5 he3 he4 he5 HAL p1 p2 q1 q2 r1 r2
      go_wp2_with fail
      refine (pick_any hr (by omega) (by omega) (by omega)).mono ?_; rintro e w6 ⟨y, rfl, hy0, hy1, hr6, he6⟩
      by_cases y0 : y = 0
      · subst y0
        go_wp2_with fail
        refine (pick_any hr6 (by omega) (by omega) (by omega)).mono ?_; rintro e w7 ⟨z, rfl, hz0, hz1, hr7, he7⟩
        obtain ⟨i, rfl⟩ := Int.eq_ofNat_of_zero_le hz0
        have his : i < s.size := by omega
        have heT := (he.trans he6).trans he7
        have hE1 : (s.extract 0 i).size ≤ 30 := by rw [take_size s i (by omega)]; omega
        have hE2 : (s.extract (i + 1) s.size).size ≤ 30 := by rw [drop_size]; omega
        have HX := Lib.hid (show Ext none w7 ((w7.alloc (.cells ([bs [48], bs [40], bs [41], bs [44], bs [55], bs []].map Value.string).toArray 9)).drew) from ((Ext.refl _ _).alloc _).drew)
        have h7 := Lib.hid (hr7.ext HX.out)
        have ho7 := Lib.hid (show OwnS ((w7.alloc (.cells ([bs [48], bs [40], bs [41], bs [44], bs [55], bs []].map Value.string).toArray 9)).drew) w7.heap.size (some ⟨w7.heap.size, 0, none⟩) 6 6 [bs [48], bs [40], bs [41], bs [44], bs [55], bs []] from OwnS.lit w7 [bs [48], bs [40], bs [41], bs [44], bs [55], bs []] 6 rfl (by omega))
        have HP := Lib.hid (show ∀ p ∈ [bs [48], bs [40], bs [41], bs [44], bs [55], bs []], 0 ≤ p.size ∧ p.size ≤ 1 from by decide)
        have hrb7 := hr7.lt
        have q1 : IntKind.i64.wrap ((i : Int) + 1) = (i : Int) + 1 := IntWalk.i64_in _ (by omega)
        have q2 : (0 : Int) ≤ (i : Int) + 1 := by omega
        have q3 : ((i : Int) + 1).toNat = i + 1 := by omega
        have q4 : (i : Int) + 1 ≤ (s.size : Int) := by omega
        have q5 : (i : Int) ≤ (s.size : Int) := by omega
        have q6 : i ≤ s.size := by omega
        have q7 : i + 1 ≤ s.size := by omega
        have Z1 := Lib.hid hz1
        have HE := Lib.hid heT
        clear hr hr6 hr7 he he6 he7 hz0 hz1 heT
        go_wp2_with fail
        go_region_with (go_at_call 90; refine (of_any h7.out (by omega) ho7.out hrb7 (by omega) (by omega) HP.out).mono ?_; rintro e w8 ⟨u, rfl, u0, u1, hr8, he8⟩; have hE3 : (s.extract 0 i ++ u).size ≤ 31 := (by rw [cat_size]; omega))
        have hfin := Lib.hid (show (s.extract 0 i ++ u ++ s.extract (i + 1) s.size).size ≤ 100 from by rw [cat_size]; omega)
        go_wp2_with fail
        go_ret
        exact ⟨_, rfl, Nat.zero_le _, hfin.out, hr8.more (by omega), HE.out.trans (HX.out.weak.trans he8)⟩
      · have yb : (y == 0) = false := by rw [beq_eq_false_iff_ne]; exact y0
        go_wp2_with fail
        go_ret
        exact ⟨s, rfl, by omega, by omega, hr6.more (by omega), he.trans he6⟩
  · have b2 : (x == 2) = false := by rw [beq_eq_false_iff_ne]; exact fun e => x23 (.inl e)
    have b3 : (x == 3) = false := by rw [beq_eq_false_iff_ne]; exact fun e => x23 (.inr e)
    clear x0 x1 x23
    go_wp2_with fail
    refine (l91Leaf_any hr1 (by omega)).mono ?_; rintro e w2 ⟨p, rfl, p1, p2, hr2, he2⟩
    go_wp2_with fail
    refine (l91Leaf_any hr2 (by omega)).mono ?_; rintro e w3 ⟨q, rfl, q1, q2, hr3, he3⟩
    have HAL := Lib.hid (show Ext none w3 (w3.alloc (.cells #[.string p, .string q] 9)) from (Ext.refl _ _).alloc _)
    go_wp2_with fail
    refine (l91List_any (hi := 1) (hr3.ext HAL.out) (by omega) (OwnS.two w3 p q) hr3.lt (by omega) (by omega) (by omega) (all2 ⟨p1, p2⟩ ⟨q1, q2⟩)).mono ?_; rintro e w4 ⟨s, rfl, s1, s2, hr4, he4⟩
    have he14 := (((he1.trans he2).trans he3).trans HAL.out.weak).trans he4
    clear HAL hr1 hr2 hr3 he1 he2 he3 he4 h p1 p2 q1 q2
    go_wp2_with fail
    refine (l91Leaf_any hr4 (by omega)).mono ?_; rintro e w5 ⟨p, rfl, p1, p2, hr5, he5⟩
    go_wp2_with fail
    refine (l91Leaf_any hr5 (by omega)).mono ?_; rintro e w6 ⟨q, rfl, q1, q2, hr6, he6⟩
    go_wp2_with fail
    refine (l91Leaf_any hr6 (by omega)).mono ?_; rintro e w7 ⟨r, rfl, r1, r2, hr7, he7⟩
    have HAL := Lib.hid (show Ext none w7 (w7.alloc (.cells #[.string p, .string q, .string r] 9)) from (Ext.refl _ _).alloc _)
    go_wp2_with fail
    refine (l91List_any (hi := 1) (hr7.ext HAL.out) (by omega) (OwnS.three w7 p q r) hr7.lt (by omega) (by omega) (by omega) (all3 ⟨p1, p2⟩ ⟨q1, q2⟩ ⟨r1, r2⟩)).mono ?_; rintro e w8 ⟨t, rfl, t1, t2, hr8, he8⟩
    have he18 := ((((he14.trans he5).trans he6).trans he7).trans HAL.out.weak).trans he8
    clear HAL hr4 hr5 hr6 hr7 he14 he5 he6 he7 he8 p1 p2 q1 q2 r1 r2
    have HAL := Lib.hid (show Ext none w8 (w8.alloc (.cells #[.string s, .string t] 9)) from (Ext.refl _ _).alloc _)
    go_wp2_with fail
    refine (l91List_any (hi := 9) (hr8.ext HAL.out) (by omega) (OwnS.two w8 s t) hr8.lt (by omega) (by omega) (by omega) (all2 ⟨s1, by omega⟩ ⟨t1, by omega⟩)).mono ?_; rintro e w9 ⟨s', rfl, s1', s2', hr9, he9⟩
    have hr := hr9.more (k' := k + 15) (by omega)
    have he := (he18.trans HAL.out.weak).trans he9
    have s3 : s'.size ≤ 30 := by omega
    clear hr8 hr9 he18 he9 HAL s1 s2 t1 t2
    clear s2'
    obtain ⟨s, hs, s1, s3⟩ : ∃ s, s = s' ∧ 1 ≤ s.size ∧ s.size ≤ 30 := ⟨_, rfl, s1', s3⟩
    subst hs
    go_wp2_with fail
    refine (pick_any hr (by omega) (by omega) (by omega)).mono ?_; rintro e w6 ⟨y, rfl, hy0, hy1, hr6, he6⟩
    by_cases y0 : y = 0
    · subst y0
      go_wp2_with fail
      refine (pick_any hr6 (by omega) (by omega) (by omega)).mono ?_; rintro e w7 ⟨z, rfl, hz0, hz1, hr7, he7⟩
      obtain ⟨i, rfl⟩ := Int.eq_ofNat_of_zero_le hz0
      have his : i < s.size := by omega
      have heT := (he.trans he6).trans he7
      have hE1 : (s.extract 0 i).size ≤ 30 := by rw [take_size s i (by omega)]; omega
      have hE2 : (s.extract (i + 1) s.size).size ≤ 30 := by rw [drop_size]; omega
      have HX := Lib.hid (show Ext none w7 ((w7.alloc (.cells ([bs [48], bs [40], bs [41], bs [44], bs [55], bs []].map Value.string).toArray 9)).drew) from ((Ext.refl _ _).alloc _).drew)
      have h7 := Lib.hid (hr7.ext HX.out)
      have ho7 := Lib.hid (show OwnS ((w7.alloc (.cells ([bs [48], bs [40], bs [41], bs [44], bs [55], bs []].map Value.string).toArray 9)).drew) w7.heap.size (some ⟨w7.heap.size, 0, none⟩) 6 6 [bs [48], bs [40], bs [41], bs [44], bs [55], bs []] from OwnS.lit w7 [bs [48], bs [40], bs [41], bs [44], bs [55], bs []] 6 rfl (by omega))
      have HP := Lib.hid (show ∀ p ∈ [bs [48], bs [40], bs [41], bs [44], bs [55], bs []], 0 ≤ p.size ∧ p.size ≤ 1 from by decide)
      have hrb7 := hr7.lt
      have q1 : IntKind.i64.wrap ((i : Int) + 1) = (i : Int) + 1 := IntWalk.i64_in _ (by omega)
      have q2 : (0 : Int) ≤ (i : Int) + 1 := by omega
      have q3 : ((i : Int) + 1).toNat = i + 1 := by omega
      have q4 : (i : Int) + 1 ≤ (s.size : Int) := by omega
      have q5 : (i : Int) ≤ (s.size : Int) := by omega
      have q6 : i ≤ s.size := by omega
      have q7 : i + 1 ≤ s.size := by omega
      have Z1 := Lib.hid hz1
      have HE := Lib.hid heT
      clear hr hr6 hr7 he he6 he7 hz0 hz1 heT
      go_wp2_with fail
      go_region_with (go_at_call 90; refine (of_any h7.out (by omega) ho7.out hrb7 (by omega) (by omega) HP.out).mono ?_; rintro e w8 ⟨u, rfl, u0, u1, hr8, he8⟩; have hE3 : (s.extract 0 i ++ u).size ≤ 31 := (by rw [cat_size]; omega))
      have hfin := Lib.hid (show (s.extract 0 i ++ u ++ s.extract (i + 1) s.size).size ≤ 100 from by rw [cat_size]; omega)
      go_wp2_with fail
      go_ret
      exact ⟨_, rfl, Nat.zero_le _, hfin.out, hr8.more (by omega), HE.out.trans (HX.out.weak.trans he8)⟩
    · have yb : (y == 0) = false := by rw [beq_eq_false_iff_ne]; exact y0
      go_wp2_with fail
      go_ret
      exact ⟨s, rfl, by omega, by omega, hr6.more (by omega), he.trans he6⟩
end Go.Proofs.Ytnifgfnhcjhodaa
