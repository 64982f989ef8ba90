/- spec.DrawIntersectVerify. Conditions: each lemma's own. -/
import Derived.Test.YtnifgfnhcjhodaaQD
set_option linter.unusedVariables false
set_option linter.unusedSimpArgs false
namespace Go.Proofs.Ytnifgfnhcjhodaa
open Go.RowKit

/-- What l91Pair leaves: both families lie above the reader. -/
def PairO (w : World) (rb k : Nat) (e : Ending) (w' : World) : Prop :=
  ∃ a n c f b m d g, e = .returned (.tuple #[.slice a n c, .slice b m d]) ∧ OwnF w' (rb + 1) (rb + 1) a n c f ∧ n ≤ 80 ∧ OwnF w' (rb + 1) (rb + 1) b m d g ∧ m ≤ 80 ∧ Rd w' rb k ∧ Ext (some rb) w w'
set_option maxHeartbeats 1000000 in
theorem l91Pair_o {rb k : Nat} {w : World} (h : Rd w rb k) (hk : k ≤ 700000) :
    Calls Try.prog 28 #[.pointer (some ⟨rb, 0, none⟩)] w (PairO w rb (k + 90)) := by
  have hlt := Lib.hid h.lt
  go_enter Try.func28, Try.ntmps28
  go_wp2_with fail
  refine (l91Family_any h (by omega)).mono ?_; rintro e w1 ⟨a1, n1, c1, f, rfl, o1, hn1, r1, e1⟩
  have F1 := Lib.hid o1.famV
  have O1 := Lib.hid o1
  have R1 := Lib.hid r1
  have E1 := Lib.hid e1
  clear o1 r1 e1 h
  obtain ⟨q, hq⟩ : ∃ q, okT f = q := ⟨_, rfl⟩
  have HQ := Lib.hid hq
  have hsm := Lib.hid (small_transL f)
  clear hq
  go_wp2_with fail
  refine (sFamilyTransversals_r F1.out HQ.out).mono ?_; rintro e w2 ⟨a2, n2, c2, rfl, f2, e2⟩
  have hn2 : n2 ≤ 64 := by rw [← f2.len]; exact hsm.out.1
  have F2 := Lib.hid f2
  have F12 := Lib.hid (F1.out.ext e2)
  have R2 := Lib.hid (R1.out.ext e2)
  have E2 := Lib.hid (E1.out.trans e2.weak)
  have O2 := Lib.hid (O1.out.ext0 e2)
  have hlt1 := Lib.hid (Nat.lt_of_lt_of_le hlt.out E1.out.size)
  have e2s := Lib.hid e2.size
  clear f2 e2
  cases q
  · go_wp2_with fail
    refine (l91Family_any R2.out (by omega)).mono ?_; rintro e w3 ⟨a3, n3, c3, g, rfl, o3, hn3, r3, e3⟩
    go_wp2_with fail
    go_ret2
    have hs := E1.out.size
    exact ⟨_, _, _, _, _, _, _, _, rfl, (O2.out.ext e3 (fun j hj => by cases hj; exact ⟨hlt.out, hlt.out⟩)).mono hlt.out hlt.out, by omega, o3.mono (Nat.lt_of_lt_of_le hlt1.out e2s.out) (Nat.lt_of_lt_of_le hlt1.out e2s.out), by omega, Rd.more r3 (by omega), E2.out.trans e3⟩
  · go_wp2_with fail
    refine (pick_any R2.out (by omega) (by omega) (by omega)).mono ?_; rintro e w3 ⟨x, rfl, hx0, hx1, r3, e3⟩
    by_cases hp : x > 0
    · go_wp2_with fail
      go_ret2
      exact ⟨_, _, _, _, _, _, _, _, rfl, (O2.out.ext e3 (fun j hj => by cases hj; exact ⟨hlt.out, hlt.out⟩)).mono hlt.out hlt.out, by omega, (F2.out.ext e3 (fun j hj => by cases hj; exact ⟨hlt1.out, hlt1.out⟩)).mono hlt1.out hlt1.out, by omega, Rd.more r3 (by omega), E2.out.trans e3⟩
    · go_wp2_with fail
      refine (l91Family_any r3 (by omega)).mono ?_; rintro e w4 ⟨a4, n4, c4, g, rfl, o4, hn4, r4, e4⟩
      go_wp2_with fail
      go_ret2
      exact ⟨_, _, _, _, _, _, _, _, rfl, ((O2.out.ext e3 (fun j hj => by cases hj; exact ⟨hlt.out, hlt.out⟩)).ext e4 (fun j hj => by cases hj; exact ⟨hlt.out, hlt.out⟩)).mono hlt.out hlt.out, by omega, o4.mono (Nat.lt_of_lt_of_le hlt1.out (Nat.le_trans e2s.out e3.size)) (Nat.lt_of_lt_of_le hlt1.out (Nat.le_trans e2s.out e3.size)), by omega, Rd.more r4 (by omega), (E2.out.trans e3).trans e4⟩
theorem tail_ints {w : World} {g n o : Nat} {xs : List Int} (h : Ints w (some ⟨g, 0, none⟩) n xs) (h0 : 0 < n) (ho : o = 1 ∨ n - 1 = 0) :
    Ints w (some ⟨g, o, none⟩) (n - 1) ((xs.drop 1).take (n - 1)) := by
  unfold Ints
  rw [List.map_take, List.map_drop]
  refine At.part h (i := 1) (m := n - 1) (by omega) ?_
  rcases ho with rfl | h1
  · exact .inl rfl
  · exact .inr h1

/-- What DrawIntersectVerify leaves. -/
def F2IR (w : World) (e : Ending) (w' : World) : Prop :=
  ∃ a n c f b m d g k l z xs, e = .returned (.tuple #[.slice a n c, .slice b m d, .slice k l z]) ∧ FamV w' a n c f ∧ n ≤ 80 ∧ FamV w' b m d g ∧ m ≤ 80 ∧ Ints w' k l xs ∧ l ≤ 1000000 ∧ Ext none w w'
set_option maxRecDepth 20000 in
set_option maxHeartbeats 2000000 in
theorem DrawIntersectVerify_any {a : Option Addr} {n c : Nat} {w : World} (h : Bytes w a n c) :
    Calls Try.prog 15 #[.slice a n c] w (F2IR w) := by
  go_enter Try.func15, Try.ntmps15
  go_wp2_with fail
  refine (l6Open_any h).mono ?_; rintro e w1 ⟨rfl, r1, e1⟩
  obtain ⟨rb, hrb⟩ : ∃ rb, rb = w.heap.size := ⟨_, rfl⟩
  rw [← hrb] at r1 ⊢
  have HRB := Lib.hid hrb
  have hlt := Lib.hid r1.lt
  have R1 := Lib.hid r1
  have E1 := Lib.hid e1
  clear r1 e1 hrb
  go_wp2_with fail
  refine (l91Pair_o R1.out (by omega)).mono ?_; rintro e w2 ⟨a2, n2, c2, f, b2, m2, d2, g, rfl, hf, hn2, hg, hm2, r2, e2⟩
  have E2 := Lib.hid (show Ext none w w2 from E1.out.loc e2 (by rw [HRB.out]; exact Nat.le_refl _))
  have hlt2 := Lib.hid r2.lt
  have HF := Lib.hid hf
  have HG := Lib.hid hg
  have R2 := Lib.hid r2
  clear hf hg r2 e2 R1
  go_wp2_with fail
  refine (sIntersectCertify_any HF.out.fam HG.out.fam).mono ?_; rintro e w3 ⟨a3, n3, c3, xs, p, rfl, o3, hn3, e3⟩
  have X3 := Lib.hid (show Ext (some rb) w2 w3 from e3.weak)
  have R3 := Lib.hid (show Rd w3 rb 90 from (R2.out.ext e3).more (by omega))
  have O3 := Lib.hid o3
  have HS3 := Lib.hid e3.size
  have HB := Lib.hid (show rb < w2.heap.size from hlt2.out)
  have HB3 := Lib.hid R3.out.lt
  have HR := Lib.hid (show w.heap.size ≤ rb from by rw [HRB.out]; exact Nat.le_refl _)
  clear o3 e3 R2 HRB
  cases p
  · obtain ⟨q, hq⟩ : ∃ q, q = n2 * m2 := ⟨_, rfl⟩
    have hq4 : q ≤ 6400 := by rw [hq]; exact Nat.le_trans (Nat.mul_le_mul hn2 hm2) (by decide)
    have hmu : (n2 : Int) * (m2 : Int) = (q : Int) := by rw [hq]; exact (Int.natCast_mul _ _).symm
    clear hq O3
    have HX := Lib.hid (show Ext none w3 (w3.alloc (.cells #[] 3)) from (Ext.refl _ _).alloc _)
    have HO := Lib.hid (show OwnI (w3.alloc (.cells #[] 3)) w3.heap.size (some ⟨w3.heap.size, 0, none⟩) 0 0 [] from OwnI.made w3)
    go_wp2_with fail
    go_loopw [8, 10] (fun s i wr => ∃ (k : Nat) (a4 : Option Addr) (n4 c4 : Nat) (ys : List Int), k ≤ q ∧ i = .int .i64 (k : Nat) ∧ s = .slice a4 n4 c4 ∧ n4 = k ∧ OwnI wr w3.heap.size a4 n4 c4 ys ∧ Rd wr rb (90 + k) ∧ Ext (some rb) w3 wr)
      (fun _ i _ => q - (intOf i).toNat)
    case atStart => exact ⟨0, _, _, _, _, by omega, rfl, rfl, rfl, HO.out, R3.out.ext HX.out, HX.out.weak⟩
    case round =>
      obtain ⟨k, a4, n4, c4, ys, hk, rfl, rfl, rfl, ho, hr, he⟩ := hrel
      by_cases hlt' : n4 < q
      · go_wp2_with fail
        refine (pick_any hr (by omega) (by omega) (by omega)).mono ?_; rintro e w5 ⟨x5, rfl, h50, h51, r5, e5⟩
        have HO5 := Lib.hid (ho.ext e5 (fun k hk => by cases hk; exact HB3.out))
        have HR5 := Lib.hid r5
        have HE5 := Lib.hid (he.trans e5)
        have hs5 := (he.trans e5).size
        clear ho hr he e5 r5
        go_wp2_with (at_builtin; refine app_int _ rfl _ _ rfl w3.heap.size a4 n4 c4 _ HO5.out _ rfl rfl (by omega) hs5 ?_; intro g6 c6 w6 ho6 hg6)
        go_roundw
        case rel => exact ⟨n4 + 1, _, _, _, _, by omega, by go_num, rfl, rfl, ho6, HR5.out.grown hg6 (fun j hj => Nat.lt_of_lt_of_le HB3.out (HO5.out.block j hj)), HE5.out.grown hg6 (fun j hj => .inl (HO5.out.block j hj))⟩
        case measure => simp [intOf]; omega
      · obtain rfl : n4 = q := by omega
        have hn4 : n4 ≤ 6400 := hq4
        have O4 := Lib.hid (ho.mono HS3.out)
        have R4 := Lib.hid (hr.more (show 90 + n4 ≤ 7000 by omega))
        have X4 := Lib.hid (X3.out.trans he)
        clear ho hr he hlt' hk
        by_cases h0 : 0 < n4
        · have h0I : (0 : Int) < (n4 : Int) := by omega
          go_wp2_with fail
          refine (pick_any R4.out (by omega) (by omega) (by omega)).mono ?_; rintro e w5 ⟨x, rfl, hx0, hx1, r5, e5⟩
          have O5 := Lib.hid (O4.out.ext e5 (fun k hk => by cases hk; exact HB.out))
          have R5 := Lib.hid r5
          have X5 := Lib.hid (X4.out.trans e5)
          clear r5 e5 O4 R4 X4
          by_cases x0 : x = 0
          · subst x0
            go_wp2_with fail
            refine (pick_any R5.out (by omega) (by omega) (by omega)).mono ?_; rintro e w6 ⟨y, rfl, hy0, hy1, r6, e6⟩
            have R6 := Lib.hid r6
            have E6 := Lib.hid e6
            clear r6 e6
            go_wp2_with fail
            refine (pick_any R6.out (by omega) (by omega) (by omega)).mono ?_; rintro e w7 ⟨z, rfl, hz0, hz1, r7, e7⟩
            obtain ⟨v, rfl⟩ := Int.eq_ofNat_of_zero_le hy0
            have e57 := E6.out.trans e7
            have O7 := O5.out.ext e57 (fun k hk => by cases hk; exact HB.out)
            have X7 := Lib.hid (X5.out.trans e57)
            clear e7 e57 r7 O5 R5 X5 E6 R6
            have hv : v < n4 := by omega
            obtain ⟨g9, rfl, hg9⟩ := O7.form h0
            have hc9 := O7.cellAt v hv
            have hf9 := O7.frozenAt v
            obtain ⟨u9, hu9⟩ : ∃ u, u = ys.getD v 0 := ⟨_, rfl⟩
            rw [← hu9] at hc9
            have HS := Lib.hid (O7.set v z)
            clear hu9 O7
            go_wp2_with fail
            go_ret3
            have hXs := X7.out.set (p := ⟨g9, v, none⟩) (.inl hg9) (.int .i64 z)
            exact ⟨_, _, _, _, _, _, _, _, _, _, _, _, rfl, (HF.out.ext hXs (fun k hk => by cases hk; exact ⟨Nat.lt_succ_self _, Nat.lt_succ_self _⟩)).famV, hn2, (HG.out.ext hXs (fun k hk => by cases hk; exact ⟨Nat.lt_succ_self _, Nat.lt_succ_self _⟩)).famV, hm2, HS.out.1.ints, by omega, E2.out.loc hXs HR.out⟩
          · have b0 : (x == 0) = false := by rw [beq_eq_false_iff_ne]; exact x0
            by_cases x1 : x = 1
            · subst x1
              go_wp2_with fail
              refine (pick_any R5.out (by omega) (by omega) (by omega)).mono ?_; rintro e w6 ⟨y, rfl, hy0, hy1, r6, e6⟩
              have O6 := Lib.hid (O5.out.ext e6 (fun k hk => by cases hk; exact HB.out))
              have X6 := Lib.hid (X5.out.trans e6)
              have hcp := O6.out.cap
              obtain ⟨g9, rfl, hg9⟩ := O6.out.form h0
              clear r6 e6 O5 R5 X5
              by_cases y0 : y = 0
              · subst y0
                have h1 := hcp.1
                have h2 := hcp.2
                go_wp2_with fail
                go_region
                all_goals go_wp2_with fail
                all_goals
                  go_ret3
                  exact ⟨_, _, _, _, _, _, _, _, _, _, _, _, rfl, (HF.out.ext X6.out.drew (fun k hk => by cases hk; exact ⟨Nat.lt_succ_self _, Nat.lt_succ_self _⟩)).famV, hn2, (HG.out.ext X6.out.drew (fun k hk => by cases hk; exact ⟨Nat.lt_succ_self _, Nat.lt_succ_self _⟩)).famV, hm2, (tail_ints O6.out.ints h0 (by first | exact .inl rfl | exact .inr (by omega))).ext ((Ext.refl none _).drew), by omega, E2.out.loc X6.out.drew HR.out⟩
              · have c0 : (y == 0) = false := by rw [beq_eq_false_iff_ne]; exact y0
                go_wp2_with fail
                go_ret3
                exact ⟨_, _, _, _, _, _, _, _, _, _, _, _, rfl, (HF.out.ext X6.out (fun k hk => by cases hk; exact ⟨Nat.lt_succ_self _, Nat.lt_succ_self _⟩)).famV, hn2, (HG.out.ext X6.out (fun k hk => by cases hk; exact ⟨Nat.lt_succ_self _, Nat.lt_succ_self _⟩)).famV, hm2, O6.out.ints, by omega, E2.out.loc X6.out HR.out⟩
            · have b1 : (x == 1) = false := by rw [beq_eq_false_iff_ne]; exact x1
              go_wp2_with fail
              go_ret3
              exact ⟨_, _, _, _, _, _, _, _, _, _, _, _, rfl, (HF.out.ext X5.out (fun k hk => by cases hk; exact ⟨Nat.lt_succ_self _, Nat.lt_succ_self _⟩)).famV, hn2, (HG.out.ext X5.out (fun k hk => by cases hk; exact ⟨Nat.lt_succ_self _, Nat.lt_succ_self _⟩)).famV, hm2, O5.out.ints, by omega, E2.out.loc X5.out HR.out⟩
        · obtain rfl : n4 = 0 := by omega
          go_wp2_with fail
          go_ret3
          exact ⟨_, _, _, _, _, _, _, _, _, _, _, _, rfl, (HF.out.ext X4.out (fun k hk => by cases hk; exact ⟨Nat.lt_succ_self _, Nat.lt_succ_self _⟩)).famV, hn2, (HG.out.ext X4.out (fun k hk => by cases hk; exact ⟨Nat.lt_succ_self _, Nat.lt_succ_self _⟩)).famV, hm2, O4.out.ints, by omega, E2.out.loc X4.out HR.out⟩
  · have hn4 : n3 ≤ 6400 := by omega
    have O4 := Lib.hid O3.out
    have R4 := Lib.hid (R3.out.more (show 90 ≤ 7000 by omega))
    have X4 := Lib.hid X3.out
    by_cases h0 : 0 < n3
    · have h0I : (0 : Int) < (n3 : Int) := by omega
      go_wp2_with fail
      refine (pick_any R4.out (by omega) (by omega) (by omega)).mono ?_; rintro e w5 ⟨x, rfl, hx0, hx1, r5, e5⟩
      have O5 := Lib.hid (O4.out.ext e5 (fun k hk => by cases hk; exact HB.out))
      have R5 := Lib.hid r5
      have X5 := Lib.hid (X4.out.trans e5)
      clear r5 e5 O4 R4 X4
      by_cases x0 : x = 0
      · subst x0
        go_wp2_with fail
        refine (pick_any R5.out (by omega) (by omega) (by omega)).mono ?_; rintro e w6 ⟨y, rfl, hy0, hy1, r6, e6⟩
        have R6 := Lib.hid r6
        have E6 := Lib.hid e6
        clear r6 e6
        go_wp2_with fail
        refine (pick_any R6.out (by omega) (by omega) (by omega)).mono ?_; rintro e w7 ⟨z, rfl, hz0, hz1, r7, e7⟩
        obtain ⟨v, rfl⟩ := Int.eq_ofNat_of_zero_le hy0
        have e57 := E6.out.trans e7
        have O7 := O5.out.ext e57 (fun k hk => by cases hk; exact HB.out)
        have X7 := Lib.hid (X5.out.trans e57)
        clear e7 e57 r7 O5 R5 X5 E6 R6
        have hv : v < n3 := by omega
        obtain ⟨g9, rfl, hg9⟩ := O7.form h0
        have hc9 := O7.cellAt v hv
        have hf9 := O7.frozenAt v
        obtain ⟨u9, hu9⟩ : ∃ u, u = xs.getD v 0 := ⟨_, rfl⟩
        rw [← hu9] at hc9
        have HS := Lib.hid (O7.set v z)
        clear hu9 O7
        go_wp2_with fail
        go_ret3
        have hXs := X7.out.set (p := ⟨g9, v, none⟩) (.inl hg9) (.int .i64 z)
        exact ⟨_, _, _, _, _, _, _, _, _, _, _, _, rfl, (HF.out.ext hXs (fun k hk => by cases hk; exact ⟨Nat.lt_succ_self _, Nat.lt_succ_self _⟩)).famV, hn2, (HG.out.ext hXs (fun k hk => by cases hk; exact ⟨Nat.lt_succ_self _, Nat.lt_succ_self _⟩)).famV, hm2, HS.out.1.ints, by omega, E2.out.loc hXs HR.out⟩
      · have b0 : (x == 0) = false := by rw [beq_eq_false_iff_ne]; exact x0
        by_cases x1 : x = 1
        · subst x1
          go_wp2_with fail
          refine (pick_any R5.out (by omega) (by omega) (by omega)).mono ?_; rintro e w6 ⟨y, rfl, hy0, hy1, r6, e6⟩
          have O6 := Lib.hid (O5.out.ext e6 (fun k hk => by cases hk; exact HB.out))
          have X6 := Lib.hid (X5.out.trans e6)
          have hcp := O6.out.cap
          obtain ⟨g9, rfl, hg9⟩ := O6.out.form h0
          clear r6 e6 O5 R5 X5
          by_cases y0 : y = 0
          · subst y0
            have h1 := hcp.1
            have h2 := hcp.2
            go_wp2_with fail
            go_region
            all_goals go_wp2_with fail
            all_goals
              go_ret3
              exact ⟨_, _, _, _, _, _, _, _, _, _, _, _, rfl, (HF.out.ext X6.out.drew (fun k hk => by cases hk; exact ⟨Nat.lt_succ_self _, Nat.lt_succ_self _⟩)).famV, hn2, (HG.out.ext X6.out.drew (fun k hk => by cases hk; exact ⟨Nat.lt_succ_self _, Nat.lt_succ_self _⟩)).famV, hm2, (tail_ints O6.out.ints h0 (by first | exact .inl rfl | exact .inr (by omega))).ext ((Ext.refl none _).drew), by omega, E2.out.loc X6.out.drew HR.out⟩
          · have c0 : (y == 0) = false := by rw [beq_eq_false_iff_ne]; exact y0
            go_wp2_with fail
            go_ret3
            exact ⟨_, _, _, _, _, _, _, _, _, _, _, _, rfl, (HF.out.ext X6.out (fun k hk => by cases hk; exact ⟨Nat.lt_succ_self _, Nat.lt_succ_self _⟩)).famV, hn2, (HG.out.ext X6.out (fun k hk => by cases hk; exact ⟨Nat.lt_succ_self _, Nat.lt_succ_self _⟩)).famV, hm2, O6.out.ints, by omega, E2.out.loc X6.out HR.out⟩
        · have b1 : (x == 1) = false := by rw [beq_eq_false_iff_ne]; exact x1
          go_wp2_with fail
          go_ret3
          exact ⟨_, _, _, _, _, _, _, _, _, _, _, _, rfl, (HF.out.ext X5.out (fun k hk => by cases hk; exact ⟨Nat.lt_succ_self _, Nat.lt_succ_self _⟩)).famV, hn2, (HG.out.ext X5.out (fun k hk => by cases hk; exact ⟨Nat.lt_succ_self _, Nat.lt_succ_self _⟩)).famV, hm2, O5.out.ints, by omega, E2.out.loc X5.out HR.out⟩
    · obtain rfl : n3 = 0 := by omega
      go_wp2_with fail
      go_ret3
      exact ⟨_, _, _, _, _, _, _, _, _, _, _, _, rfl, (HF.out.ext X4.out (fun k hk => by cases hk; exact ⟨Nat.lt_succ_self _, Nat.lt_succ_self _⟩)).famV, hn2, (HG.out.ext X4.out (fun k hk => by cases hk; exact ⟨Nat.lt_succ_self _, Nat.lt_succ_self _⟩)).famV, hm2, O4.out.ints, by omega, E2.out.loc X4.out HR.out⟩
end Go.Proofs.Ytnifgfnhcjhodaa
