/- The quorum systems of package spec: FamilyHasQuorum, SetMinus, Survives, CriticalMembers, FamilyMinimize. Conditions: each lemma's own. -/
import Derived.Test.YtnlmcbilhfmenaaS9
import Derived.Test.YtnlmcbilhfmenaaF3
namespace Go.Proofs.Ytnlmcbilhfmenaa
open Go.RowKit
set_option linter.unusedVariables false

theorem sSetValid_is {a : Option Addr} {n cp : Nat} {xs : List Int} {w : World} {q : Bool} (h : Ints w a n xs) (hq : valid xs = q) :
    Calls Try.prog 32 #[.slice a n cp] w fun e w' => e = .returned (.bool q) ∧ Dr w w' := by
  rw [← hq]; exact sSetValid_any h
theorem sFamilyValid_is {a : Option Addr} {n cp : Nat} {f : List (List Int)} {w : World} {q : Bool} (h : Fam w a n f) (hq : famB f = q) :
    Calls Try.prog 26 #[.slice a n cp] w fun e w' => e = .returned (.bool q) ∧ Dr w w' := by
  rw [← hq]; exact sFamilyValid_any h

set_option maxHeartbeats 1000000 in
theorem sFamilyHasQuorum_any {a : Option Addr} {n cp : Nat} {f : List (List Int)} {b : Option Addr} {m cq : Nat} {s : List Int} {w : World} (h : Fam w a n f) (hs : Ints w b m s) :
    Calls Try.prog 30 #[.slice a n cp, .slice b m cq] w fun e w' => e = .returned (.bool (hasL f s)) ∧ Dr w w' := by
  cases hf : famB f
  · have hno := Lib.hid (show hasL f s = false from by unfold hasL; rw [hf]; rfl)
    go_enter Try.func30, Try.ntmps30
    go_wp2_with fail
    refine (sFamilyValid_is h hf).mono ?_; rintro e w1 ⟨rfl, hd⟩
    go_wp2_with fail
    go_ret
    exact ⟨retB hno.out, hd⟩
  · cases hv : valid s
    · have hno := Lib.hid (show hasL f s = false from by unfold hasL; rw [hf, hv]; rfl)
      go_enter Try.func30, Try.ntmps30
      go_wp2_with fail
      refine (sFamilyValid_is h hf).mono ?_; rintro e w1 ⟨rfl, hd⟩
      go_wp2_with fail
      refine (sSetValid_is (hs.ext hd.ext) hv).mono ?_; rintro e w2 ⟨rfl, hd2⟩
      go_wp2_with fail
      go_ret
      exact ⟨retB hno.out, hd.trans hd2⟩
    · have hyes := Lib.hid (show hasL f s = hasB f s from (hasB_hasL hf hv).symm)
      go_enter Try.func30, Try.ntmps30
      go_wp2_with fail
      refine (sFamilyValid_is h hf).mono ?_; rintro e w1 ⟨rfl, hd⟩
      go_wp2_with fail
      refine (sSetValid_is (hs.ext hd.ext) hv).mono ?_; rintro e w2 ⟨rfl, hd2⟩
      have hx := hd.ext.trans (hd2.ext (r := none))
      go_wp2_with fail
      refine (l3Has_any (h.ext hx) (hs.ext hx)).mono ?_; rintro e w_ ⟨rfl, rfl⟩
      go_wp2_with fail
      go_ret
      exact ⟨retB hyes.out, hd.trans hd2⟩

set_option maxHeartbeats 1000000 in
theorem sSetMinus_any {a : Option Addr} {n cp : Nat} {xs : List Int} {b : Option Addr} {m cq : Nat} {ys : List Int} {w : World} (hx : Ints w a n xs) (hy : Ints w b m ys) :
    Calls Try.prog 75 #[.slice a n cp, .slice b m cq] w (RI w none (minusL xs ys)) := by
  have he0 : Ext none w (w.alloc (.cells #[] 3)) := (Ext.refl _ _).alloc _
  cases hv : valid xs
  · have hno := Lib.hid (show minusL xs ys = [] from by unfold minusL; rw [hv]; rfl)
    go_enter Try.func75, Try.ntmps75
    go_wp2_with fail
    refine (sSetValid_is (hx.ext he0) hv).mono ?_; rintro e w1 ⟨rfl, hd⟩
    go_wp2_with fail
    go_ret
    exact ⟨_, _, _, rfl, by rw [hno.out]; exact (OwnI.made w).ext0 hd.ext, he0.trans hd.ext⟩
  · cases hu : valid ys
    · have hno := Lib.hid (show minusL xs ys = [] from by unfold minusL; rw [hv, hu]; rfl)
      go_enter Try.func75, Try.ntmps75
      go_wp2_with fail
      refine (sSetValid_is (hx.ext he0) hv).mono ?_; rintro e w1 ⟨rfl, hd⟩
      go_wp2_with fail
      refine (sSetValid_is ((hy.ext he0).ext hd.ext) hu).mono ?_; rintro e w2 ⟨rfl, hd2⟩
      go_wp2_with fail
      go_ret
      exact ⟨_, _, _, rfl, by rw [hno.out]; exact ((OwnI.made w).ext0 hd.ext).ext0 hd2.ext, (he0.trans hd.ext).trans hd2.ext⟩
    · have hyes := Lib.hid (show minusL xs ys = minB xs ys from by rw [minusL_yes hv hu, minB_valid hv hu])
      have hn6 : n ≤ 6 := by rw [← hx.len]; exact valid_len hv
      have hx0 := Lib.hid hx
      have hy0 := Lib.hid hy
      go_enter Try.func75, Try.ntmps75
      go_wp2_with fail
      refine (sSetValid_is (hx.ext he0) hv).mono ?_; rintro e w1 ⟨rfl, hd⟩
      go_wp2_with fail
      refine (sSetValid_is ((hy.ext he0).ext hd.ext) hu).mono ?_; rintro e w2 ⟨rfl, hd2⟩
      have ho2 := ((OwnI.made w).ext0 hd.ext).ext0 hd2.ext
      have he2 := (he0.trans hd.ext).trans (hd2.ext (r := none))
      go_wp2_with fail
      clear hx hy he0 hd hd2 hv hu
      go_loopw [5, 6] (fun v i wr => ∃ (k : Nat) (a2 : Option Addr) (n2 c2 : Nat), k ≤ n ∧ i = .int .i64 k ∧ v = .slice a2 n2 c2 ∧ OwnI wr w.heap.size a2 n2 c2 (minB (xs.take k) ys) ∧ Ext none w wr)
        (fun _ i _ => n - (intOf i).toNat)
      case atStart => exact ⟨0, _, _, _, by omega, rfl, rfl, ho2, he2⟩
      case round =>
        obtain ⟨k, a2, n2, c2, hk, rfl, rfl, ho, he⟩ := hrel
        have hx := hx0.out.ext he
        have hy := hy0.out.ext he
        by_cases hlt : k < n
        · have hl : k < xs.length := by rw [hx.len]; exact hlt
          have hs := Lib.hid (minB_step xs ys k hl)
          have hn : n2 ≤ 6 := by
            rw [← ho.len]; unfold minB
            exact Nat.le_trans (List.length_filter_le _ _) (by rw [List.length_take]; omega)
          obtain ⟨b1, off, rfl, hc⟩ := hx.cell hlt
          obtain ⟨x, hxx⟩ : ∃ x, x = xs.getD k 0 := ⟨_, rfl⟩
          rw [← hxx] at hc
          have HX := Lib.hid hxx
          clear hxx
          go_wp2_with fail
          refine (l1Contains_any hy).mono ?_; rintro e w_ ⟨rfl, rfl⟩
          cases ht : cont ys x
          · go_wp2_with (at_builtin; refine app_int _ rfl _ _ rfl w.heap.size a2 n2 c2 _ ho _ rfl rfl (by omega) he.size ?_; intro g c' w1 ho1 hg1)
            go_roundw
            case rel => exact ⟨k + 1, _, _, _, by omega, by go_num, rfl, by rw [hs.out, ← HX.out, ht]; exact ho1, he.grown hg1 (fun j hj => .inl (ho.block j hj))⟩
            case measure => simp [intOf]; omega
          · go_wp2_with fail
            go_roundw
            case rel => exact ⟨k + 1, _, _, _, by omega, by go_num, rfl, by rw [hs.out, ← HX.out, ht]; exact ho, he⟩
            case measure => simp [intOf]; omega
        · obtain rfl : k = n := by omega
          have hfin := Lib.hid (show xs.take k = xs from List.take_of_length_le (by rw [hx.len]; omega))
          go_wp2_with fail
          go_ret
          exact ⟨_, _, _, rfl, by rw [hyes.out, ← hfin.out]; rw [hfin.out]; rw [hfin.out] at ho; exact ho, he⟩

set_option maxHeartbeats 1000000 in
theorem sSurvives_any {a : Option Addr} {n cp : Nat} {f : List (List Int)} {b : Option Addr} {m cq : Nat} {s : List Int} {w : World} (h : Fam w a n f) (hs : Ints w b m s) :
    Calls Try.prog 42 #[.slice a n cp, .slice b m cq] w fun e w' => e = .returned (.bool (survL f s)) ∧ Ext none w w' := by
  cases hf : famB f
  · have hno := Lib.hid (show survL f s = false from by unfold survL; rw [hf]; rfl)
    go_enter Try.func42, Try.ntmps42
    go_wp2_with fail
    refine (sFamilyValid_is h hf).mono ?_; rintro e w1 ⟨rfl, hd⟩
    go_wp2_with fail
    go_ret
    exact ⟨retB hno.out, hd.ext⟩
  · cases hv : valid s
    · have hno := Lib.hid (show survL f s = false from by unfold survL; rw [hf, hv]; rfl)
      go_enter Try.func42, Try.ntmps42
      go_wp2_with fail
      refine (sFamilyValid_is h hf).mono ?_; rintro e w1 ⟨rfl, hd⟩
      go_wp2_with fail
      refine (sSetValid_is (hs.ext hd.ext) hv).mono ?_; rintro e w2 ⟨rfl, hd2⟩
      go_wp2_with fail
      go_ret
      exact ⟨retB hno.out, (hd.trans hd2).ext⟩
    · have hyes := Lib.hid (show survL f s = hasB f (minusL (mem 63) s) from by
        rw [surv_law hf hv, hasB_hasL hf]
        unfold minusL; split
        · exact mem_valid (dif_lt (mask_lt (mem_valid (by decide))))
        · rfl)
      go_enter Try.func42, Try.ntmps42
      go_wp2_with fail
      refine (sFamilyValid_is h hf).mono ?_; rintro e w1 ⟨rfl, hd⟩
      go_wp2_with fail
      refine (sSetValid_is (hs.ext hd.ext) hv).mono ?_; rintro e w2 ⟨rfl, hd2⟩
      have hx := hd.ext.trans (hd2.ext (r := none))
      go_wp2_with fail
      refine (l1Masks_any).mono ?_; rintro e w_ ⟨rfl, rfl⟩
      go_wp2_with fail
      refine (l1OfMask_any (c := 63) (by decide)).mono ?_; rintro e w3 ⟨a3, n3, c3, rfl, o3, e3⟩
      have i3 := o3.ints
      have hs3 := (hs.ext hx).ext e3
      have hf3 := (h.ext hx).ext e3
      have hx3 := hx.trans e3
      clear o3 e3 hx hd hd2
      go_wp2_with fail
      refine (sSetMinus_any i3 hs3).mono ?_; rintro e w4 ⟨a4, n4, c4, rfl, o4, e4⟩
      go_wp2_with fail
      refine (l3Has_any (hf3.ext e4) o4.ints).mono ?_; rintro e w_ ⟨rfl, rfl⟩
      go_wp2_with fail
      go_ret
      exact ⟨retB hyes.out, hx3.trans e4⟩
end Go.Proofs.Ytnlmcbilhfmenaa
