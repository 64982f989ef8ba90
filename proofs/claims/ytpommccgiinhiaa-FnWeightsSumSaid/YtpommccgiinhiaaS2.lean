/- The member sets of package spec, second part. Conditions: each lemma's own. -/
import Derived.Test.YtpommccgiinhiaaS1
namespace Go.Proofs.Ytpommccgiinhiaa
open Go.RowKit
set_option linter.unusedVariables false

set_option maxHeartbeats 1000000 in
theorem sSetIntersect_any {a : Option Addr} {n cp : Nat} {xs : List Int} {b : Option Addr} {m cq : Nat} {ys : List Int} {w : World} (hx : Ints w a n xs) (hy : Ints w b m ys) :
    Calls Try.prog 12 #[.slice a n cp, .slice b m cq] w (RI w none (interL xs ys)) := by
  cases hv : valid xs
  · have e := Lib.hid (show interL xs ys = [] from by unfold interL; rw [hv]; rfl)
    go_enter Try.func12, Try.ntmps12
    go_wp2_with fail
    refine (sSetValid_any hx).mono ?_; rintro e w1 ⟨rfl, hd⟩
    go_wp2_with fail
    go_ret
    exact ⟨_, 0, 0, rfl, by rw [e.out]; exact (OwnI.made w1).mono (hd.ext (r := none)).size, (hd.ext).alloc _⟩
  · cases hu : valid ys
    · have e := Lib.hid (show interL xs ys = [] from by unfold interL; rw [hv, hu]; rfl)
      go_enter Try.func12, Try.ntmps12
      go_wp2_with fail
      refine (sSetValid_any hx).mono ?_; rintro e w1 ⟨rfl, hd⟩
      go_wp2_with fail
      refine (sSetValid_any (hy.ext hd.ext)).mono ?_; rintro e w2 ⟨rfl, hd2⟩
      go_wp2_with fail
      go_ret
      have hd3 := hd.trans hd2
      exact ⟨_, 0, 0, rfl, by rw [e.out]; exact (OwnI.made w2).mono (hd3.ext (r := none)).size, (hd3.ext).alloc _⟩
    · have e := Lib.hid (show interL xs ys = intB xs ys from by unfold interL; rw [hv, hu, intB_valid hv hu]; rfl)
      have hn : n < 1000000 := by have := valid_len hv; rw [hx.len] at this; omega
      go_enter Try.func12, Try.ntmps12
      go_wp2_with fail
      refine (sSetValid_any hx).mono ?_; rintro e w1 ⟨rfl, hd⟩
      go_wp2_with fail
      refine (sSetValid_any (hy.ext hd.ext)).mono ?_; rintro e w2 ⟨rfl, hd2⟩
      have hd3 := hd.trans hd2
      go_wp2_with fail
      refine (l1Intersect_any (hx.ext hd3.ext) (hy.ext hd3.ext) hn).mono ?_; rintro e w3 ⟨a3, n3, c3, rfl, ho, hx3⟩
      go_wp2_with fail
      go_ret
      exact ⟨_, _, _, rfl, by rw [e.out]; exact ho.mono (hd3.ext (r := none)).size, hd3.ext.trans hx3⟩

set_option maxHeartbeats 1000000 in
theorem sSetSubset_any {a : Option Addr} {n cp : Nat} {xs : List Int} {b : Option Addr} {m cq : Nat} {ys : List Int} {w : World} (hx : Ints w a n xs) (hy : Ints w b m ys) :
    Calls Try.prog 26 #[.slice a n cp, .slice b m cq] w fun e w' => e = .returned (.bool (subsetL xs ys)) ∧ Dr w w' := by
  cases hv : valid xs
  · have e := Lib.hid (show subsetL xs ys = false from by unfold subsetL; rw [hv]; rfl)
    go_enter Try.func26, Try.ntmps26
    go_wp2_with fail
    refine (sSetValid_any hx).mono ?_; rintro e w1 ⟨rfl, hd⟩
    go_wp2_with fail
    go_ret
    exact ⟨by rw [e.out]; rfl, hd⟩
  · cases hu : valid ys
    · have e := Lib.hid (show subsetL xs ys = false from by unfold subsetL; rw [hv, hu]; rfl)
      go_enter Try.func26, Try.ntmps26
      go_wp2_with fail
      refine (sSetValid_any hx).mono ?_; rintro e w1 ⟨rfl, hd⟩
      go_wp2_with fail
      refine (sSetValid_any (hy.ext hd.ext)).mono ?_; rintro e w2 ⟨rfl, hd2⟩
      go_wp2_with fail
      go_ret
      exact ⟨by rw [e.out]; rfl, hd.trans hd2⟩
    · have e := Lib.hid (show subsetL xs ys = subB xs ys from by unfold subsetL; rw [hv, hu, subB_valid hv hu]; rfl)
      go_enter Try.func26, Try.ntmps26
      go_wp2_with fail
      refine (sSetValid_any hx).mono ?_; rintro e w1 ⟨rfl, hd⟩
      go_wp2_with fail
      refine (sSetValid_any (hy.ext hd.ext)).mono ?_; rintro e w2 ⟨rfl, hd2⟩
      have hd3 := hd.trans hd2
      go_wp2_with fail
      refine (l1Subset_any (hx.ext hd3.ext) (hy.ext hd3.ext)).mono ?_; rintro e w3 ⟨rfl, rfl⟩
      go_wp2_with fail
      go_ret
      exact ⟨by rw [e.out]; rfl, hd3⟩

set_option maxHeartbeats 400000 in
theorem l1Masks_any {w : World} : Calls Try.prog 44 #[] w fun e w' => e = .returned (.int .i64 64) ∧ w = w' := by
  go_enter Try.func44, Try.ntmps44
  go_wp2_with fail
  refine wp_loop_rounds 7 ?_
  iterate 7 (rw [rounds_succ]; go_wp2_with fail)
  go_ret
  exact ⟨rfl, rfl⟩

set_option maxHeartbeats 1000000 in
theorem l1OfMask_any {c : Nat} {w : World} (hc : c < 64) :
    Calls Try.prog 43 #[.int .i64 c] w (RI w none (mem c)) := by
  go_enter Try.func43, Try.ntmps43
  go_wp2_with fail
  go_loopw [0, 3, 4] (fun q v i wr => ∃ (k : Nat) (a : Option Addr) (n cp : Nat), k ≤ 6 ∧ i = .int .i64 ((k : Int) + 1) ∧ v = .slice a n cp ∧ q = .int .i64 ((c / 2 ^ k : Nat) : Int) ∧ OwnI wr w.heap.size a n cp (memTo c k) ∧ Ext none w wr)
    (fun _ _ i _ => 7 - (intOf i).toNat)
  case atStart => exact ⟨0, _, 0, 0, by omega, rfl, rfl, by simp, OwnI.made w, (Ext.refl _ _).alloc _⟩
  case round =>
    obtain ⟨k, a, n, cp, hk, rfl, rfl, rfl, hown, hx⟩ := hrel
    by_cases hlt : k < 6
    · have hs := Lib.hid (memTo_step c k hlt)
      have hn : n ≤ 6 := by have := memTo_len c k; rw [hown.len] at this; exact this
      have hh := memTo_half c k hlt
      have hdiv := Lib.hid (show c / 2 ^ (k + 1) = c / 2 ^ k / 2 from by rw [Nat.pow_succ, Nat.div_div_eq_div_mul])
      have hle : c / 2 ^ k ≤ c := Nat.div_le_self _ _
      obtain ⟨d, hd⟩ : ∃ d, d = c / 2 ^ k := ⟨_, rfl⟩
      rw [← hd] at hle hh ⊢
      have HD := Lib.hid hd
      clear hd
      by_cases hb : d % 2 = 1
      · rw [hb] at hh
        have HH := Lib.hid hh
        clear hh
        have hbI : ((d : Int) % 2 == 1) = true := by rw [beq_iff_eq]; omega
        go_wp2_with (at_builtin; refine app_int _ rfl _ _ rfl w.heap.size a n cp _ hown _ rfl rfl (by omega) hx.size ?_; intro g c' w1 hown1 hg1)
        go_roundw
        case rel => exact ⟨k + 1, _, _, _, by omega, by go_num, rfl, by rw [hdiv.out, ← HD.out]; go_num, by rw [hs.out, HH.out]; exact hown1, hx.grown hg1 (fun j hj => .inl (hown.block j hj))⟩
        case measure => simp [intOf]; omega
      · have HH := Lib.hid (show has c ((k : Int) + 1) = false from by rw [hh]; simp [hb])
        clear hh
        have hbI : ((d : Int) % 2 == 1) = false := by rw [beq_eq_false_iff_ne]; omega
        go_wp2_with fail
        go_roundw
        case rel => exact ⟨k + 1, a, n, cp, by omega, by go_num, rfl, by rw [hdiv.out, ← HD.out]; go_num, by rw [hs.out, HH.out]; exact hown, hx⟩
        case measure => simp [intOf]; omega
    · obtain rfl : k = 6 := by omega
      go_wp2_with fail
      go_ret
      exact ⟨a, n, cp, rfl, hown, hx⟩
end Go.Proofs.Ytpommccgiinhiaa
