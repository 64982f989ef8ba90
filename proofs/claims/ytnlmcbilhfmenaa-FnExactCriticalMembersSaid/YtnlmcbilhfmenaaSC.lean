/- The quorum systems of package spec: FamilyEither, FamilyBoth, FamilyOfExpr, WeightsFamily. Conditions: each lemma's own. -/
import Derived.Test.YtnlmcbilhfmenaaSB
import Derived.Test.YtnlmcbilhfmenaaF5
import Derived.Test.YtnlmcbilhfmenaaS7
import Derived.Test.YtnlmcbilhfmenaaS3
namespace Go.Proofs.Ytnlmcbilhfmenaa
open Go.RowKit
set_option linter.unusedVariables false

theorem eitherL_no {f g : List (List Int)} (h : ok2 f g = false) : eitherL f g = [] := by unfold eitherL; rw [h]; rfl
theorem bothL_no {f g : List (List Int)} (h : ok2 f g = false) : bothL f g = [] := by unfold bothL; rw [h]; rfl
theorem ok2_no1 {f : List (List Int)} (g : List (List Int)) (h : famB f = false) : ok2 f g = false := by unfold ok2; rw [h]; rfl
theorem ok2_no2 (f : List (List Int)) {g : List (List Int)} (h : famB g = false) : ok2 f g = false := by unfold ok2; rw [h, Bool.and_false]

set_option maxHeartbeats 2000000 in
theorem sFamilyEither_any {a : Option Addr} {n cp : Nat} {f : List (List Int)} {b : Option Addr} {m cq : Nat} {g : List (List Int)} {w : World} (h : Fam w a n f) (hz : Nil0 a n cp) (h' : Fam w b m g) (hz' : Nil0 b m cq) :
    Calls Try.prog 49 #[.slice a n cp, .slice b m cq] w (RFB w (eitherL f g) (ok2 f g)) := by
  cases hf : famB f
  · have hno := Lib.hid (ok2_no1 g hf)
    have hno2 := Lib.hid (eitherL_no hno.out)
    go_enter Try.func49, Try.ntmps49
    go_wp2_with fail
    refine (sFamilyValid_is h hf).mono ?_; rintro e w1 ⟨rfl, hd⟩
    go_wp2_with fail
    go_ret2
    exact ⟨_, _, _, by rw [hno.out]; rfl, by rw [hno2.out]; exact (OwnF.made w1 _).mono (hd.ext (r := none)).size (Nat.le_refl _), hd.ext.alloc _⟩
  · cases hg : famB g
    · have hno := Lib.hid (ok2_no2 f hg)
      have hno2 := Lib.hid (eitherL_no hno.out)
      go_enter Try.func49, Try.ntmps49
      go_wp2_with fail
      refine (sFamilyValid_is h hf).mono ?_; rintro e w1 ⟨rfl, hd⟩
      go_wp2_with fail
      refine (sFamilyValid_is (h'.ext hd.ext) hg).mono ?_; rintro e w2 ⟨rfl, hd2⟩
      go_wp2_with fail
      go_ret2
      exact ⟨_, _, _, by rw [hno.out]; rfl, by rw [hno2.out]; exact (OwnF.made w2 _).mono ((hd.trans hd2).ext (r := none)).size (Nat.le_refl _), (hd.trans hd2).ext.alloc _⟩
    · have hyes := Lib.hid (ok2_both hf hg)
      have hyes2 := Lib.hid (eitherL_yes hyes.out)
      have hn20 : n ≤ 20 := by rw [← h.len]; exact famB_len hf
      have hm20 : m ≤ 20 := by rw [← h'.len]; exact famB_len hg
      have HZ := Lib.hid hz
      have HZ' := Lib.hid hz'
      clear hz hz'
      go_enter Try.func49, Try.ntmps49
      go_wp2_with fail
      refine (sFamilyValid_is h hf).mono ?_; rintro e w1 ⟨rfl, hd⟩
      go_wp2_with fail
      refine (sFamilyValid_is (h'.ext hd.ext) hg).mono ?_; rintro e w2 ⟨rfl, hd2⟩
      have hx := Lib.hid ((hd.trans hd2).ext (r := none))
      have ha0 := Lib.hid ((Ext.refl none w2).alloc (.cells #[] 24))
      have hE := Lib.hid (show Ext none w (w2.alloc (.cells #[] 24)) from hx.out.alloc _)
      obtain ⟨us, hat, hrow⟩ := h.ext hx.out
      obtain ⟨us', hat', hrow'⟩ := h'.ext hx.out
      have hat1 := Lib.hid (hat.ext ha0.out)
      have hrow1 := Lib.hid (rows_ext (rows_sep (r := some w2.heap.size) hrow (fun k hk => by cases hk; exact Nat.le_refl _)) ha0.out)
      have HAT' := Lib.hid hat'
      have HROW' := Lib.hid hrow'
      clear hat hrow hat' hrow' h h' hd hd2
      go_wp2_with (first
        | (at_builtin; refine wpl_fam0 rfl (.tmp 15) (.tmp 16) rfl w2.heap.size 0 _ 0 0 [] rfl (OwnF.made w2 0) a n cp us f rfl HZ.out hat1.out hrow1.out (by omega) (by simp) ?_; intro a5 c5 w5 ho5 hg5; have HE5 := Lib.hid (ha0.out.grown hg5 (fun j hj => .inl (by cases hj; exact Nat.le_refl _))); simp only [Nat.zero_add, List.nil_append] at ho5; clear hg5)
        | (at_builtin; refine wpl_fam0 rfl (.tmp 17) (.tmp 18) rfl w2.heap.size 0 a5 n c5 f rfl ho5 b m cq us' g rfl HZ'.out (HAT'.out.ext HE5.out) (rows_ext (rows_sep HROW'.out ho5.block) HE5.out) (by omega) HE5.out.size ?_; intro a6 c6 w6 ho6 hg6; have HE6 := Lib.hid (HE5.out.grown hg6 (fun j hj => .inl (ho5.block j hj)))))
      refine (l3Minimize_any ho6.fam).mono ?_; rintro e w7 ⟨a7, n7, c7, rfl, o7, e7⟩
      have hB := (hx.out.trans HE6.out).size
      go_wp2_with fail
      go_ret2
      exact ⟨_, _, _, by rw [hyes.out]; rfl, by rw [hyes2.out]; exact o7.mono hB hB, (hx.out.trans HE6.out).trans e7⟩
end Go.Proofs.Ytnlmcbilhfmenaa
