/- The expressions of package impl: ExprDual, ExprDepth. Conditions: each lemma's own. -/
import Derived.Test.YtjjjpakgnipghaaDoorJ2
namespace Go.Proofs.YtjjjpakgnipghaaDoor
open Go.RowKit
set_option linter.unusedVariables false

set_option maxHeartbeats 1000000 in
theorem ExprDepth_any {s : ByteArray} {w : World} (hs : s.size ≤ 9223372036854775807) :
    Calls Tryd.prog 15 #[.string s] w fun e w' => e = .returned (.int .i64 (depL (byt s))) ∧ Ext none w w' := by
  go_enter Tryd.func15, Tryd.ntmps15
  go_wp2_with fail
  refine (parse_any hs).mono ?_
  rintro e w1 (⟨hex, rfl, he⟩ | ⟨t, v, hex, rfl, hv, he⟩)
  · have hfin := Lib.hid (show depL (byt s) = -1 from by unfold depL; rw [hex])
    clear hex
    go_wp2_with fail
    go_ret
    exact ⟨by rw [hfin.out]; rfl, he⟩
  · obtain ⟨h1, h2, h3, h4, _⟩ := ex_some hex
    have hfin := Lib.hid (show depL (byt s) = (t.dep : Nat) from by unfold depL; rw [hex])
    have hl := Lib.hid (show t.str.length ≤ 40 from by rw [← h1]; exact h4)
    have H2 := Lib.hid h2
    have H3 := Lib.hid h3
    obtain ⟨T, vb, rfl⟩ := hv.shape h3
    clear hex h1 h2 h3 h4
    go_wp2_with fail
    refine (depth_ind _ t _ _ w1 (Nat.le_refl _) (by have := hl.out; omega) H2.out H3.out hv).mono ?_; rintro e w_ ⟨rfl, rfl⟩
    go_wp2_with fail
    go_ret
    exact ⟨by rw [hfin.out]; rfl, he⟩

end Go.Proofs.YtjjjpakgnipghaaDoor
