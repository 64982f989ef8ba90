/- The expressions of package impl: ExprDual, ExprDepth. Conditions: each lemma's own. -/
import Derived.Test.YtjjjpakgnipghaaJ2
namespace Go.Proofs.Ytjjjpakgnipghaa
open Go.RowKit
set_option linter.unusedVariables false

set_option maxHeartbeats 1000000 in
theorem ExprDepth_any {s : ByteArray} {w : World} (hs : s.size ≤ 9223372036854775807) :
    Calls Try.prog 44 #[.string s] w fun e w' => e = .returned (.int .i64 (depL (byt s))) ∧ Ext none w w' := by
  go_enter Try.func44, Try.ntmps44
  go_wp2_with fail
  refine (parse_any hs).mono ?_
  rintro e w1 (⟨hex, rfl, he⟩ | ⟨t, v, hex, rfl, hv, he⟩)
  · have hfin := Lib.hid (show depL (byt s) = -1 from by unfold depL; rw [hex])
    clear hex
    go_wp2_with fail
    go_ret
    exact ⟨by rw [hfin.out]; rfl, he⟩
  · obtain ⟨h1, h2, h3, h4, _⟩ := ex_some hex
    have hfin := Lib.hid (show depL (byt s) = (t.dep : Nat) from by unfold depL; rw [hex])
    have hl := Lib.hid (show t.str.length ≤ 40 from by rw [← h1]; exact h4)
    have H2 := Lib.hid h2
    have H3 := Lib.hid h3
    obtain ⟨T, vb, rfl⟩ := hv.shape h3
    clear hex h1 h2 h3 h4
    go_wp2_with fail
    refine (depth_ind _ t _ _ w1 (Nat.le_refl _) (by have := hl.out; omega) H2.out H3.out hv).mono ?_; rintro e w_ ⟨rfl, rfl⟩
    go_wp2_with fail
    go_ret
    exact ⟨by rw [hfin.out]; rfl, he⟩

set_option maxRecDepth 20000 in
set_option maxHeartbeats 1000000 in
theorem ExprDual_any {s : ByteArray} {w : World} (hs : s.size ≤ 9223372036854775807) :
    Calls Try.prog 40 #[.string s] w fun e w' => e = .returned (.string (bs (dualL (byt s)))) ∧ Ext none w w' := by
  go_enter Try.func40, Try.ntmps40
  go_wp2_with fail
  refine (parse_any hs).mono ?_
  rintro e w1 (⟨hex, rfl, he⟩ | ⟨t, v, hex, rfl, hv, he⟩)
  · have hfin := Lib.hid (show dualL (byt s) = [] from by unfold dualL; rw [hex])
    clear hex
    go_wp2_with fail
    go_ret
    exact ⟨by rw [hfin.out]; rfl, he⟩
  · obtain ⟨h1, h2, h3, h4, _⟩ := ex_some hex
    have hfin := Lib.hid (dual_ex hex).1
    have hl := Lib.hid (show t.str.length ≤ 40 from by rw [← h1]; exact h4)
    have hl2 := Lib.hid (show t.du.str.length ≤ 40 from by rw [Fo.du_str]; exact hl.out)
    have H2 := Lib.hid h2
    have H3 := Lib.hid h3
    have D2 := Lib.hid (Fo.du_wf t h2)
    have D3 := Lib.hid (show t.du.len = 1 from by rw [Fo.du_len, h3])
    obtain ⟨T, vb, rfl⟩ := hv.shape h3
    clear hex h1 h2 h3 h4
    go_wp2_with fail
    refine (dual_ind _ t _ _ w1 (Nat.le_refl _) (by have := hl.out; omega) H2.out H3.out hv).mono ?_; rintro e w2 ⟨u, rfl, hu, e2⟩
    have HX := Lib.hid (text_ind _ t.du u _ w2 (Nat.le_refl _) (by have := hl2.out; omega) D2.out D3.out hu)
    have hE := Lib.hid (he.trans e2)
    have hfin2 := Lib.hid hfin.out
    rcases one_tree D2.out D3.out with ⟨m, hm, _, _⟩ | ⟨k2, F2, hm, _, _, _, _⟩
    · rw [hm] at hu HX hfin2
      obtain ⟨b3, ty3, us3, hvs3, _, _, hus3⟩ := hu
      obtain rfl : u = .iface 111 (.pointer (some ⟨b3, 0, none⟩)) := by injection hvs3
      have HC := Lib.hid (HX.out.1 m rfl _ rfl)
      have ml := m_leaf
      clear HX hvs3 hus3 hm
      go_wp2_with (go_at_call 144; refine HC.out.mono ?_; rintro e w4 ⟨rfl, e4⟩)
      go_ret
      exact ⟨congrArg (fun x => Ending.returned (.string (bs x))) hfin2.out.symm, hE.out.trans e4⟩
    · rw [hm] at hu HX hfin2
      obtain ⟨b3, ty3, us3, a3, n3, c3, xs3, hvs3, _, _, _, _, _, hus3⟩ := hu
      obtain rfl : u = .iface 115 (.pointer (some ⟨b3, 0, none⟩)) := by injection hvs3
      have HC := Lib.hid (HX.out.2 k2 F2 rfl _ rfl)
      have ml := m_gate
      clear HX hvs3 hus3 hm
      go_wp2_with (go_at_call 159; refine HC.out.mono ?_; rintro e w4 ⟨rfl, e4⟩)
      go_ret
      exact ⟨congrArg (fun x => Ending.returned (.string (bs x))) hfin2.out.symm, hE.out.trans e4⟩
end Go.Proofs.Ytjjjpakgnipghaa
