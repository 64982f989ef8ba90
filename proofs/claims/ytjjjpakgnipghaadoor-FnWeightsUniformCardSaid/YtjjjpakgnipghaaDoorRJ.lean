/- The quorum systems of package impl: FamilyOfExpr. Conditions: each lemma's own. -/
import Derived.Test.YtjjjpakgnipghaaDoorRB
import Derived.Test.YtjjjpakgnipghaaDoorPI
import Derived.Test.YtjjjpakgnipghaaDoorC8
import Derived.Test.YtjjjpakgnipghaaDoorXR
namespace Go.Proofs.YtjjjpakgnipghaaDoor
open Go.RowKit
set_option linter.unusedVariables false

set_option maxHeartbeats 1000000 in
theorem exprTest {p1 : Addr} {v : Value} {ok : Nat → Prop} {t : Fo} {x : Nat} {w : World} (hc : w.cell? p1 = some v) (h1 : t.wf = true) (h2 : t.len = 1) (hv : ForA w ok t [v]) (hx : x < 64) :
    Calls Tryd.prog 50 #[.int .u64 (x : Nat), .pointer (some p1)] w fun e w' => e = .returned (.bool (sat x t)) ∧ Ext none w w' := by
  have H1 := Lib.hid h1
  have H2 := Lib.hid h2
  clear h1 h2
  go_enter Tryd.func50, Tryd.ntmps50
  go_wp2_with fail
  refine (satisfied_ind _ t v ok x w (Nat.le_refl _) H1.out H2.out hv hx).mono ?_; rintro e w_ ⟨rfl, rfl⟩
  go_wp2_with fail
  go_ret
  exact ⟨rfl, Ext.refl _ _⟩

set_option maxHeartbeats 2000000 in
theorem FamilyOfExpr_any {s : ByteArray} {w : World} (hs : s.size ≤ 9223372036854775807) :
    Calls Tryd.prog 21 #[.string s] w (RGB w (ofExprL (byt s)) (okE (byt s))) := by
  go_enter Tryd.func21, Tryd.ntmps21
  go_wp2_with fail
  refine (parse_any hs).mono ?_
  rintro e w1 (⟨hex, rfl, he⟩ | ⟨t, v, hex, rfl, hv, he⟩)
  · have hno := Lib.hid (show okE (byt s) = false from by unfold okE; rw [hex]; rfl)
    have hno2 := Lib.hid (ofExprL_no hno.out)
    clear hex
    go_wp2_with fail
    go_ret2
    exact ⟨_, _, _, by rw [hno.out]; rfl, by rw [hno2.out]; exact OwnG.nil _ _ _, he.alloc _⟩
  · have hyes := Lib.hid (show okE (byt s) = true from by unfold okE; rw [hex]; rfl)
    have hyes2 := Lib.hid (show ofExprL (byt s) = famL (minOf (satE (byt s))) from ofExprL_yes hyes.out)
    have hS := Lib.hid (show ∀ c, satE (byt s) c = sat c t from fun c => by unfold satE; rw [hex])
    obtain ⟨h1, h2, h3, _, _⟩ := ex_some hex
    obtain ⟨T, vb, rfl⟩ := hv.shape h3
    have hE := Lib.hid (he.alloc (.cells #[.iface T (.pointer (some ⟨vb, 0, none⟩))] 67))
    have hT := Lib.hid (show ∀ x : Nat, x < 64 → ∀ W, Ext none (w1.alloc (.cells #[.iface T (.pointer (some ⟨vb, 0, none⟩))] 67)) W → Calls Tryd.prog 50 #[.int .u64 (x : Nat), .pointer (some ⟨w1.heap.size, 0, none⟩)] W fun e W' => e = .returned (.bool (satE (byt s) x)) ∧ Ext none W W' from
      fun x hx W hW => by
        rw [hS.out]
        exact exprTest (hW.cell (Boxed.new w1 _ _).cell) h2 h3 ((hv.ext ((Ext.refl _ _).alloc _)).ext hW) hx)
    clear hex h1 h2 h3 hv he hS
    go_wp2_with fail
    refine (minWhereFamilyOfExpr_any hT.out).mono ?_; rintro e w3 ⟨a3, n3, c3, rfl, o3, e3⟩
    have hn3 := Lib.hid (show n3 ≤ 900000 from by rw [← o3.len]; exact Nat.le_trans (List.length_filter_le _ _) (by simp))
    go_wp2_with fail
    refine (lists_any o3.crs (fun x hx => minOf_lt hx) hn3.out).mono ?_; rintro e w4 ⟨a4, n4, c4, rfl, o4, e4⟩
    go_wp2_with fail
    go_ret2
    exact ⟨a4, n4, c4, by rw [hyes.out]; rfl, by rw [hyes2.out]; exact o4.low (hE.out.trans e3).size, (hE.out.trans e3).trans e4⟩

theorem small_ofExprL (s : List UInt8) : small (ofExprL s) := by
  unfold ofExprL; split
  · exact small_whereL _
  · exact small_nil
theorem FamilyOfExpr_r {s : ByteArray} {w : World} {q : Bool} (hs : s.size ≤ 9223372036854775807) (hq : okE (byt s) = q) :
    Calls Tryd.prog 21 #[.string s] w (RGB w (ofExprL (byt s)) q) := by
  rw [← hq]; exact FamilyOfExpr_any hs
theorem FamilyOfExpr_v {s : ByteArray} {w : World} {q : Bool} (hs : s.size ≤ 9223372036854775807) (hq : okE (byt s) = q) :
    Calls Tryd.prog 21 #[.string s] w (RV w (ofExprL (byt s)) q) := (FamilyOfExpr_r hs hq).mono fun _ _ => RGB.rv
theorem ExprSatisfied_is {s : ByteArray} {a : Option Addr} {n cp : Nat} {xs : List Int} {w : World} {q : Bool} (hs : s.size ≤ 9223372036854775807) (hx : Ints w a n xs) (hq : satisfiedE (byt s) xs = q) :
    Calls Tryd.prog 10 #[.string s, .slice a n cp] w fun e w' => e = .returned (.bool q) ∧ Ext none w w' := by
  rw [← hq]; exact ExprSatisfied_any hs hx
end Go.Proofs.YtjjjpakgnipghaaDoor
