/- The threshold of a set: ExprThreshold of both packages. Conditions: each lemma's own. -/
import Derived.Test.YtjjjpakgnipghaaDoorJ2
import Derived.Test.YtjjjpakgnipghaaDoorE4
import Derived.Test.YtjjjpakgnipghaaDoorPA
import Derived.Test.YtjjjpakgnipghaaDoorXR
namespace Go.Proofs.YtjjjpakgnipghaaDoor
open Go.RowKit
set_option linter.unusedVariables false

/-- what ExprThreshold leaves -/
def ThR (w : World) (k : Int) (xs : List Int) (q : Bool) (e : Ending) (w' : World) : Prop :=
  e = .returned (.tuple #[.string (bs (thrL k xs)), .bool q]) ∧ Ext none w w'
theorem SetValid_lit {a : Option Addr} {n cp : Nat} {xs : List Int} {w : World} {q : Bool} (h : Ints w a n xs) (hq : valid xs = q) :
    Calls Tryd.prog 11 #[.slice a n cp] w fun e w' => e = .returned (.bool q) ∧ Ext none w w' := by
  rw [← hq]; exact (SetValid_any h).mono fun e w' ⟨he, hw⟩ => ⟨he, hw ▸ Ext.refl _ _⟩
set_option maxRecDepth 20000 in
set_option maxHeartbeats 4000000 in
theorem ExprThreshold_is {a : Option Addr} {n cp : Nat} {xs : List Int} {k : Int} {w : World} {q : Bool} (h : Ints w a n xs) (hq : okTh k xs = q) :
    Calls Tryd.prog 8 #[.int .i64 k, .slice a n cp] w (ThR w k xs q) := by
  have hl := Lib.hid h.len
  have H := Lib.hid h
  have hm := h.max
  clear h
  cases hv : valid xs
  · obtain rfl : q = false := by rw [← hq]; unfold okTh; rw [hv]; rfl
    have hno := Lib.hid (thr_no hq)
    clear hq
    go_enter Tryd.func8, Tryd.ntmps8
    go_wp2_with fail
    refine (SetValid_lit H.out hv).mono ?_; rintro e w1 ⟨rfl, e1⟩
    go_wp2_with fail
    go_ret2
    exact ⟨by rw [hno.out]; rfl, e1⟩
  · by_cases h1 : k < 1
    · obtain rfl : q = false := by rw [← hq]; unfold okTh; rw [decide_eq_false (show ¬ 1 ≤ k by omega), Bool.false_and, Bool.and_false]
      have hno := Lib.hid (thr_no hq)
      clear hq
      go_enter Tryd.func8, Tryd.ntmps8
      go_wp2_with fail
      refine (SetValid_lit H.out hv).mono ?_; rintro e w1 ⟨rfl, e1⟩
      go_wp2_with fail
      go_ret2
      exact ⟨by rw [hno.out]; rfl, e1⟩
    · by_cases h2 : (n : Int) < k
      · obtain rfl : q = false := by rw [← hq]; unfold okTh; rw [hl.out, decide_eq_false (show ¬ k ≤ (n : Int) by omega), Bool.and_false, Bool.and_false]
        have hno := Lib.hid (thr_no hq)
        clear hq
        go_enter Tryd.func8, Tryd.ntmps8
        go_wp2_with fail
        refine (SetValid_lit H.out hv).mono ?_; rintro e w1 ⟨rfl, e1⟩
        go_wp2_with fail
        go_ret2
        exact ⟨by rw [hno.out]; rfl, e1⟩
      · obtain rfl : q = true := by rw [← hq]; unfold okTh; rw [hv, hl.out, decide_eq_true (show 1 ≤ k by omega), decide_eq_true (show k ≤ (n : Int) by omega)]; rfl
        obtain ⟨d, rfl⟩ := Int.eq_ofNat_of_zero_le (show 0 ≤ k by omega)
        have hA : decide (n < d) = false := decide_eq_false (by omega)
        have hB : decide ((d : Int) < 1) = false := decide_eq_false (by omega)
        have hwf := Lib.hid (thrF_wf hq)
        have htl := Lib.hid (thr_len hq)
        have hyes := Lib.hid (thr_yes hq)
        have hn6 : n ≤ 6 := by rw [← hl.out]; exact valid_len hv
        have hget := Lib.hid (valid_get hv)
        clear hq
        go_enter Tryd.func8, Tryd.ntmps8
        go_wp2_with fail
        refine (SetValid_lit H.out hv).mono ?_; rintro e w1 ⟨rfl, e1⟩
        have hI := Lib.hid (DuI.start (ok := fun b => w.heap.size ≤ b) (k := d) e1 54)
        go_wp2_with fail
        go_loopw [27] (fun i wr => ∃ q : Nat, q ≤ n ∧ i = .int .i64 (q : Nat) ∧ DuI w (fun b => w.heap.size ≤ b) w1.heap.size d wr (leaves (xs.take q)))
          (fun i _ => n - (intOf i).toNat)
        case atStart => exact ⟨0, by omega, rfl, hI.out⟩
        case round =>
          obtain ⟨q, hq, rfl, hJ⟩ := hrel
          by_cases hlt : q < n
          · have hql : q < xs.length := by rw [hl.out]; exact hlt
            obtain ⟨a2, n2, c2, vs, ty2, g1, g2, g3, g4, g5, g6⟩ := hJ
            obtain ⟨b2, off, rfl, hcell⟩ := (H.out.ext g5).cell hlt
            have hgt := hget.out q hql
            have hst := Lib.hid (thr_take xs q hql)
            obtain ⟨m, hmx⟩ := Int.eq_ofNat_of_zero_le (show 0 ≤ xs.getD q 0 by omega)
            rw [hmx] at hcell hst
            have hn2 : n2 = q := by rw [← Own.len g2, g4.len, leaves_len, List.length_take]; omega
            subst hn2
            have hcw := blk_cell1 g1
            have hgb := (Array.getElem?_eq_some_iff.1 g1).1
            have hx1 : Ext none wr (wr.alloc (.cells #[.int .i64 (m : Nat)] 57)) := (Ext.refl _ _).alloc _
            obtain ⟨k1, k2, k3, k4⟩ := du_child g1 g2 g3 g4 g5 g6 hx1 (t := .leaf m .nil) (v := .iface 55 (.pointer (some ⟨wr.heap.size, 0, none⟩))) ⟨wr.heap.size, _, [], rfl, .inr (Nat.le_refl _), heap_alloc_new wr _, rfl⟩ (fun b hb => hb)
            have K1 := Lib.hid k1
            have K3 := Lib.hid k3
            have hgb1 := (Array.getElem?_eq_some_iff.1 k1).1
            have hc1 := blk_cell1 k1
            have hsz1 := k4.size
            clear g1 g4 k1 k3 hmx hgt
            go_wp2_with (at_builtin; refine app_tree _ rfl _ _ rfl w.heap.size a2 n2 c2 vs k2 (.iface 55 (.pointer (some ⟨wr.heap.size, 0, none⟩))) rfl rfl (by rw [World.size_alloc]; rfl) (by omega) hsz1 ?_; intro g c' w5 ho5 hg5 hat5; have hb5 := Lib.hid ((hg5.block _ hgb1 (Ne.symm g3)).trans K1.out); have hc5 := blk_cell1 hb5.out; have hf5 := blk_frozen (i := 1) hb5.out)
            have hP := Lib.hid (DuI.put K1.out g3 K3.out k4 g6 (fun j hj => (World.ownsRow.lt g2 j hj).1) ho5 hg5 (hat5.elim (fun e => .inl (by rw [← e]; rfl)) (fun e => .inr ⟨g, rfl, by rw [e]; exact Nat.le_succ _⟩)))
            clear ho5 hg5 hat5 hc5 hf5 hb5 hcw hc1
            go_roundw
            case rel => exact ⟨n2 + 1, by omega, by go_num, by rw [hst.out]; exact hP.out⟩
            case measure => simp [intOf]; omega
          · obtain rfl : q = n := by omega
            have hfin := Lib.hid (show xs.take q = xs from List.take_of_length_le (by rw [hl.out]; exact Nat.le_refl _))
            rw [hfin.out] at hJ
            have HT := Lib.hid (text_ind 14 (thrF d xs) _ _ wr htl.out (by omega) hwf.out rfl (hJ.done (fun b hb => hb)))
            obtain ⟨_, _, _, _, _, _, _, _, _, g5, _⟩ := hJ
            go_wp2_with fail
            refine (HT.out.2 _ _ rfl _ rfl).mono ?_; rintro e w9 ⟨rfl, e9⟩
            go_wp2_with fail
            go_ret2
            exact ⟨by rw [hyes.out]; rfl, g5.trans e9⟩
end Go.Proofs.YtjjjpakgnipghaaDoor
