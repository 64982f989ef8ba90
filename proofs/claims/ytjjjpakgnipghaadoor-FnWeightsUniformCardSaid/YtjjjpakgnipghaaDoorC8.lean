/- The expressions of package impl: parse, occurring, satisfied and the exported functions. Conditions: each lemma's own. -/
import Derived.Test.YtjjjpakgnipghaaDoorC7
import Derived.Test.YtjjjpakgnipghaaDoorPO
namespace Go.Proofs.YtjjjpakgnipghaaDoor
open Go.RowKit
set_option linter.unusedVariables false

def ParseR (w : World) (L : List UInt8) (e : Ending) (w' : World) : Prop :=
  (ex L = none ∧ e = .returned .nilIface ∧ Ext none w w') ∨
  (∃ t v, ex L = some t ∧ e = .returned v ∧ ForA w' (fun b => w.heap.size ≤ b) t [v] ∧ Ext none w w')

set_option maxHeartbeats 1000000 in
theorem parse_any {s : ByteArray} {w : World} (hs : s.size ≤ 9223372036854775807) :
    Calls Tryd.prog 33 #[.string s] w (ParseR w (byt s)) := by
  by_cases h40 : s.size ≤ 40
  · have h1 : (w.alloc (.cells #[.string s] 91)).heap[w.heap.size]? = some (.cells #[.string s] 91 (0, 0)) := heap_alloc_new w _
    have hp : Pr (w.alloc (.cells #[.string s] 91)) w.heap.size (byt s) := ⟨s, _, h1, rfl, by omega⟩
    have hx : Ext none w (w.alloc (.cells #[.string s] 91)) := (Ext.refl _ _).alloc _
    have hlen := Lib.hid (byt_len s)
    clear h1
    go_enter Tryd.func33, Tryd.ntmps33
    go_wp2_with fail
    refine (expr_ind (byt s).length (byt s) w.heap.size _ (Nat.le_refl _) (by rw [hlen.out]; omega) hp).mono ?_
    rintro e w1 (⟨hpx, rfl, ⟨L', hp1⟩, hx1⟩ | ⟨t, r, v, hpx, rfl, hv, hp1, hx1⟩)
    · have hfin := Lib.hid (show ex (byt s) = none from by unfold ex; rw [hpx]; split <;> rfl)
      have he := hx.loc hx1 (Nat.le_refl _)
      obtain ⟨s', ty, hb, hs', hz⟩ := hp1
      have hc : w1.cell? ⟨w.heap.size, 0, none⟩ = some (.string s') := by simp [World.cell?, hb]
      clear hpx hb hs'
      cases hemp : s'.toList.isEmpty
      all_goals
        go_wp2_with fail
        go_ret
        exact .inl ⟨hfin.out, rfl, he⟩
    · obtain ⟨T, vb, rfl⟩ := hv.shape (px_sound hpx).2.2
      have he := hx.loc hx1 (Nat.le_refl _)
      obtain ⟨s', ty, hb, hs', hz⟩ := hp1
      have hc : w1.cell? ⟨w.heap.size, 0, none⟩ = some (.string s') := by simp [World.cell?, hb]
      have hemp := empty_iff hs'
      cases r with
      | nil =>
        have hfin := Lib.hid (show ex (byt s) = some t from by unfold ex; rw [if_pos (by rw [hlen.out]; exact h40), hpx])
        rw [List.isEmpty_nil] at hemp
        have HV := Lib.hid (ForA.weak (ok' := fun b => w.heap.size ≤ b) (fun b hb _ => Nat.le_trans hx.size hb) t _ hv)
        clear hpx hb hs' hv
        go_wp2_with fail
        go_ret
        exact .inr ⟨t, _, hfin.out, rfl, HV.out, he⟩
      | cons x q =>
        have hfin := Lib.hid (show ex (byt s) = none from by unfold ex; rw [hpx]; split <;> rfl)
        rw [List.isEmpty_cons] at hemp
        clear hpx hb hs' hv
        go_wp2_with fail
        go_ret
        exact .inl ⟨hfin.out, rfl, he⟩
  · have hfin := Lib.hid (show ex (byt s) = none from by unfold ex; rw [if_neg (by rw [byt_len]; exact h40)])
    go_enter Tryd.func33, Tryd.ntmps33
    go_wp2_with fail
    go_ret
    exact .inl ⟨hfin.out, rfl, Ext.refl _ _⟩

theorem ta_leaf_leaf (p : Option Addr) (w : World) : (Instr.typeAssert (.iface 55 (.pointer p)) 67 55 true).run Tryd.prog w = .ok (.tuple #[.pointer p, .bool true]) w := by kernel_rfl
theorem ta_gate_leaf (p : Option Addr) (w : World) : (Instr.typeAssert (.iface 51 (.pointer p)) 67 55 true).run Tryd.prog w = .ok (.tuple #[.pointer none, .bool false]) w := by kernel_rfl
theorem ta_gate_gate (p : Option Addr) (w : World) : (Instr.typeAssert (.iface 51 (.pointer p)) 67 51 true).run Tryd.prog w = .ok (.tuple #[.pointer p, .bool true]) w := by kernel_rfl
theorem ta_leaf_gate (p : Option Addr) (w : World) : (Instr.typeAssert (.iface 55 (.pointer p)) 67 51 true).run Tryd.prog w = .ok (.tuple #[.pointer none, .bool false]) w := by kernel_rfl
theorem ta_nil_leaf (w : World) : (Instr.typeAssert .nilIface 67 55 true).run Tryd.prog w = .ok (.tuple #[.pointer none, .bool false]) w := by kernel_rfl
theorem ta_nil_gate (w : World) : (Instr.typeAssert .nilIface 67 51 true).run Tryd.prog w = .ok (.tuple #[.pointer none, .bool false]) w := by kernel_rfl

set_option maxHeartbeats 1000000 in
theorem occurring_nil {w : World} : Calls Tryd.prog 36 #[.nilIface] w fun e w' => e = .returned (.int .u64 0) ∧ w = w' := by
  have t1 := ta_nil_leaf
  have t2 := ta_nil_gate
  go_enter Tryd.func36, Tryd.ntmps36
  go_wp2_with fail
  go_ret
  exact ⟨rfl, rfl⟩

theorem mem_int (m : Nat) (h1 : 1 ≤ m) (h6 : m ≤ 6) : (1 : Int) ≤ (m : Int) ∧ (m : Int) ≤ 6 := by omega

set_option maxHeartbeats 2000000 in
theorem occurring_ind (z : Nat) : ∀ (t : Fo) (v : Value) (ok : Nat → Prop) (w : World), t.str.length ≤ z → t.wf = true → t.len = 1 → ForA w ok t [v] →
    Calls Tryd.prog 36 #[v] w fun e w' => e = .returned (.int .u64 (t.occ : Nat)) ∧ w = w' := by
  induction z with
  | zero =>
    intro t v ok w hz _ hl _
    have := str_pos (Fo.ne_nil (by omega : 0 < t.len))
    omega
  | succ z ih =>
    intro t v ok w hz hw hl hv
    have IH := Lib.hid ih
    clear ih
    rcases one_tree hw hl with ⟨m, rfl, h1, h6⟩ | ⟨k, F, rfl, h1, hk, h6, hwF⟩
    · obtain ⟨b, ty, us, hvs, hok, hb, hus⟩ := hv
      obtain ⟨rfl, rfl⟩ : v = .iface 55 (.pointer (some ⟨b, 0, none⟩)) ∧ us = [] := by
        injection hvs with h1 h2; exact ⟨h1, h2.symm⟩
      have hc : w.cell? ⟨b, 0, none⟩ = some (.int .i64 (m : Nat)) := by simp [World.cell?, hb]
      have hfin := Lib.hid (show (0 ||| bit (m : Nat) : Nat) = (Fo.leaf m .nil).occ from by rw [occ_leaf, Nat.zero_or])
      clear hb hvs hus
      have t1 := ta_leaf_leaf
      go_enter Tryd.func36, Tryd.ntmps36
      go_wp2_with fail
      rw [show (0 : Int) = ((0 : Nat) : Int) from rfl]
      refine (with_any (c := 0) (by omega) (by omega) (by omega)).mono ?_; rintro e w' ⟨rfl, rfl⟩
      rw [hfin.out]
      go_wp2_with fail
      go_ret
      exact ⟨rfl, rfl⟩
    · obtain ⟨b, ty, us, a, n, c, xs, hvs, hok, hb, hown, hrow, hF, hus⟩ := hv
      obtain ⟨rfl, rfl⟩ : v = .iface 51 (.pointer (some ⟨b, 0, none⟩)) ∧ us = [] := by
        injection hvs with h1 h2; exact ⟨h1, h2.symm⟩
      have hc0 := blk_cell0 hb
      have hc1 := blk_cell1 hb
      have hn := Lib.hid ((ForA.len hF).symm.trans (Own.len hown))
      have hat := Lib.hid (Own.at_ hown)
      have hocc := Lib.hid (occ_gate k F)
      have hszF : F.str.length ≤ z := by rw [str_gate] at hz; simp at hz; omega
      have hn6 : n ≤ 6 := by have := hn.out; omega
      have HF := Lib.hid hF
      have HW := Lib.hid hwF
      have t1 := ta_gate_leaf
      have t2 := ta_gate_gate
      clear hb hvs hus hown hrow hF hwF hw hl hz
      go_enter Tryd.func36, Tryd.ntmps36
      go_wp2_with fail
      go_loop [3, 26] (fun o i => ∃ q : Nat, q ≤ n ∧ i = .int .i64 q ∧ o = .int .u64 ((takeF q F).occ : Nat)) (fun _ i => n - (intOf i).toNat)
      case atStart => exact ⟨0, by omega, rfl, by rw [takeF_zero]; rfl⟩
      case round =>
        obtain ⟨q, hq, rfl, rfl⟩ := hrel
        by_cases hlt : q < n
        · obtain ⟨b2, off, rfl, hcell⟩ := hat.out.2.2 q hlt
          obtain ⟨u, hu⟩ : ∃ u, (trees F)[q]? = some u := ⟨_, List.getElem?_eq_getElem (by rw [trees_len, hn.out]; exact hlt)⟩
          obtain ⟨x, hx, hux⟩ := ForA.at_ HF.out hu
          rw [hx] at hcell
          have hum := List.mem_of_getElem? hu
          have huw := trees_wf HW.out u hum
          have hule := str_le F u hum
          have hst := Lib.hid (occ_step q F u hu)
          have hlt1 := Fo.occ_lt _ (takeF_wf q F HW.out)
          have hlt2 := Fo.occ_lt u huw.1
          have hor := Lib.hid (bits_or _ _ hlt1 hlt2)
          have HU := Lib.hid huw
          have HUX := Lib.hid hux
          clear hu hx hum huw hux
          go_wp2_with fail
          refine (IH.out u x ok _ (by omega) HU.out.1 HU.out.2 HUX.out).mono ?_; rintro e w' ⟨rfl, rfl⟩
          go_wp2_with fail
          go_round
          case rel => exact ⟨q + 1, by omega, by go_num, by rw [hor.out, hst.out]⟩
          case measure => simp [intOf]; omega
        · obtain rfl : q = n := by omega
          have hfin := Lib.hid (show takeF q F = F from by rw [← hn.out, takeF_all])
          go_wp2_with fail
          go_ret
          exact ⟨by rw [hocc.out, hfin.out]; rfl, rfl⟩

set_option maxHeartbeats 1000000 in
theorem satisfied_nil {c : Nat} {w : World} : Calls Tryd.prog 32 #[.nilIface, .int .u64 c] w fun e w' => e = .returned (.bool false) ∧ w = w' := by
  have t1 := ta_nil_leaf
  have t2 := ta_nil_gate
  go_enter Tryd.func32, Tryd.ntmps32
  go_wp2_with fail
  go_ret
  exact ⟨rfl, rfl⟩

set_option maxHeartbeats 2000000 in
theorem satisfied_ind (z : Nat) : ∀ (t : Fo) (v : Value) (ok : Nat → Prop) (cc : Nat) (w : World), t.str.length ≤ z → t.wf = true → t.len = 1 → ForA w ok t [v] → cc < 64 →
    Calls Tryd.prog 32 #[v, .int .u64 cc] w fun e w' => e = .returned (.bool (sat cc t)) ∧ w = w' := by
  induction z with
  | zero =>
    intro t v ok cc w hz _ hl _
    have := str_pos (Fo.ne_nil (by omega : 0 < t.len))
    omega
  | succ z ih =>
    intro t v ok cc w hz hw hl hv hcc
    have IH := Lib.hid ih
    clear ih
    rcases one_tree hw hl with ⟨m, rfl, h1, h6⟩ | ⟨k, F, rfl, h1, hk, h6, hwF⟩
    · obtain ⟨b, ty, us, hvs, hok, hb, hus⟩ := hv
      obtain ⟨rfl, rfl⟩ : v = .iface 55 (.pointer (some ⟨b, 0, none⟩)) ∧ us = [] := by
        injection hvs with h1 h2; exact ⟨h1, h2.symm⟩
      have hc : w.cell? ⟨b, 0, none⟩ = some (.int .i64 (m : Nat)) := by simp [World.cell?, hb]
      have hfin := Lib.hid (sat_leaf cc m)
      clear hb hvs hus
      have t1 := ta_leaf_leaf
      go_enter Tryd.func32, Tryd.ntmps32
      go_wp2_with fail
      refine (has_any hcc).mono ?_; rintro e w' ⟨rfl, rfl⟩
      go_wp2_with fail
      go_ret
      exact ⟨by rw [hfin.out]; rfl, rfl⟩
    · obtain ⟨b, ty, us, a, n, c, xs, hvs, hok, hb, hown, hrow, hF, hus⟩ := hv
      obtain ⟨rfl, rfl⟩ : v = .iface 51 (.pointer (some ⟨b, 0, none⟩)) ∧ us = [] := by
        injection hvs with h1 h2; exact ⟨h1, h2.symm⟩
      have hc0 := blk_cell0 hb
      have hc1 := blk_cell1 hb
      have hn := Lib.hid ((ForA.len hF).symm.trans (Own.len hown))
      have hat := Lib.hid (Own.at_ hown)
      have hsat := Lib.hid (sat_gate cc k F)
      have hszF : F.str.length ≤ z := by rw [str_gate] at hz; simp at hz; omega
      have hn6 : n ≤ 6 := by have := hn.out; omega
      have HF := Lib.hid hF
      have HW := Lib.hid hwF
      have t1 := ta_gate_leaf
      have t2 := ta_gate_gate
      clear hb hvs hus hown hrow hF hwF hw hl hz
      go_enter Tryd.func32, Tryd.ntmps32
      go_wp2_with fail
      go_loop [7, 28] (fun o i => ∃ q g : Nat, q ≤ n ∧ i = .int .i64 q ∧ o = .int .i64 (g : Nat) ∧ g ≤ q ∧ Hid ((takeF q F).cnt cc = g)) (fun _ i => n - (intOf i).toNat)
      case atStart => exact ⟨0, 0, by omega, rfl, rfl, by omega, takeF_cnt0 _ _⟩
      case round =>
        obtain ⟨q, g, hq, rfl, rfl, hgq, hg⟩ := hrel
        by_cases hlt : q < n
        · obtain ⟨b2, off, rfl, hcell⟩ := hat.out.2.2 q hlt
          obtain ⟨u, hu⟩ : ∃ u, (trees F)[q]? = some u := ⟨_, List.getElem?_eq_getElem (by rw [trees_len, hn.out]; exact hlt)⟩
          obtain ⟨x, hx, hux⟩ := ForA.at_ HF.out hu
          rw [hx] at hcell
          have hum := List.mem_of_getElem? hu
          have huw := trees_wf HW.out u hum
          have hule := str_le F u hum
          have hst := Lib.hid (cnt_step cc q F u hu)
          have h1 := Lib.hid (cnt_one cc u huw.2)
          have HU := Lib.hid huw
          have HUX := Lib.hid hux
          clear hu hx hum huw hux
          go_wp2_with fail
          refine (IH.out u x ok cc _ (by omega) HU.out.1 HU.out.2 HUX.out hcc).mono ?_; rintro e w' ⟨rfl, rfl⟩
          cases hs : sat cc u
          · go_wp2_with fail
            go_round
            case rel => exact ⟨q + 1, g, by omega, by go_num, rfl, by omega, by unfold Hid; rw [hst.out, hg.out, h1.out, hs]; rfl⟩
            case measure => simp [intOf]; omega
          · go_wp2_with fail
            go_round
            case rel => exact ⟨q + 1, g + 1, by omega, by go_num, by go_num, by omega, by unfold Hid; rw [hst.out, hg.out, h1.out, hs]; rfl⟩
            case measure => simp [intOf]; omega
        · obtain rfl : q = n := by omega
          have hfin := Lib.hid (show sat cc (Fo.gate k F .nil) = decide (k ≤ g) from by rw [hsat.out, ← hg.out, ← hn.out, takeF_all])
          by_cases hkg : k ≤ g
          · have hkI : (k : Int) ≤ (g : Int) := by omega
            go_wp2_with fail
            go_ret
            exact ⟨by rw [hfin.out, decide_eq_true hkg]; rfl, rfl⟩
          · have hkI : ¬ (k : Int) ≤ (g : Int) := by omega
            go_wp2_with fail
            go_ret
            exact ⟨by rw [hfin.out, decide_eq_false hkg]; rfl, rfl⟩

set_option maxHeartbeats 400000 in
theorem ExprMembers_any {s : ByteArray} {w : World} (hs : s.size ≤ 9223372036854775807) :
    Calls Tryd.prog 14 #[.string s] w (RI w none (membersE (byt s))) := by
  go_enter Tryd.func14, Tryd.ntmps14
  go_wp2_with fail
  refine (parse_any hs).mono ?_
  rintro e w1 (⟨hex, rfl, he⟩ | ⟨t, v, hex, rfl, hv, he⟩)
  · have hfin := Lib.hid (show membersE (byt s) = mem 0 from by unfold membersE okE; rw [hex]; show ([] : List Int) = mem 0; decide)
    clear hex
    go_wp2_with fail
    refine (occurring_nil).mono ?_; rintro e w_ ⟨rfl, rfl⟩
    go_wp2_with fail
    rw [show (0 : Int) = ((0 : Nat) : Int) from rfl]
    refine (members_any (by omega)).mono ?_; rintro e w2 ⟨a1, n1, c1, rfl, ho, he2⟩
    go_wp2_with fail
    go_ret
    exact ⟨_, _, _, rfl, by rw [hfin.out]; exact ho.mono he.size, he.trans he2⟩
  · obtain ⟨h1, h2, h3, _, _⟩ := ex_some hex
    have hfin := Lib.hid (show membersE (byt s) = mem t.occ from by unfold membersE okE occE; rw [hex]; rfl)
    have hlt := Fo.occ_lt t h2
    have H2 := Lib.hid h2
    have H3 := Lib.hid h3
    clear hex h1 h2 h3
    go_wp2_with fail
    refine (occurring_ind _ t v _ w1 (Nat.le_refl _) H2.out H3.out hv).mono ?_; rintro e w_ ⟨rfl, rfl⟩
    go_wp2_with fail
    refine (members_any hlt).mono ?_; rintro e w2 ⟨a1, n1, c1, rfl, ho, he2⟩
    go_wp2_with fail
    go_ret
    exact ⟨_, _, _, rfl, by rw [hfin.out]; exact ho.mono he.size, he.trans he2⟩

set_option maxHeartbeats 400000 in
theorem ExprSatisfied_any {s : ByteArray} {a : Option Addr} {n cp : Nat} {xs : List Int} {w : World} (hs : s.size ≤ 9223372036854775807) (hx : Ints w a n xs) :
    Calls Tryd.prog 10 #[.string s, .slice a n cp] w fun e w' => e = .returned (.bool (satisfiedE (byt s) xs)) ∧ Ext none w w' := by
  have hc := rdC_lt xs
  cases hv : valid xs
  · have hfin := Lib.hid (show satisfiedE (byt s) xs = false from by unfold satisfiedE; rw [hv, Bool.false_and, Bool.and_false])
    go_enter Tryd.func10, Tryd.ntmps10
    go_wp2_with fail
    refine (readSet_any hx).mono ?_; rintro e w_ ⟨rfl, rfl⟩
    go_wp2_with fail
    go_ret
    exact ⟨by rw [hfin.out]; rfl, Ext.refl _ _⟩
  · have hrd := Lib.hid (rdC_yes hv)
    go_enter Tryd.func10, Tryd.ntmps10
    go_wp2_with fail
    refine (readSet_any hx).mono ?_; rintro e w_ ⟨rfl, rfl⟩
    go_wp2_with fail
    refine (parse_any hs).mono ?_
    rintro e w1 (⟨hex, rfl, he⟩ | ⟨t, v, hex, rfl, hv', he⟩)
    · have hfin := Lib.hid (show satisfiedE (byt s) xs = false from by unfold satisfiedE okE; rw [hex]; rfl)
      clear hex
      go_wp2_with fail
      refine (satisfied_nil).mono ?_; rintro e w_ ⟨rfl, rfl⟩
      go_wp2_with fail
      go_ret
      exact ⟨by rw [hfin.out]; rfl, he⟩
    · obtain ⟨h1, h2, h3, _, _⟩ := ex_some hex
      have hfin := Lib.hid (show satisfiedE (byt s) xs = sat (rdC xs) t from by unfold satisfiedE okE satE; rw [hex, hv, hrd.out]; rfl)
      have H2 := Lib.hid h2
      have H3 := Lib.hid h3
      clear hex h1 h2 h3
      go_wp2_with fail
      refine (satisfied_ind _ t v _ _ w1 (Nat.le_refl _) H2.out H3.out hv' hc).mono ?_; rintro e w_ ⟨rfl, rfl⟩
      go_wp2_with fail
      go_ret
      exact ⟨by rw [hfin.out]; rfl, he⟩
end Go.Proofs.YtjjjpakgnipghaaDoor
