/- The expressions of package impl: text, dual, depth. Conditions: each lemma's own. -/
import Derived.Test.YtjjjpakgnipghaaDoorC8
import Derived.Test.YtjjjpakgnipghaaDoorD4
import Derived.Test.YtjjjpakgnipghaaDoorPW
import Derived.Test.YtjjjpakgnipghaaDoorE3
import Derived.Test.YtjjjpakgnipghaaDoorJ0
namespace Go.Proofs.YtjjjpakgnipghaaDoor
open Go.RowKit
set_option linter.unusedVariables false

theorem byt_bs (L : List UInt8) : byt (bs L) = L := by unfold byt bs; simp
theorem bs_byt (s : ByteArray) : bs (byt s) = s := by unfold byt bs; cases s; simp
theorem bs_size (L : List UInt8) : (bs L).size = L.length := by unfold bs; simp [ByteArray.size]
theorem byt_inj {s t : ByteArray} (h : byt s = byt t) : s = t := by rw [← bs_byt s, ← bs_byt t, h]
theorem byt_app (s t : ByteArray) : byt (s ++ t) = byt s ++ byt t := by unfold byt; simp [ByteArray.data_append]
theorem below_ext {w w' : World} (h : Below w.heap.size w w') : Ext none w w' := by
  exact ⟨h.os, h.tape, h.output, h.size, fun i hi _ => h.block i hi⟩

theorem m_leaf (b : Nat) (w : World) : (method 254 55 (.pointer (some ⟨b, 0, none⟩)) "loop.example/flexquorum/impl.text").run Tryd.prog w = .ok (108, .pointer (some ⟨b, 0, none⟩)) w := by kernel_rfl
theorem m_gate (b : Nat) (w : World) : (method 254 51 (.pointer (some ⟨b, 0, none⟩)) "loop.example/flexquorum/impl.text").run Tryd.prog w = .ok (29, .pointer (some ⟨b, 0, none⟩)) w := by kernel_rfl

set_option maxHeartbeats 400000 in
theorem Itoa_any {k : Nat} {w : World} (h : k < 10) :
    Calls Tryd.prog 51 #[.int .i64 (k : Nat)] w fun e w' => e = .returned (.string (bs [Fo.dg k])) ∧ w = w' := by
  refine (Tryd.strconv_Itoa_small k (by omega) w).mono ?_; rintro e w' ⟨rfl, rfl⟩
  exact ⟨by rw [digits_small h]; rfl, rfl⟩

theorem OwnS.capS {w : World} {B : Nat} {a : Option Addr} {n c : Nat} {ps : List ByteArray} (h : OwnS w B a n c ps) : n ≤ c := by
  rcases h.2 with ⟨hv, h0⟩ | ⟨g, cap, _, hv, _, _, h1, h2, _⟩
  · omega
  · injection hv with _ _ hc; subst hc; omega
set_option maxRecDepth 20000 in
set_option maxHeartbeats 400000 in
theorem Join_any {B : Nat} {a : Option Addr} {n c : Nat} {ps : List ByteArray} {w : World} (h : OwnS w B a n c ps) (hn : 0 < n) (hl : (Lib.join (ps.map byt) [44]).length ≤ 100000) (hn2 : n ≤ 100000) :
    Calls Tryd.prog 52 #[.slice a n c, .string { data := #[44] }] w fun e w' => e = .returned (.string (bs (Lib.join (ps.map byt) [44]))) ∧ Ext none w w' := by
  have hlen := h.len
  have hcap := h.capS
  obtain ⟨b, off, p, rfl, _, hc⟩ := h.cell hn
  have hb := World.block_lt_of_cell? w _ hc
  subst hlen
  refine (Tryd.strings_Join b off c ps { data := #[44] } w (fun j x hj => ?_) hb (by omega) hcap (by show (Lib.join (ps.map byt) [44]).length ≤ _; omega)).mono ?_
  · have hjl : j < ps.length := (List.getElem?_eq_some_iff.1 hj).1
    obtain ⟨b2, off2, p2, e1, e2, e3⟩ := h.cell hjl
    simp only [Option.some.injEq, Addr.mk.injEq, and_true] at e1
    obtain ⟨rfl, rfl⟩ := e1
    rw [hj] at e2
    injection e2 with e2
    rw [e3, e2]
  · rintro e w' ⟨rfl, h⟩
    exact ⟨rfl, below_ext h⟩
set_option maxRecDepth 20000 in
set_option maxHeartbeats 2000000 in
theorem text_ind (z : Nat) : ∀ (t : Fo) (v : Value) (ok : Nat → Prop) (w : World), t.str.length ≤ z → z ≤ 100000 → t.wf = true → t.len = 1 → ForA w ok t [v] →
    (∀ m, t = .leaf m .nil → ∀ p, v = .iface 55 p → Calls Tryd.prog 108 #[p] w fun e w' => e = .returned (.string (bs t.str)) ∧ Ext none w w') ∧
    (∀ k F, t = .gate k F .nil → ∀ p, v = .iface 51 p → Calls Tryd.prog 29 #[p] w fun e w' => e = .returned (.string (bs t.str)) ∧ Ext none w w') := by
  induction z with
  | zero =>
    intro t v ok w hz _ _ hl _
    have := str_pos (Fo.ne_nil (by omega : 0 < t.len))
    omega
  | succ z ih =>
    intro t v ok w hz hz2 hw hl hv
    have IH := Lib.hid ih
    clear ih
    refine ⟨?_, ?_⟩
    · rintro m rfl p rfl
      obtain ⟨b, ty, us, hvs, hok, hb, hus⟩ := hv
      obtain ⟨rfl, rfl⟩ : p = .pointer (some ⟨b, 0, none⟩) ∧ us = [] := by
        injection hvs with h1 h2; injection h1 with _ h3; exact ⟨h3, h2.symm⟩
      have hm : m < 10 := by simp only [Fo.wf, Bool.and_eq_true, decide_eq_true_eq] at hw; omega
      have hc : w.cell? ⟨b, 0, none⟩ = some (.int .i64 (m : Nat)) := by simp [World.cell?, hb]
      clear hb hvs hus
      go_enter Tryd.func108, Tryd.ntmps108
      go_wp2_with fail
      refine (Itoa_any hm).mono ?_; rintro e w_ ⟨rfl, rfl⟩
      go_wp2_with fail
      go_ret
      exact ⟨rfl, Ext.refl _ _⟩
    · rintro k F rfl p rfl
      obtain ⟨b, ty, us, a, n, c, xs, hvs, hok, hb, hown, hrow, hF, hus⟩ := hv
      obtain ⟨rfl, rfl⟩ : p = .pointer (some ⟨b, 0, none⟩) ∧ us = [] := by
        injection hvs with h1 h2; injection h1 with _ h3; exact ⟨h3, h2.symm⟩
      simp only [Fo.wf, Bool.and_eq_true, decide_eq_true_eq] at hw
      obtain ⟨⟨⟨⟨h1, h2⟩, h3⟩, h4⟩, _⟩ := hw
      have hc0 := blk_cell0 hb
      have hc1 := blk_cell1 hb
      have hn := Lib.hid ((ForA.len hF).symm.trans (Own.len hown))
      have hat := Lib.hid (Own.at_ hown)
      have hszF : F.str.length ≤ z := by rw [str_gate] at hz; simp at hz; omega
      have hn6 : n ≤ 6 := by have := hn.out; omega
      have hn1 : 1 ≤ n := by have := hn.out; omega
      have HF := Lib.hid hF
      have HW := Lib.hid h4
      have hk10 : k < 10 := by omega
      clear hvs hus hown hrow hF h4 hl hz
      go_enter Tryd.func29, Tryd.ntmps29
      go_wp2_with fail
      go_loopw [3, 11] (fun o i wr => ∃ (q n2 c2 : Nat) (a2 : Option Addr) (ps : List ByteArray), q ≤ n ∧ i = .int .i64 (q : Nat) ∧ o = .slice a2 n2 c2 ∧ n2 = q ∧ OwnS wr w.heap.size a2 n2 c2 ps ∧ Hid (ps.map byt = ((trees F).take q).map Fo.str) ∧ Ext none w wr)
        (fun _ i _ => n - (intOf i).toNat)
      case atStart => exact ⟨0, 0, 0, none, [], by omega, rfl, rfl, rfl, Own.nil _ _ _, rfl, Ext.refl _ _⟩
      case round =>
        obtain ⟨q, n2, c2, a2, ps, hq, rfl, rfl, rfl, ho, hps, he⟩ := hrel
        by_cases hlt : n2 < n
        · obtain ⟨b2, off, rfl, hcell⟩ := hat.out.2.2 n2 hlt
          obtain ⟨u, hu⟩ : ∃ u, (trees F)[n2]? = some u := ⟨_, List.getElem?_eq_getElem (by rw [trees_len, hn.out]; exact hlt)⟩
          obtain ⟨x, hx, hux⟩ := ForA.at_ HF.out hu
          rw [hx] at hcell
          have hum := List.mem_of_getElem? hu
          have huw := trees_wf HW.out u hum
          have hule := str_le F u hum
          have hcell := he.cell hcell
          have hux := hux.ext he
          have hst := Lib.hid (show ((trees F).take (n2 + 1)).map Fo.str = ((trees F).take n2).map Fo.str ++ [u.str] from by
            rw [List.take_add_one, hu, List.map_append]; rfl)
          have HO := Lib.hid ho
          have HE := Lib.hid he
          have HX := Lib.hid (IH.out u x ok wr (by omega) (by omega) huw.1 huw.2 hux)
          clear ho he
          rcases one_tree huw.1 huw.2 with ⟨m, rfl, _, _⟩ | ⟨k2, F2, rfl, _, _, _, _⟩
          · obtain ⟨b3, ty3, us3, hvs3, _, _, hus3⟩ := hux
            obtain rfl : x = .iface 55 (.pointer (some ⟨b3, 0, none⟩)) := by injection hvs3
            have HC := Lib.hid (HX.out.1 m rfl _ rfl)
            clear hu hx hum huw HX hvs3 hus3
            have ml := m_leaf
            go_wp2_with (first
              | (go_at_call 108; refine HC.out.mono ?_; rintro e w4 ⟨rfl, e4⟩; have o4 := HO.out.ext0 e4; have hsz4 := (HE.out.trans e4).size)
              | (at_builtin; refine app_str _ rfl _ _ rfl w.heap.size a2 n2 c2 ps o4 (bs (Fo.leaf m .nil).str) rfl rfl (by omega) hsz4 ?_; intro g c' w5 ho5 hg5))
            go_roundw
            case rel => exact ⟨n2 + 1, n2 + 1, c', _, _, by omega, by go_num, rfl, rfl, ho5, by unfold Hid; rw [hst.out, List.map_append, hps.out, List.map_cons, byt_bs]; rfl, (HE.out.trans e4).grown hg5 (fun q hq => .inl (Own.block o4 q hq))⟩
            case measure => simp [intOf]; omega
          · obtain ⟨b3, ty3, us3, a3, n3, c3, xs3, hvs3, _, _, _, _, _, hus3⟩ := hux
            obtain rfl : x = .iface 51 (.pointer (some ⟨b3, 0, none⟩)) := by injection hvs3
            have HC := Lib.hid (HX.out.2 k2 F2 rfl _ rfl)
            clear hu hx hum huw HX hvs3 hus3
            have ml := m_gate
            go_wp2_with (first
              | (go_at_call 29; refine HC.out.mono ?_; rintro e w4 ⟨rfl, e4⟩; have o4 := HO.out.ext0 e4; have hsz4 := (HE.out.trans e4).size)
              | (at_builtin; refine app_str _ rfl _ _ rfl w.heap.size a2 n2 c2 ps o4 (bs (Fo.gate k2 F2 .nil).str) rfl rfl (by omega) hsz4 ?_; intro g c' w5 ho5 hg5))
            go_roundw
            case rel => exact ⟨n2 + 1, n2 + 1, c', _, _, by omega, by go_num, rfl, rfl, ho5, by unfold Hid; rw [hst.out, List.map_append, hps.out, List.map_cons, byt_bs]; rfl, (HE.out.trans e4).grown hg5 (fun q hq => .inl (Own.block o4 q hq))⟩
            case measure => simp [intOf]; omega
        · obtain rfl : n2 = n := by omega
          have hc0 := he.cell hc0
          have hfin := Lib.hid (show ps.map byt = (trees F).map Fo.str from by
            rw [hps.out, List.take_of_length_le (by rw [trees_len, hn.out]; exact Nat.le_refl _)])
          have HO := Lib.hid ho
          have HE := Lib.hid he
          clear ho he
          have hjl := Lib.hid (show (Lib.join (ps.map byt) [44]).length ≤ 100000 from by rw [hfin.out, join_str]; omega)
          go_wp2_with fail
          refine (Itoa_any hk10).mono ?_; rintro e w_ ⟨rfl, rfl⟩
          go_wp2_with fail
          refine (Join_any HO.out (by omega) hjl.out (by omega)).mono ?_; rintro e w5 ⟨rfl, e5⟩
          rw [hfin.out, join_str]
          have z1 : ¬9223372036854775807 < (bs [Fo.dg k]).size + 1 := by rw [bs_size]; simp
          have z2 : ¬9223372036854775807 < (bs [Fo.dg k]).size + 1 + (bs F.str).size := by rw [bs_size, bs_size]; simp only [List.length_cons, List.length_nil]; omega
          have z3 : ¬9223372036854775807 < (bs [Fo.dg k]).size + 1 + (bs F.str).size + 1 := by rw [bs_size, bs_size]; simp only [List.length_cons, List.length_nil]; omega
          go_wp2_with fail
          go_ret
          exact ⟨congrArg (fun x => Ending.returned (.string x)) (byt_inj (by rw [byt_app, byt_app, byt_app, byt_bs, byt_bs, byt_bs, str_gate]; rfl)), HE.out.trans e5⟩
end Go.Proofs.YtjjjpakgnipghaaDoor
