/- The expressions of package impl: depth and dual. Conditions: each lemma's own. -/
import Derived.Test.YtjjjpakgnipghaaDoorJ1
namespace Go.Proofs.YtjjjpakgnipghaaDoor
open Go.RowKit
set_option linter.unusedVariables false

theorem dep_step (q : Nat) (F t : Fo) (h : (trees F)[q]? = some t) : (takeF (q + 1) F).dep = max (takeF q F).dep t.dep := by
  rw [takeF_step q F t h, Fo.app_dep]
theorem takeF_dep0 (F : Fo) : (takeF 0 F).dep = 0 := by rw [takeF_zero]; rfl
set_option maxRecDepth 20000 in
set_option maxHeartbeats 2000000 in
theorem depth_ind (z : Nat) : ∀ (t : Fo) (v : Value) (ok : Nat → Prop) (w : World), t.str.length ≤ z → z ≤ 100000 → t.wf = true → t.len = 1 → ForA w ok t [v] →
    Calls Tryd.prog 38 #[v] w fun e w' => e = .returned (.int .i64 (t.dep : Nat)) ∧ w = w' := by
  induction z with
  | zero =>
    intro t v ok w hz _ _ hl _
    have := str_pos (Fo.ne_nil (by omega : 0 < t.len))
    omega
  | succ z ih =>
    intro t v ok w hz hz2 hw hl hv
    have IH := Lib.hid ih
    clear ih
    rcases one_tree hw hl with ⟨m, rfl, h1, h6⟩ | ⟨k, F, rfl, h1, hk, h6, hwF⟩
    · obtain ⟨b, ty, us, hvs, hok, hb, hus⟩ := hv
      obtain ⟨rfl, rfl⟩ : v = .iface 55 (.pointer (some ⟨b, 0, none⟩)) ∧ us = [] := by
        injection hvs with h1 h2; exact ⟨h1, h2.symm⟩
      clear hb hvs hus
      have t1 := ta_leaf_gate
      go_enter Tryd.func38, Tryd.ntmps38
      go_wp2_with fail
      go_ret
      exact ⟨rfl, rfl⟩
    · obtain ⟨b, ty, us, a, n, c, xs, hvs, hok, hb, hown, hrow, hF, hus⟩ := hv
      obtain ⟨rfl, rfl⟩ : v = .iface 51 (.pointer (some ⟨b, 0, none⟩)) ∧ us = [] := by
        injection hvs with h1 h2; exact ⟨h1, h2.symm⟩
      have hc1 := blk_cell1 hb
      have hn := Lib.hid ((ForA.len hF).symm.trans (Own.len hown))
      have hat := Lib.hid (Own.at_ hown)
      have hszF : F.str.length ≤ z := by rw [str_gate] at hz; simp at hz; omega
      have hn6 : n ≤ 6 := by have := hn.out; omega
      have hdF := Fo.dep_len F
      have hgd := Lib.hid (show (Fo.gate k F .nil).dep = F.dep + 1 from by simp [Fo.dep])
      have HF := Lib.hid hF
      have HW := Lib.hid hwF
      have t2 := ta_gate_gate
      clear hb hvs hus hown hrow hF hwF hw hl hz
      go_enter Tryd.func38, Tryd.ntmps38
      go_wp2_with fail
      go_loop [5, 20] (fun o i => ∃ q g : Nat, q ≤ n ∧ i = .int .i64 q ∧ o = .int .i64 (g : Nat) ∧ g ≤ 100000 ∧ Hid ((takeF q F).dep = g)) (fun _ i => n - (intOf i).toNat)
      case atStart => exact ⟨0, 0, by omega, rfl, rfl, by omega, takeF_dep0 _⟩
      case round =>
        obtain ⟨q, g, hq, rfl, rfl, hgq, hg⟩ := hrel
        by_cases hlt : q < n
        · obtain ⟨b2, off, rfl, hcell⟩ := hat.out.2.2 q hlt
          obtain ⟨u, hu⟩ : ∃ u, (trees F)[q]? = some u := ⟨_, List.getElem?_eq_getElem (by rw [trees_len, hn.out]; exact hlt)⟩
          obtain ⟨x, hx, hux⟩ := ForA.at_ HF.out hu
          rw [hx] at hcell
          have hum := List.mem_of_getElem? hu
          have huw := trees_wf HW.out u hum
          have hule := str_le F u hum
          have hud := Fo.dep_len u
          have hst := Lib.hid (dep_step q F u hu)
          have HU := Lib.hid huw
          have HUX := Lib.hid hux
          obtain ⟨d, hd⟩ : ∃ d, u.dep = d := ⟨_, rfl⟩
          have HD := Lib.hid hd
          rw [hd] at hud
          clear hu hx hum huw hux hd
          go_wp2_with fail
          refine (IH.out u x ok _ (by omega) (by omega) HU.out.1 HU.out.2 HUX.out).mono ?_; rintro e w' ⟨rfl, rfl⟩
          rw [HD.out]
          have hmx : max (g : Int) (d : Int) = ((max g d : Nat) : Int) := by omega
          have hmb : max g d ≤ 100000 := by omega
          go_wp2_with fail
          go_round
          case rel => exact ⟨q + 1, max g d, by omega, by go_num, rfl, hmb, by unfold Hid; rw [hst.out, hg.out, HD.out]⟩
          case measure => simp [intOf]; omega
        · obtain rfl : q = n := by omega
          have hfin := Lib.hid (show F.dep = g from by rw [← hg.out, ← hn.out, takeF_all])
          go_wp2_with fail
          go_ret
          exact ⟨by rw [hgd.out, hfin.out]; rfl, rfl⟩

/-- A dual gate that is being filled. -/
def DuI (w0 : World) (ok : Nat → Prop) (gb k : Nat) (wr : World) (G : Fo) : Prop :=
  ∃ (a : Option Addr) (n c : Nat) (vs : List Value) (ty : TypeId), wr.heap[gb]? = some (.cells #[.int .i64 (k : Nat), .slice a n c] ty (0, 0)) ∧ Own wr w0.heap.size 67 a n c vs ∧
    (Value.slice a n c).ownBlock ≠ some gb ∧ ForA wr (fun b => ok b ∧ b ≠ gb ∧ (Value.slice a n c).ownBlock ≠ some b) G vs ∧ Ext none w0 wr ∧ w0.heap.size ≤ gb
theorem DuI.start {w0 w : World} {ok : Nat → Prop} {k : Nat} (hx : Ext none w0 w) (t : TypeId) : DuI w0 ok w.heap.size k (w.alloc (.cells #[.int .i64 (k : Nat), .slice none 0 0] t)) .nil :=
  ⟨none, 0, 0, [], t, heap_alloc_new w _, Own.nil _ _ _, by simp [Value.ownBlock], rfl, hx.alloc _, hx.size⟩
theorem DuI.ext {w0 wr w' : World} {ok : Nat → Prop} {gb k : Nat} {G : Fo} (h : DuI w0 ok gb k wr G) (hx : Ext none wr w') : DuI w0 ok gb k w' G := by
  obtain ⟨a, n, c, vs, ty, h1, h2, h3, h4, h5, h6⟩ := h
  exact ⟨a, n, c, vs, ty, hx.blk h1 (by simp), Own.ext0 h2 hx, h3, h4.ext hx, h5.trans hx, h6⟩
theorem DuI.done {w0 wr : World} {ok : Nat → Prop} {gb k : Nat} {G : Fo} (h : DuI w0 ok gb k wr G) (hok : ∀ b, w0.heap.size ≤ b → ok b) :
    ForA wr ok (.gate k G .nil) [.iface 51 (.pointer (some ⟨gb, 0, none⟩))] := by
  obtain ⟨a, n, c, vs, ty, h1, h2, h3, h4, h5, h6⟩ := h
  exact ⟨gb, ty, [], a, n, c, vs, rfl, hok gb h6, h1, Own.mono h2 (Nat.zero_le _), fun g hg => hok g (World.ownsRow.lt h2 g hg).1, ForA.weak (fun b hb _ => hb.1) G vs h4, rfl⟩
theorem DuI.fromStart {w0 wr : World} {ok : Nat → Prop} {gb k : Nat} {G : Fo} {p : Addr} {v : Value} (h : DuI w0 ok gb k wr G) (hc : w0.cell? p = some v) : wr.cell? p = some v := by
  obtain ⟨a, n, c, vs, ty, h1, h2, h3, h4, h5, h6⟩ := h
  exact h5.cell hc
/-- one tree more -/
theorem du_child {w0 wr w4 : World} {ok : Nat → Prop} {gb k : Nat} {G t : Fo} {v : Value} {a : Option Addr} {n c : Nat} {vs : List Value} {ty : TypeId}
    (h1 : wr.heap[gb]? = some (.cells #[.int .i64 (k : Nat), .slice a n c] ty (0, 0))) (h2 : Own wr w0.heap.size 67 a n c vs)
    (h3 : (Value.slice a n c).ownBlock ≠ some gb) (h4 : ForA wr (fun b => ok b ∧ b ≠ gb ∧ (Value.slice a n c).ownBlock ≠ some b) G vs) (h5 : Ext none w0 wr) (h6 : w0.heap.size ≤ gb) (hx : Ext none wr w4)
    (hv : ForA w4 (fun b => (ok b ∧ b < w0.heap.size) ∨ wr.heap.size ≤ b) t [v]) (hok : ∀ b, w0.heap.size ≤ b → ok b) :
    w4.heap[gb]? = some (.cells #[.int .i64 (k : Nat), .slice a n c] ty (0, 0)) ∧ Own w4 w0.heap.size 67 a n c vs ∧ ForA w4 (fun b => ok b ∧ b ≠ gb ∧ (Value.slice a n c).ownBlock ≠ some b) (G.app t) (vs ++ [v]) ∧ Ext none w0 w4 := by
  have hgb := (Array.getElem?_eq_some_iff.1 h1).1
  have hs5 := h5.size
  refine ⟨hx.blk h1 (by simp), Own.ext0 h2 hx, ForA.app ?_ G vs (h4.ext hx), h5.trans hx⟩
  refine ForA.weak (fun b hb _ => ?_) t [v] hv
  rcases hb with ⟨hb, hlt⟩ | hb
  · exact ⟨hb, by omega, fun e => by have := (World.ownsRow.lt h2 b e).1; omega⟩
  · exact ⟨hok b (by omega), by omega, fun e => by have := (World.ownsRow.lt h2 b e).2; omega⟩
theorem DuI.put {w0 w4 w5 : World} {ok : Nat → Prop} {gb k : Nat} {G : Fo} {a : Option Addr} {n c n' c' : Nat} {a' : Option Addr} {us : List Value} {ty : TypeId}
    (h1 : w4.heap[gb]? = some (.cells #[.int .i64 (k : Nat), .slice a n c] ty (0, 0))) (h3 : (Value.slice a n c).ownBlock ≠ some gb)
    (h4 : ForA w4 (fun b => ok b ∧ b ≠ gb ∧ (Value.slice a n c).ownBlock ≠ some b) G us) (h5 : Ext none w0 w4) (h6 : w0.heap.size ≤ gb)
    (hbk : ∀ j, (Value.slice a n c).ownBlock = some j → w0.heap.size ≤ j)
    (ho : Own w5 w0.heap.size 67 a' n' c' us) (hg : w4.grownBy w5 (Value.slice a n c).ownBlock) (hat : (Value.slice a' n' c').ownBlock = (Value.slice a n c).ownBlock ∨ ∃ j, (Value.slice a' n' c').ownBlock = some j ∧ w4.heap.size ≤ j) :
    DuI w0 ok gb k (w5.setCell ⟨gb, 1, none⟩ (.slice a' n' c')) G := by
  have hgb := (Array.getElem?_eq_some_iff.1 h1).1
  have hb5 : w5.heap[gb]? = some (.cells #[.int .i64 (k : Nat), .slice a n c] ty (0, 0)) := (hg.block gb hgb (Ne.symm h3)).trans h1
  have hne : (Value.slice a' n' c').ownBlock ≠ some gb := by
    rcases hat with e | ⟨j, e, hj⟩
    · rw [e]; exact h3
    · rw [e]; intro h; injection h with h; omega
  have hgs : w5.grownBy (w5.setCell ⟨gb, 1, none⟩ (.slice a' n' c')) (some gb) := (Ext.refl (some gb) w5).set (.inr rfl) _
  refine ⟨_, _, _, us, ty, blk_set hb5, ho.extN hgs (.inl hne), hne, ?_, ?_, h6⟩
  · refine ForA.grown hgs (fun j hj hok => by cases hj; exact hok.2.1 rfl) G us ?_
    have f1 : ForA w4 (fun b => (ok b ∧ b ≠ gb ∧ (Value.slice a n c).ownBlock ≠ some b) ∧ b < w4.heap.size) G us := ForA.weak (fun b hb hlt => ⟨hb, hlt⟩) G us h4
    have f2 := ForA.grown hg (fun j hj hok => hok.1.2.2 hj) G us f1
    refine ForA.weak (fun b hb _ => ⟨hb.1.1, hb.1.2.1, fun e => ?_⟩) G us f2
    rcases hat with e2 | ⟨j, e2, hj⟩
    · exact hb.1.2.2 (by rw [← e2, e])
    · rw [e2] at e; injection e with e; have := hb.2; omega
  · exact (h5.grown hg (fun j hj => .inl (hbk j hj))).set (.inl h6) _
theorem at_one {W0 W : World} {v : Value} {T : TypeId} (hx : Ext none (W0.alloc (.cells #[v] T)) W) : At W (some ⟨W0.heap.size, 0, none⟩) 1 [v] := by
  refine At.ext (w := W0.alloc (.cells #[v] T)) ⟨rfl, by simp [maxLen], fun k hk => ⟨_, _, rfl, ?_⟩⟩ hx
  obtain rfl : k = 0 := by omega
  exact cell_one_new W0 v _ 0 v rfl
theorem takeF_du (q : Nat) (F t : Fo) (h : (trees F)[q]? = some t) : (takeF (q + 1) F).du = (takeF q F).du.app t.du := by
  rw [takeF_step q F t h, Fo.app_du]
end Go.Proofs.YtjjjpakgnipghaaDoor
