/- The expressions of package impl: the parser and parse. Conditions: each lemma's own. -/
import Derived.Test.YtjjjpakgnipghaaDoorC6
namespace Go.Proofs.YtjjjpakgnipghaaDoor
open Go.RowKit
set_option linter.unusedVariables false

theorem blk_set {w : World} {g : Nat} {x y u : Value} {ty : TypeId} (h : w.heap[g]? = some (.cells #[x, y] ty (0, 0))) : (w.setCell ⟨g, 1, none⟩ u).heap[g]? = some (.cells #[x, u] ty (0, 0)) := by
  simp [World.setCell, Array.getElem?_modify, h]
theorem blk_cell1 {w : World} {g : Nat} {x y : Value} {ty : TypeId} (h : w.heap[g]? = some (.cells #[x, y] ty (0, 0))) : w.cell? ⟨g, 1, none⟩ = some y := by simp [World.cell?, h]
theorem blk_cell0 {w : World} {g : Nat} {x y : Value} {ty : TypeId} (h : w.heap[g]? = some (.cells #[x, y] ty (0, 0))) : w.cell? ⟨g, 0, none⟩ = some x := by simp [World.cell?, h]
theorem blk_frozen {w : World} {g i : Nat} {cs : Array Value} {ty : TypeId} (h : w.heap[g]? = some (.cells cs ty (0, 0))) : w.frozen? ⟨g, i, none⟩ = false := by simp [World.frozen?, h]

theorem gate_child {w0 wr w4 : World} {pb gb k : Nat} {F t : Fo} {L r : List UInt8} {v : Value} (hI : GateI w0 pb gb k wr F L) (hp : px L = some (t, r)) (hv : ForA w4 (fun b => wr.heap.size ≤ b) t [v])
    (hPr : Pr w4 pb r) (hx : Ext (some pb) wr w4) :
    ∃ (a : Option Addr) (n c : Nat) (vs : List Value) (ty : TypeId), w4.heap[gb]? = some (.cells #[.int .i64 (k : Nat), .slice a n c] ty (0, 0)) ∧ Own w4 w0.heap.size 67 a n c vs ∧
      (Value.slice a n c).ownBlock ≠ some gb ∧ ForA w4 (fun b => w0.heap.size ≤ b ∧ b ≠ gb ∧ (Value.slice a n c).ownBlock ≠ some b) (F.app t) (vs ++ [v]) ∧ n + 1 + r.length ≤ 900000 ∧ Ext (some pb) w0 w4 ∧ w0.heap.size ≤ gb ∧ pb < w0.heap.size ∧ n + 1 = (F.app t).len := by
  obtain ⟨a, n, c, vs, ty, h1, h2, h3, h4, h5, h6, h7, h8, h9⟩ := hI
  have hl := px_len hp
  have hvl := h4.len
  have hn : vs.length = n := Own.len h2
  have ht := (px_sound hp).2.2
  refine ⟨a, n, c, vs, ty, hx.blk h1 (by intro e; cases e; omega), h2.ext hx (fun j hj => by cases hj; exact h9), h3, ForA.app ?_ F vs ?_, by omega, h7.trans hx, h8, h9, by rw [Fo.app_len, ht, ← hvl, hn]⟩
  · refine ForA.weak (fun b hb _ => ?_) t [v] hv
    have hgb := (Array.getElem?_eq_some_iff.1 h1).1
    have hs7 := h7.size
    refine ⟨by omega, by omega, fun e => ?_⟩
    have := (World.ownsRow.lt h2 b e).2
    omega
  · exact ForA.grown hx (fun j hj hok => by cases hj; omega) F vs h4

theorem gate_filled {w0 w4 w5 : World} {pb gb k : Nat} {G : Fo} {r : List UInt8} {a : Option Addr} {n c g c' : Nat} {us : List Value} {ty : TypeId}
    (h1 : w4.heap[gb]? = some (.cells #[.int .i64 (k : Nat), .slice a n c] ty (0, 0))) (h3 : (Value.slice a n c).ownBlock ≠ some gb)
    (h4 : ForA w4 (fun b => w0.heap.size ≤ b ∧ b ≠ gb ∧ (Value.slice a n c).ownBlock ≠ some b) G us) (h5 : n + 1 + r.length ≤ 900000) (h7 : Ext (some pb) w0 w4) (h8 : w0.heap.size ≤ gb) (h9 : pb < w0.heap.size)
    (hPr : Pr w4 pb r) (hbk : ∀ j, (Value.slice a n c).ownBlock = some j → w0.heap.size ≤ j)
    (ho : Own w5 w0.heap.size 67 (some ⟨g, 0, none⟩) (n + 1) c' us) (hg : w4.grownBy w5 (Value.slice a n c).ownBlock) (hat : some g = (Value.slice a n c).ownBlock ∨ g = w4.heap.size + 1) :
    GateI w0 pb gb k (w5.setCell ⟨gb, 1, none⟩ (.slice (some ⟨g, 0, none⟩) (n + 1) c')) G r := by
  have hgb := (Array.getElem?_eq_some_iff.1 h1).1
  have hb5 : w5.heap[gb]? = some (.cells #[.int .i64 (k : Nat), .slice a n c] ty (0, 0)) := (hg.block gb hgb (Ne.symm h3)).trans h1
  have hne : g ≠ gb := by
    rcases hat with e | e
    · intro h; exact h3 (by rw [← e, h])
    · omega
  have hgs : w5.grownBy (w5.setCell ⟨gb, 1, none⟩ (.slice (some ⟨g, 0, none⟩) (n + 1) c')) (some gb) := (Ext.refl (some gb) w5).set (.inr rfl) _
  refine ⟨_, _, _, us, ty, blk_set hb5, ho.extN hgs (.inl (by simpa [Value.ownBlock] using hne)), by simpa [Value.ownBlock] using hne, ?_, by omega, ?_, ?_, h8, h9⟩
  · refine ForA.grown hgs (fun j hj hok => by cases hj; exact hok.2.1 rfl) G us ?_
    have f1 : ForA w4 (fun b => (w0.heap.size ≤ b ∧ b ≠ gb ∧ (Value.slice a n c).ownBlock ≠ some b) ∧ b < w4.heap.size) G us := ForA.weak (fun b hb hlt => ⟨hb, hlt⟩) G us h4
    have f2 := ForA.grown hg (fun j hj hok => hok.1.2.2 hj) G us f1
    refine ForA.weak (fun b hb _ => ⟨hb.1.1, hb.1.2.1, fun e => ?_⟩) G us f2
    have e' : g = b := by simpa [Value.ownBlock] using e
    subst e'
    rcases hat with e | e
    · exact hb.1.2.2 e.symm
    · have := hb.2; omega
  · refine (hPr.grown hg (fun e => ?_)).grown hgs (by intro e; cases e; omega)
    have := hbk _ e; omega
  · exact (h7.grown hg (fun j hj => .inl (hbk j hj))).set (.inl h8) _
/-- the gate, once it is filled, is a tree -/
theorem gate_done {w0 wr : World} {pb gb k : Nat} {F : Fo} {L : List UInt8} (hI : GateI w0 pb gb k wr F L) :
    ForA wr (fun b => w0.heap.size ≤ b) (.gate k F .nil) [.iface 51 (.pointer (some ⟨gb, 0, none⟩))] := by
  obtain ⟨a, n, c, vs, ty, h1, h2, h3, h4, h5, h6, h7, h8, h9⟩ := hI
  exact ⟨gb, ty, [], a, n, c, vs, rfl, h8, h1, Own.mono h2 (Nat.zero_le _), fun g hg => (World.ownsRow.lt h2 g hg).1, ForA.weak (fun b hb _ => hb.1) F vs h4, rfl⟩
theorem gate_len {w0 wr : World} {pb gb k : Nat} {F : Fo} {L : List UInt8} (hI : GateI w0 pb gb k wr F L) :
    ∃ a c, wr.cell? ⟨gb, 1, none⟩ = some (.slice a F.len c) := by
  obtain ⟨a, n, c, vs, ty, h1, h2, h3, h4, h5, h6, h7, h8, h9⟩ := hI
  have hn : n = F.len := by rw [← h4.len, Own.len h2]
  subst hn
  exact ⟨a, c, blk_cell1 h1⟩
theorem GateI.pr {w0 wr : World} {pb gb k : Nat} {F : Fo} {L : List UInt8} (hI : GateI w0 pb gb k wr F L) : Pr wr pb L ∧ Ext (some pb) w0 wr ∧ L.length ≤ 900000 := by
  obtain ⟨a, n, c, vs, ty, h1, h2, h3, h4, h5, h6, h7, h8, h9⟩ := hI
  exact ⟨h6, h7, by omega⟩
/-- a step of the parser keeps the gate -/
theorem GateI.step {w0 wr w' : World} {pb gb k : Nat} {F : Fo} {L L' : List UInt8} (hI : GateI w0 pb gb k wr F L) (hPr : Pr w' pb L') (hx : Ext (some pb) wr w') (hl : L'.length ≤ L.length) : GateI w0 pb gb k w' F L' := by
  obtain ⟨a, n, c, vs, ty, h1, h2, h3, h4, h5, h6, h7, h8, h9⟩ := hI
  exact ⟨a, n, c, vs, ty, hx.blk h1 (by intro e; cases e; omega), h2.ext hx (fun j hj => by cases hj; exact h9), h3, ForA.grown hx (fun j hj hok => by cases hj; omega) F vs h4, by omega, hPr, h7.trans hx, h8, h9⟩
theorem GateI.start {w0 w : World} {pb k : Nat} {L : List UInt8} (hx : Ext (some pb) w0 w) (hp : pb < w0.heap.size) (hPr : Pr w pb L) (hl : L.length ≤ 900000) (t : TypeId) :
    GateI w0 pb w.heap.size k (w.alloc (.cells #[.int .i64 (k : Nat), .slice none 0 0] t)) .nil L :=
  ⟨none, 0, 0, [], t, heap_alloc_new w _, Own.nil _ _ _, by simp [Value.ownBlock], rfl, by omega, hPr.ext ((Ext.refl _ _).alloc _), hx.alloc _, hx.size, hp⟩

def ExR (w : World) (pb : Nat) (L : List UInt8) (e : Ending) (w' : World) : Prop :=
  (px L = none ∧ e = .returned .nilIface ∧ (∃ L', Pr w' pb L') ∧ Ext (some pb) w w') ∨
  (∃ t r v, px L = some (t, r) ∧ e = .returned v ∧ ForA w' (fun b => w.heap.size ≤ b) t [v] ∧ Pr w' pb r ∧ Ext (some pb) w w')

set_option maxHeartbeats 4000000 in
theorem expr_ind (z : Nat) : ∀ (L : List UInt8) (pb : Nat) (w : World), L.length ≤ z → z ≤ 900000 → Pr w pb L →
    Calls Tryd.prog 56 #[.pointer (some ⟨pb, 0, none⟩)] w (ExR w pb L) := by
  induction z with
  | zero =>
    intro L pb w hz _ h
    have hL : L = [] := List.eq_nil_of_length_eq_zero (by omega)
    subst hL
    go_enter Tryd.func56, Tryd.ntmps56
    go_wp2_with fail
    refine (digit_no h (by intro b r e; cases e)).mono ?_; rintro e w' ⟨rfl, rfl⟩
    go_wp2_with fail
    go_ret
    exact .inl ⟨rfl, rfl, ⟨_, h⟩, Ext.refl _ _⟩
  | succ z ih =>
    intro L pb w hz hz2 h
    have IH := Lib.hid ih
    clear ih
    by_cases hdig : ∃ b r, L = b :: r ∧ isDg b = true
    · obtain ⟨b, r, rfl, hd⟩ := hdig
      have HD := Lib.hid hd
      have hdv := (dg_dgv hd).2
      have hpb := h.lt
      simp only [List.length_cons] at hz
      obtain ⟨k, hk⟩ : ∃ k, k = dgv b := ⟨_, rfl⟩
      rw [← hk] at hdv
      have HK := Lib.hid hk.symm
      have HDG := Lib.hid (show Fo.dg k = b from by rw [hk]; exact (dg_dgv hd).1)
      clear hk
      go_enter Tryd.func56, Tryd.ntmps56
      go_wp2_with fail
      refine (digit_yes h hd).mono ?_; rintro e w1 ⟨rfl, hp1, he1⟩
      rw [HK.out]
      clear hd
      by_cases h40 : r.head? = some 40
      · obtain ⟨L2, rfl⟩ : ∃ L2, r = 40 :: L2 := ⟨_, head_tail h40⟩
        clear h40
        simp only [List.length_cons] at hz
        go_wp2_with fail
        refine (take_yes hp1 rfl).mono ?_; rintro e w2 ⟨rfl, hp2, he2⟩
        have he := he1.trans he2
        have hI := GateI.start (k := k) he hpb hp2 (by omega) 54
        clear hp1 he1 he2
        go_wp2_with fail
        go_loopw [6] (fun _ wr => ∃ (F : Fo) (L' : List UInt8), GateI w pb w2.heap.size k wr F L' ∧ L'.length ≤ L2.length ∧ Hid (pm L2 .nil = pm L' F)) (fun _ wr => restLen wr pb)
        case atStart => exact ⟨.nil, L2, hI, Nat.le_refl _, rfl⟩
        case round =>
          obtain ⟨F, L', hI, hL', hpm⟩ := hrel
          have hml := Lib.hid hI.pr.1.rest
          go_wp2_with fail
          refine (IH.out L' pb wr (by omega) (by omega) hI.pr.1).mono ?_
          rintro e w4 (⟨hpx, rfl, ⟨L3, hp3⟩, hx3⟩ | ⟨t, r3, v, hpx, rfl, hv, hp3, hx3⟩)
          · have hfin := Lib.hid (show px (b :: 40 :: L2) = none from by
              rw [← HDG.out]; exact px_paren_none k L2 hdv.1 hdv.2 (by rw [hpm.out, pm_none F hpx]))
            have heT := hI.pr.2.1.trans hx3
            clear hpx
            go_wp2_with fail
            go_ret
            exact .inl ⟨hfin.out, rfl, ⟨_, hp3⟩, heT⟩
          · have ht := (px_sound hpx).2.2
            obtain ⟨T, vb, rfl⟩ := hv.shape ht
            have hr3 := px_len hpx
            obtain ⟨a, n, c, vs, ty, g1, g2, g3, g4, g5, g6, g7, g8, g9⟩ := gate_child hI hpx hv hp3 hx3
            have hgb := (Array.getElem?_eq_some_iff.1 g1).1
            have hc4 := blk_cell1 g1
            have G1 := Lib.hid g1
            have G4 := Lib.hid g4
            have G9 := Lib.hid g9
            have HPX := Lib.hid hpx
            have hbk := Lib.hid (fun j hj => (World.ownsRow.lt g2 j hj).1)
            clear g1 g4 g9 hpx hv hx3 ht
            go_wp2_with (at_builtin; refine app_tree _ rfl _ _ rfl w.heap.size a n c vs g2 (.iface T (.pointer (some ⟨vb, 0, none⟩))) rfl rfl rfl (by omega) g6.size ?_; intro g c' w5 ho5 hg5 hat5; have hb5 := Lib.hid ((hg5.block _ hgb (Ne.symm g3)).trans G1.out); have hc5 := blk_cell1 hb5.out; have hf5 := blk_frozen (i := 1) hb5.out)
            have hI6 := gate_filled G1.out g3 G4.out g5 g6 g7 g8 hp3 hbk.out ho5 hg5 hat5
            clear ho5 hg5 hat5 hc5 hf5 hb5 hc4 g2 g3 g5 g6 hbk
            by_cases h41 : r3.head? = some 41
            · obtain ⟨L4, rfl⟩ : ∃ L4, r3 = 41 :: L4 := ⟨_, head_tail h41⟩
              clear h41
              refine (take_yes hI6.pr.1 rfl).mono ?_; rintro e w7 ⟨rfl, hp7, hx7⟩
              have hI7 := hI6.step hp7 hx7 (by simp)
              obtain ⟨a7, c7, hc7⟩ := gate_len hI7
              obtain ⟨q, hq⟩ : ∃ q, q = (F.app t).len := ⟨_, rfl⟩
              rw [← hq] at hc7
              have hend := Lib.hid (show px (b :: 40 :: L2) = if q ≤ 6 ∧ k ≤ q then some (.gate k (F.app t) .nil, L4) else none from by
                rw [← HDG.out, hq]; exact px_paren k L2 L4 _ hdv.1 hdv.2 (by rw [hpm.out, pm_end F HPX.out]))
              clear hq
              by_cases hq6 : q ≤ 6
              · by_cases hkq : k ≤ q
                · have hkI : ¬ (q : Int) < (k : Int) := by omega
                  go_wp2_with fail
                  go_ret
                  exact .inr ⟨_, _, _, by rw [hend.out, if_pos ⟨hq6, hkq⟩], rfl, gate_done hI7, hp7, hI7.pr.2.1⟩
                · have hkI : (q : Int) < (k : Int) := by omega
                  go_wp2_with fail
                  go_ret
                  exact .inl ⟨by rw [hend.out, if_neg (by omega)], rfl, ⟨_, hp7⟩, hI7.pr.2.1⟩
              · have hqI : (6 : Int) < (q : Int) := by omega
                go_wp2_with fail
                go_ret
                exact .inl ⟨by rw [hend.out, if_neg (by omega)], rfl, ⟨_, hp7⟩, hI7.pr.2.1⟩
            · refine (take_no hI6.pr.1 rfl h41).mono ?_; rintro e w7 ⟨rfl, rfl⟩
              by_cases h44 : r3.head? = some 44
              · obtain ⟨L4, rfl⟩ : ∃ L4, r3 = 44 :: L4 := ⟨_, head_tail h44⟩
                clear h44 h41
                go_wp2_with fail
                refine (take_yes hI6.pr.1 rfl).mono ?_; rintro e w7 ⟨rfl, hp7, hx7⟩
                have hI7 := hI6.step hp7 hx7 (by simp)
                have hml7 := Lib.hid hI7.pr.1.rest
                simp only [List.length_cons] at hr3
                have hpm7 := Lib.hid (show pm L2 .nil = pm L4 (F.app t) from by rw [hpm.out, pm_next F HPX.out])
                go_wp2_with fail
                go_roundw
                case rel => exact ⟨F.app t, L4, hI7, by omega, hpm7.out⟩
                case measure => rw [hml7.out, hml.out]; omega
              · have hend := Lib.hid (show px (b :: 40 :: L2) = none from by
                  rw [← HDG.out]; exact px_paren_none k L2 hdv.1 hdv.2 (by rw [hpm.out, pm_other F HPX.out h41 h44]))
                go_wp2_with fail
                refine (take_no hI6.pr.1 rfl h44).mono ?_; rintro e w7 ⟨rfl, rfl⟩
                go_wp2_with fail
                go_ret
                exact .inl ⟨hend.out, rfl, ⟨_, hI6.pr.1⟩, hI6.pr.2.1⟩
      · go_wp2_with fail
        refine (take_no hp1 rfl h40).mono ?_; rintro e w2 ⟨rfl, rfl⟩
        have hfin := Lib.hid (show px (b :: r) = some (.leaf k .nil, r) from by rw [← HDG.out]; exact px_leaf k r hdv.1 hdv.2 h40)
        go_wp2_with fail
        go_ret
        exact .inr ⟨_, _, _, hfin.out, rfl, ⟨_, 57, [], rfl, he1.size, heap_alloc_new w1 _, rfl⟩, hp1.ext ((Ext.refl _ _).alloc _), he1.alloc _⟩
    · have hno : ∀ b r, L = b :: r → isDg b = false := by
        intro b r e
        cases hb : isDg b with
        | false => rfl
        | true => exact absurd ⟨b, r, e, hb⟩ hdig
      have hfin := Lib.hid (show px L = none from by
        cases L with
        | nil => exact px_nil
        | cons b r => exact px_bad b r (hno b r rfl))
      have HNO := Lib.hid hno
      clear hno hdig
      go_enter Tryd.func56, Tryd.ntmps56
      go_wp2_with fail
      refine (digit_no h HNO.out).mono ?_; rintro e w' ⟨rfl, rfl⟩
      go_wp2_with fail
      go_ret
      exact .inl ⟨hfin.out, rfl, ⟨_, h⟩, Ext.refl _ _⟩
end Go.Proofs.YtjjjpakgnipghaaDoor
