/- The helpers of the exact laws, on configurations: szConfig, toConfig, eqConfig, markConfig. Conditions: each lemma's own. -/
import Derived.Test.YtnifgfnhcjhodaaDoorX3
namespace Go.Proofs.YtnifgfnhcjhodaaDoor
open Go.RowKit
set_option linter.unusedVariables false
set_option linter.unusedSimpArgs false

theorem cfg_blk (w : World) (vs : Array Value) (ty : TypeId) : (w.alloc (.cells vs ty)).heap[w.heap.size]? = some (.cells vs ty (0, 0)) := by
  unfold World.alloc; simp
theorem cfg_put0 {w : World} {g : Nat} {x y : Value} {ty : TypeId} (u : Value) (hb : w.heap[g]? = some (.cells #[x, y] ty (0, 0))) :
    (w.setCell ⟨g, 0, none⟩ u).heap[g]? = some (.cells #[u, y] ty (0, 0)) ∧ Chg g (g + 1) w (w.setCell ⟨g, 0, none⟩ u) := by
  refine ⟨by simp [World.setCell, Array.getElem?_modify, hb], ?_⟩
  exact Chg.of_grown (r := some g) ((Ext.refl (some g) w).set (.inr rfl) _) (fun k hk => by cases hk; omega)
theorem cfg_put1 {w : World} {g : Nat} {x y : Value} {ty : TypeId} (u : Value) (hb : w.heap[g]? = some (.cells #[x, y] ty (0, 0))) :
    (w.setCell ⟨g, 1, none⟩ u).heap[g]? = some (.cells #[x, u] ty (0, 0)) ∧ Chg g (g + 1) w (w.setCell ⟨g, 1, none⟩ u) := by
  refine ⟨by simp [World.setCell, Array.getElem?_modify, hb], ?_⟩
  exact Chg.of_grown (r := some g) ((Ext.refl (some g) w).set (.inr rfl) _) (fun k hk => by cases hk; omega)
theorem cfg_put {w : World} {g : Nat} {x y : Value} {ty : TypeId} (u v : Value) (hb : w.heap[g]? = some (.cells #[x, y] ty (0, 0))) :
    ((w.setCell ⟨g, 0, none⟩ u).setCell ⟨g, 1, none⟩ v).heap[g]? = some (.cells #[u, v] ty (0, 0)) ∧ Chg g (g + 1) w ((w.setCell ⟨g, 0, none⟩ u).setCell ⟨g, 1, none⟩ v) :=
  ⟨(cfg_put1 v (cfg_put0 u hb).1).1, (cfg_put0 u hb).2.trans (cfg_put1 v (cfg_put0 u hb).1).2⟩
theorem cfg_cell {w : World} {g : Nat} {x y : Value} {ty : TypeId} (hb : w.heap[g]? = some (.cells #[x, y] ty (0, 0))) :
    w.cell? ⟨g, 0, none⟩ = some x ∧ w.cell? ⟨g, 1, none⟩ = some y ∧ w.frozen? ⟨g, 0, none⟩ = false ∧ w.frozen? ⟨g, 1, none⟩ = false := by
  refine ⟨?_, ?_, ?_, ?_⟩ <;> simp [World.cell?, World.frozen?, hb]
theorem cfg_lt {w : World} {g : Nat} {o : Obj} (hb : w.heap[g]? = some o) : g < w.heap.size := (Array.getElem?_eq_some_iff.1 hb).1
theorem cfg_chg {w w' : World} {g lo hi : Nat} {o : Obj} (hb : w.heap[g]? = some o) (hc : Chg lo hi w w') (hr : g < lo ∨ hi ≤ g) : w'.heap[g]? = some o := (hc.2.2.2.2 g (cfg_lt hb) hr).trans hb
theorem OwnG.chgUp3 {w w' : World} {lo hi lo' hi' : Nat} {a : Option Addr} {n c : Nat} {f : List (List Int)} (h : OwnG w lo hi a n c f) (hc : Chg lo' hi' w w') (hB : hi ≤ lo') : OwnG w' lo hi a n c f := by
  obtain ⟨vs, h1, h2, h3, h4, h5⟩ := h
  refine ⟨vs, Own.same h1 (fun g hg => ?_), h2, fun k v xs hv hx => (h3 k v xs hv hx).same (fun g hg => ?_), h4, h5⟩
  · exact hc.2.2.2.2 g (World.ownsRow.lt h1 g hg).2 (.inl (Nat.lt_of_lt_of_le (h5 g hg) hB))
  · have hr := h3 k v xs hv hx
    have hlt := (hr.lt g hg).2
    obtain ⟨_, _, _, rfl, _, r⟩ := hr
    exact hc.2.2.2.2 g hlt (.inl (Nat.lt_of_lt_of_le (r g hg).1 hB))

set_option maxHeartbeats 1000000 in
theorem szConfig_any {a : Option Addr} {n c : Nat} {f : List (List Int)} {b : Option Addr} {m d : Nat} {g : List (List Int)} {w : World} (h1 : Fam w a n f) (h2 : Fam w b m g) :
    Calls Tryd.prog 4 #[.agg #[.slice a n c, .slice b m d], .int .i64 1048576] w fun e w' => (tot f + tot g ≤ 1048576 ∧ (∃ k : Nat, k ≤ 1048576 ∧ e = .returned (.int .i64 (k : Int))) ∨ e = .returned (.int .i64 (-1))) ∧ Ext none w w' := by
  have hE := Lib.hid ((Ext.refl none w).alloc (.cells #[.slice a n c, .slice b m d] 24))
  have hb := Lib.hid (cfg_blk w #[.slice a n c, .slice b m d] 24)
  obtain ⟨hc0, hc1, _, _⟩ := cfg_cell hb.out
  obtain ⟨wz, hwz⟩ : ∃ x, x = w.alloc (.cells #[.slice a n c, .slice b m d] 24) := ⟨_, rfl⟩
  have F1 := Lib.hid h1
  have F2 := Lib.hid h2
  clear h1 h2
  go_enter Tryd.func4, Tryd.ntmps4
  go_wp2_with fail
  rw [← hwz] at hc0 hc1 hE ⊢
  clear hwz hb
  refine (szIntSS_any (left := 1048576) (F1.out.ext hE.out) (by omega)).mono ?_; rintro e w_ ⟨⟨ht0, rfl⟩ | ⟨ht0, rfl⟩, rfl⟩
  · obtain ⟨r, hr⟩ : ∃ r : Nat, r = 1048576 - tot f := ⟨_, rfl⟩
    rw [← hr]
    have HR := Lib.hid hr
    have hr2 : r ≤ 1048576 := by omega
    have HT := Lib.hid ht0
    clear hr ht0
    go_wp2_with fail
    refine (szIntSS_any (left := r) (F2.out.ext hE.out) hr2).mono ?_; rintro e w_ ⟨⟨ht1, rfl⟩ | ⟨ht1, rfl⟩, rfl⟩
    · obtain ⟨q, hq⟩ : ∃ q : Nat, q = r - tot g := ⟨_, rfl⟩
      rw [← hq]
      have hq2 : q ≤ 1048576 := by omega
      have HF := Lib.hid (show tot f + tot g ≤ 1048576 from by have := HR.out; have := HT.out; omega)
      clear hq ht1
      go_wp2_with fail
      go_ret
      exact ⟨.inl ⟨HF.out, q, hq2, rfl⟩, hE.out⟩
    · go_wp2_with fail
      go_ret
      exact ⟨.inr rfl, hE.out⟩
  · go_wp2_with fail
    go_ret
    exact ⟨.inr rfl, hE.out⟩

/-- what toConfig leaves: two families of its own, the second behind the first -/
def RTC (w : World) (f g : List (List Int)) (e : Ending) (w' : World) : Prop :=
  ∃ a n c b m d lo mid hi, e = .returned (.agg #[.slice a n c, .slice b m d]) ∧ OwnG w' lo mid a n c f ∧ OwnG w' mid hi b m d g ∧ w.heap.size ≤ lo ∧ lo ≤ mid ∧ mid ≤ hi ∧ hi ≤ w'.heap.size ∧ Ext none w w'
set_option maxHeartbeats 2000000 in
theorem toConfig_any {a : Option Addr} {n c : Nat} {f : List (List Int)} {b : Option Addr} {m d : Nat} {g : List (List Int)} {w : World} (h1 : Fam w a n f) (h2 : Fam w b m g) (ht1 : tot f ≤ 1048576) (ht2 : tot g ≤ 1048576) :
    Calls Tryd.prog 6 #[.agg #[.slice a n c, .slice b m d]] w (RTC w f g) := by
  have HT1 := Lib.hid ht1
  have HT2 := Lib.hid ht2
  obtain ⟨wa, hwa⟩ : ∃ x, x = w.alloc (.cells #[.slice a n c, .slice b m d] 24) := ⟨_, rfl⟩
  obtain ⟨wb, hwb⟩ : ∃ x, x = wa.alloc (.cells #[.slice none 0 0, .slice none 0 0] 28) := ⟨_, rfl⟩
  obtain ⟨wz, hwz⟩ : ∃ x, x = wb.alloc (.cells #[.slice none 0 0, .slice none 0 0] 28) := ⟨_, rfl⟩
  have ea : Ext none w wa := by rw [hwa]; exact (Ext.refl _ _).alloc _
  have eb : Ext none wa wb := by rw [hwb]; exact (Ext.refl _ _).alloc _
  have ez : Ext none wb wz := by rw [hwz]; exact (Ext.refl _ _).alloc _
  have sa : wa.heap.size = w.heap.size + 1 := by rw [hwa, World.size_alloc]
  have sb : wb.heap.size = w.heap.size + 2 := by rw [hwb, World.size_alloc, sa]
  have sz : wz.heap.size = w.heap.size + 3 := by rw [hwz, World.size_alloc, sb]
  have B0 : wz.heap[w.heap.size]? = some (.cells #[.slice a n c, .slice b m d] 24 (0, 0)) := by
    refine ez.blk (eb.blk ?_ (by simp)) (by simp); rw [hwa]; exact cfg_blk _ _ _
  have B1 : wz.heap[w.heap.size + 1]? = some (.cells #[.slice none 0 0, .slice none 0 0] 28 (0, 0)) := by
    rw [← sa]; refine ez.blk ?_ (by simp); rw [hwb]; exact cfg_blk _ _ _
  have B2 : wz.heap[w.heap.size + 1 + 1]? = some (.cells #[.slice none 0 0, .slice none 0 0] 28 (0, 0)) := by
    rw [show w.heap.size + 1 + 1 = wb.heap.size from sb.symm, hwz]; exact cfg_blk _ _ _
  have E0 := Lib.hid ((ea.trans eb).trans ez)
  have H1 := Lib.hid (h1.ext E0.out)
  have H2 := Lib.hid h2
  obtain ⟨hc0, hc1, _, _⟩ := cfg_cell B0
  have SA := Lib.hid sa
  have SB := Lib.hid sb
  have SZ := Lib.hid sz
  have hz := Lib.hid (show wz = ((w.alloc (.cells #[.slice a n c, .slice b m d] 24)).alloc (.cells #[.slice none 0 0, .slice none 0 0] 28)).alloc (.cells #[.slice none 0 0, .slice none 0 0] 28) from by rw [hwz, hwb, hwa])
  have HB0 := Lib.hid B0
  have HB1 := Lib.hid B1
  have HB2 := Lib.hid B2
  clear h1 h2 ht1 ht2 ea eb ez sa sb sz B0 B1 B2 hwz hwb hwa
  go_enter Tryd.func6, Tryd.ntmps6
  go_wp2_with fail
  rw [← hz.out]
  refine (toIntSS_any H1.out HT1.out).mono ?_; rintro e w1 ⟨a1, n1, c1, rfl, o1, e1⟩
  have C2 := e1.blk HB2.out (by simp)
  obtain ⟨k0, k1, z0, z1⟩ := cfg_cell C2
  have P1 := Lib.hid (cfg_put0 (.slice a1 n1 c1) C2)
  obtain ⟨_, q1, _, _⟩ := cfg_cell (cfg_chg (e1.blk HB0.out (by simp)) P1.out.2 (.inl (by omega)))
  have S1 := Lib.hid e1.size
  have EW := Lib.hid (P1.out.2.ext (E0.out.trans e1) (by omega))
  have G1 := Lib.hid (o1.chg P1.out.2 (by have := SZ.out; omega))
  have D1 := Lib.hid (cfg_chg (e1.blk HB1.out (by simp)) P1.out.2 (.inl (by omega)))
  clear o1 e1 C2 hc0 hc1
  go_wp2_with fail
  clear k0 k1 z0 z1
  obtain ⟨W1, hW1⟩ : ∃ W, W = w1.setCell ⟨w.heap.size + 1 + 1, 0, none⟩ (.slice a1 n1 c1) := ⟨_, rfl⟩
  rw [← hW1] at P1 EW G1 D1 q1 ⊢
  clear hW1
  refine (toIntSS_any (H2.out.ext EW.out) HT2.out).mono ?_; rintro e w2 ⟨a2, n2, c2, rfl, o2, e2⟩
  have C3 := e2.blk P1.out.1 (by simp)
  obtain ⟨k0, k1, z0, z1⟩ := cfg_cell C3
  have P2 := Lib.hid (cfg_put1 (.slice a2 n2 c2) C3)
  obtain ⟨r0, r1, _, _⟩ := cfg_cell P2.out.1
  have D2 := cfg_chg (e2.blk D1.out (by simp)) P2.out.2 (.inl (by omega))
  obtain ⟨s0, s1, y0, y1⟩ := cfg_cell D2
  have P3 := Lib.hid (cfg_put (.slice a1 n1 c1) (.slice a2 n2 c2) D2)
  have S2 := Lib.hid e2.size
  have S12 := Lib.hid P1.out.2.2.2.2.1
  have EW2 := Lib.hid (P3.out.2.ext (P2.out.2.ext (EW.out.trans e2) (by omega)) (by omega))
  have G2 := Lib.hid (((G1.out.ext0 e2).chg P2.out.2 (by have := SZ.out; omega)).chg P3.out.2 (by have := SZ.out; omega))
  have G3 := Lib.hid ((((o2.low S12.out).chg P2.out.2 (by have := SZ.out; have := S1.out; omega))).chg P3.out.2 (by have := SZ.out; have := S1.out; omega))
  have S3 := Lib.hid (Nat.le_trans P2.out.2.2.2.2.1 P3.out.2.2.2.2.1)
  have P3b := Lib.hid P3.out.1
  clear o2 e2 C3 D2 q1 G1 D1 EW P1 P2
  go_wp2_with fail
  clear P3
  obtain ⟨W, hW⟩ : ∃ W, W = ((w2.setCell ⟨w.heap.size + 1 + 1, 1, none⟩ (.slice a2 n2 c2)).setCell ⟨w.heap.size + 1, 0, none⟩ (.slice a1 n1 c1)).setCell ⟨w.heap.size + 1, 1, none⟩ (.slice a2 n2 c2) := ⟨_, rfl⟩
  rw [← hW] at P3b G2 G3 S3 EW2 ⊢
  obtain ⟨t0, t1, _, _⟩ := cfg_cell P3b.out
  refine bodyPost_ret (v := .agg #[.slice a1 n1 c1, .slice a2 n2 c2]) (by simp [results, Tryd.results6, go_sem, t0, t1]) rfl ?_
  exact ⟨_, _, _, _, _, _, wz.heap.size, w1.heap.size, w2.heap.size, rfl, G2.out, G3.out, by have := SZ.out; omega, S1.out, Nat.le_trans S12.out S2.out, S3.out, EW2.out⟩

set_option maxHeartbeats 1000000 in
theorem eqConfig_is {a : Option Addr} {n c : Nat} {f : List (List Int)} {b : Option Addr} {m d : Nat} {g : List (List Int)} {a' : Option Addr} {n' c' : Nat} {b' : Option Addr} {m' d' : Nat} {w : World} (h1 : Fam w a n f) (h2 : Fam w b m g) (h1' : Fam w a' n' f) (h2' : Fam w b' m' g) :
    Calls Tryd.prog 9 #[.agg #[.slice a n c, .slice b m d], .agg #[.slice a' n' c', .slice b' m' d']] w fun e w' => e = .returned (.bool true) ∧ Ext none w w' := by
  have hE := Lib.hid (((Ext.refl none w).alloc (.cells #[.slice a n c, .slice b m d] 28)).alloc (.cells #[.slice a' n' c', .slice b' m' d'] 28))
  have hA := Lib.hid (((Ext.refl none (w.alloc (.cells #[.slice a n c, .slice b m d] 28))).alloc (.cells #[.slice a' n' c', .slice b' m' d'] 28)).blk (cfg_blk w #[.slice a n c, .slice b m d] 28) (by simp))
  have hB := Lib.hid (cfg_blk (w.alloc (.cells #[.slice a n c, .slice b m d] 28)) #[.slice a' n' c', .slice b' m' d'] 28)
  have hsf := Lib.hid (sameF_refl f)
  have hsg := Lib.hid (sameF_refl g)
  obtain ⟨wz, hwz⟩ : ∃ x, x = (w.alloc (.cells #[.slice a n c, .slice b m d] 28)).alloc (.cells #[.slice a' n' c', .slice b' m' d'] 28) := ⟨_, rfl⟩
  have F1 := Lib.hid h1
  have F2 := Lib.hid h2
  have F1' := Lib.hid h1'
  have F2' := Lib.hid h2'
  clear h1 h2 h1' h2'
  go_enter Tryd.func9, Tryd.ntmps9
  go_wp2_with fail
  rw [← hwz] at hA hB hE ⊢
  clear hwz
  refine (eqIntSS_is (F1.out.ext hE.out) (F1'.out.ext hE.out) hsf.out).mono ?_; rintro e w1 ⟨rfl, d1⟩
  have hE1 := Lib.hid (hE.out.trans (d1.ext (r := none)))
  obtain ⟨hc0, hc1, _, _⟩ := cfg_cell ((d1.ext (r := none)).blk hA.out (by simp))
  obtain ⟨hc2, hc3, _, _⟩ := cfg_cell ((d1.ext (r := none)).blk hB.out (by simp))
  rw [World.size_alloc] at hc2 hc3
  clear d1
  go_wp2_with fail
  refine (eqIntSS_is (F2.out.ext hE1.out) (F2'.out.ext hE1.out) hsg.out).mono ?_; rintro e w2 ⟨rfl, d2⟩
  go_wp2_with fail
  go_ret
  exact ⟨rfl, hE1.out.trans (d2.ext (r := none))⟩

set_option maxHeartbeats 1000000 in
theorem markConfig_to {lo mid hi : Nat} {a : Option Addr} {n c : Nat} {f : List (List Int)} {b : Option Addr} {m d : Nat} {g : List (List Int)} {w : World} (h1 : OwnG w lo mid a n c f) (h2 : OwnG w mid hi b m d g) (hlm : lo ≤ mid) (hmh : mid ≤ hi) (hhw : hi ≤ w.heap.size) (ht1 : tot f ≤ 1048576) (ht2 : tot g ≤ 1048576) :
    Calls Tryd.prog 10 #[.agg #[.slice a n c, .slice b m d], .int .i64 1] w fun e w' => (∃ z : Int, 0 ≤ z ∧ z ≤ 60000000 ∧ e = .returned (.int .i64 z)) ∧ Chg lo hi w w' := by
  have hn1 := Lib.hid (show n ≤ 1048576 from by rw [← h1.len]; unfold tot at ht1; omega)
  have hm1 := Lib.hid (show m ≤ 1048576 from by rw [← h2.len]; unfold tot at ht2; omega)
  have hs1 := Lib.hid (show sumLen f ≤ 1048576 from by unfold tot at ht1; omega)
  have hs2 := Lib.hid (show sumLen g ≤ 1048576 from by unfold tot at ht2; omega)
  have e0 : Ext none w (w.alloc (.cells #[.slice a n c, .slice b m d] 28)) := (Ext.refl _ _).alloc _
  have G1 := Lib.hid (h1.ext0 e0)
  have G2 := Lib.hid (h2.ext0 e0)
  have hT := Lib.hid (cfg_blk w #[.slice a n c, .slice b m d] 28)
  have hC0 := Lib.hid (Chg.of_grown (lo := lo) (hi := hi) e0 (fun _ h => by cases h))
  clear h1 h2 ht1 ht2
  obtain ⟨wz, hwz⟩ : ∃ x, x = w.alloc (.cells #[.slice a n c, .slice b m d] 28) := ⟨_, rfl⟩
  go_enter Tryd.func10, Tryd.ntmps10
  go_wp2_with fail
  rw [← hwz] at G1 G2 hT hC0 ⊢
  clear hwz
  refine (markIntSS_any G1.out (by omega) (by omega) hs1.out hn1.out).mono ?_; rintro e w1 ⟨rfl, om, gm⟩
  obtain ⟨z1, hz1⟩ : ∃ z : Int, z = 1 + (sumLen f : Int) := ⟨_, rfl⟩
  rw [← hz1]
  have hz0 : 0 ≤ z1 ∧ z1 ≤ 2000000 := by have := hs1.out; omega
  clear hz1
  obtain ⟨hza, hzb⟩ := hz0
  have G2 := Lib.hid (G2.out.chg gm (Nat.le_refl _))
  obtain ⟨hc0, hc1, _, _⟩ := cfg_cell (cfg_chg hT.out gm (.inr (Nat.le_trans hmh hhw)))
  have hC1 := Lib.hid (hC0.out.trans (⟨gm.1, gm.2.1, gm.2.2.1, gm.2.2.2.1, fun i hi1 hi2 => gm.2.2.2.2 i hi1 (hi2.imp id (fun h => Nat.le_trans hmh h))⟩ : Chg lo hi _ _))
  clear om gm
  go_wp2_with fail
  refine (markIntSS_any G2.out hza (by omega) hs2.out hm1.out).mono ?_; rintro e w2 ⟨rfl, om2, gm2⟩
  have hC2 := Lib.hid (hC1.out.trans (⟨gm2.1, gm2.2.1, gm2.2.2.1, gm2.2.2.2.1, fun i hi1 hi2 => gm2.2.2.2.2 i hi1 (hi2.imp (fun h => Nat.lt_of_lt_of_le h hlm) id)⟩ : Chg lo hi _ _))
  obtain ⟨z2, hz2⟩ : ∃ z : Int, z = z1 + (sumLen g : Int) := ⟨_, rfl⟩
  rw [← hz2]
  have hz3 := Lib.hid (show 0 ≤ z2 ∧ z2 ≤ 60000000 from by have := hs2.out; omega)
  clear om2 gm2 hz2
  go_wp2_with fail
  go_ret
  exact ⟨⟨z2, hz3.out.1, hz3.out.2, rfl⟩, hC2.out⟩
end Go.Proofs.YtnifgfnhcjhodaaDoor
