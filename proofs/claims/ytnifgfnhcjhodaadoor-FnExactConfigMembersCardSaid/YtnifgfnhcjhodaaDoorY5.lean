/- impl.readConfig, beside leavers. Conditions: two families and the sentinels lie in memory. -/
import Derived.Test.YtnifgfnhcjhodaaDoorY4
import Derived.Test.YtnifgfnhcjhodaaDoorY2
import Derived.Test.YtnifgfnhcjhodaaDoorP1
import Derived.Deep.RegionLaw
import Derived.BigRegion
set_option linter.unusedVariables false
set_option linter.unusedSimpArgs false
namespace Go.Proofs.YtnifgfnhcjhodaaDoor
open Go.Conc Go.RowKit

def S2 (u : World) (B : Nat) (x y : Value) : Prop := u.heap[B]? = some (.cells #[x, y] 41 (0, 0))
theorem Gx.s2 {u u' : World} {B : Nat} {x y : Value} (g : Gx u u') (h : S2 u B x y) : S2 u' B x y := (g.block _ (cfg_lt h)).trans h
theorem Gx.ownC {u u' : World} {B : Nat} {a : Option Addr} {n c : Nat} {q : List Nat} (g : Gx u u') (h : OwnC u B a n c q) : OwnC u' B a n c q := by have := h.ext0 g.ext; exact this
theorem Gx.ownG {u u' : World} {lo hi : Nat} {a : Option Addr} {n c : Nat} {f : List (List Int)} (g : Gx u u') (h : OwnG u lo hi a n c f) : OwnG u' lo hi a n c f := by have := h.ext0 g.ext; exact this
theorem Gx.ownI {u u' : World} {B : Nat} {a : Option Addr} {n c : Nat} {xs : List Int} (g : Gx u u') (h : OwnI u B a n c xs) : OwnI u' B a n c xs := by have := h.ext0 g.ext; exact this
theorem Gx.of_chg {u v w : World} {lo hi : Nat} (h : Gx u v) (hc : Chg lo hi v w) (hl : u.heap.size ≤ lo) : Gx u w :=
  h.chg hc.1 hc.2.2.1 hc.2.2.2.1 fun i hi => hc.2.2.2.2 i (Nat.lt_of_lt_of_le hi h.size) (.inl (Nat.lt_of_lt_of_le hi hl))
theorem Gx.of_grown {u v w : World} {r : Option Nat} (h : Gx u v) (hg : v.grownBy w r) (hr : ∀ k, r = some k → u.heap.size ≤ k) : Gx u w :=
  h.chg hg.os hg.output hg.size fun i hi => hg.block i (Nat.lt_of_lt_of_le hi h.size) fun e => by have := hr i e.symm; omega
/-- A row that lies below the one that is marked. -/
theorem OwnI.under {v w : World} {B R : Nat} {a : Option Addr} {n c : Nat} {xs : List Int} {r : Option Nat} (h : OwnI v B a n c xs) (hb : ∀ k, (Value.slice a n c).ownBlock = some k → k < R) (hg : v.grownBy w r) (hr : ∀ k, r = some k → R ≤ k) : OwnI w B a n c xs :=
  Own.same h fun g hgb => hg.block g (World.ownsRow.lt h g hgb).2 fun e => by have h1 := hb g hgb; have h2 := hr g e.symm; omega
theorem okC_no {f g : List (List Int)} (h : ok2 f g = false) : okC f g = false := by
  unfold ok2 at h; unfold okC
  cases hf : famB f <;> cases hg : famB g <;> simp_all
theorem ok2_fam {f g : List (List Int)} (h : ok2 f g = true) : famB f = true ∧ famB g = true := by
  unfold ok2 at h; simpa [Bool.and_eq_true] using h
theorem okC_ok2 {f g : List (List Int)} (h : okC f g = true) : ok2 f g = true := by
  cases h2 : ok2 f g
  · rw [okC_no h2] at h; cases h
  · rfl
theorem okC_len {f g : List (List Int)} {n m : Nat} (h : ok2 f g = true) (hn : (rdF f).length = n) (hm : (rdF g).length = m) : okC f g = (decide (0 < n) && decide (0 < m)) := by
  obtain ⟨h1, h2⟩ := ok2_fam h
  rw [rdF_yes h1, masks_len] at hn
  rw [rdF_yes h2, masks_len] at hm
  unfold okC
  rw [h1, h2, hn, hm]
  rfl
/-- What readConfig returns. -/
def RdC (f g : List (List Int)) (a0 a1 : Addr) (s0 s1 e : Value) (u : World) : Prop :=
  ∃ x n c y m d, s0 = .slice x n c ∧ s1 = .slice y m d ∧ ((okC f g = false ∧ e = .iface 124 (.pointer (some a0))) ∨ (okC f g = true ∧ OwnC u 0 x n c (masks f) ∧ OwnC u 0 y m d (masks g) ∧ (e = .nilIface ∨ e = .iface 124 (.pointer (some a1)))))
def PostR (f g : List (List Int)) (a0 a1 : Addr) (v : Value) (u : World) : Prop := ∃ s0 s1 e, v = .tuple #[.agg #[s0, s1], e] ∧ RdC f g a0 a1 s0 s1 e u
def RetR (f g : List (List Int)) (a0 a1 : Addr) (B2 : Nat) (T : Array Value) (u : World) : Prop := ∃ s0 s1 e, T.getD 2 undef = .pointer (some ⟨B2, 0, none⟩) ∧ T.getD 3 undef = e ∧ S2 u B2 s0 s1 ∧ RdC f g a0 a1 s0 s1 e u
theorem readConfig_results {T : Array Value} {u : World} {B : Nat} {s0 s1 e : Value} (h2 : T.getD 2 undef = .pointer (some ⟨B, 0, none⟩)) (h3 : T.getD 3 undef = e) (hs : S2 u B s0 s1) :
    (results Tryd.f17 T).run Tryd.prog u = .ok (.tuple #[.agg #[s0, s1], e]) u := by
  obtain ⟨k0, k1, _, _⟩ := cfg_cell hs
  simp only [Array.getD_eq_getD_getElem?] at h2 h3
  simp [results, Tryd.results17, go_sem, h2, h3, k0, k1]
noncomputable def bRc : Code := Tryd.f17.body.getD .skip
noncomputable def rRc5 : Array Oper := co (cl (cl (ct 4 bRc)))
noncomputable def kRc6 : Code := cth (cr (cl (ct 4 bRc)))
theorem rc4 : cl (ct 4 bRc) = .seq (.region 5 rRc5 false) (.cond (.tmp 38) kRc6 .skip) := rfl
set_option maxRecDepth 10000 in
theorem arr42 {motive : Array Value → Prop} (k : ∀ e0 e1 e2 e3 e4 e5 e6 e7 e8 e9 e10 e11 e12 e13 e14 e15 e16 e17 e18 e19 e20 e21 e22 e23 e24 e25 e26 e27 e28 e29 e30 e31 e32 e33 e34 e35 e36 e37 e38 e39 e40 e41 : Value, motive #[e0, e1, e2, e3, e4, e5, e6, e7, e8, e9, e10, e11, e12, e13, e14, e15, e16, e17, e18, e19, e20, e21, e22, e23, e24, e25, e26, e27, e28, e29, e30, e31, e32, e33, e34, e35, e36, e37, e38, e39, e40, e41]) : ∀ T : Array Value, T.size = 42 → motive T := by
  intro T h
  obtain ⟨l⟩ := T
  have h : l.length = 42 := h
  obtain ⟨e0, l0, rfl, h0⟩ := lcons h
  obtain ⟨e1, l1, rfl, h1⟩ := lcons h0
  obtain ⟨e2, l2, rfl, h2⟩ := lcons h1
  obtain ⟨e3, l3, rfl, h3⟩ := lcons h2
  obtain ⟨e4, l4, rfl, h4⟩ := lcons h3
  obtain ⟨e5, l5, rfl, h5⟩ := lcons h4
  obtain ⟨e6, l6, rfl, h6⟩ := lcons h5
  obtain ⟨e7, l7, rfl, h7⟩ := lcons h6
  obtain ⟨e8, l8, rfl, h8⟩ := lcons h7
  obtain ⟨e9, l9, rfl, h9⟩ := lcons h8
  obtain ⟨e10, l10, rfl, h10⟩ := lcons h9
  obtain ⟨e11, l11, rfl, h11⟩ := lcons h10
  obtain ⟨e12, l12, rfl, h12⟩ := lcons h11
  obtain ⟨e13, l13, rfl, h13⟩ := lcons h12
  obtain ⟨e14, l14, rfl, h14⟩ := lcons h13
  obtain ⟨e15, l15, rfl, h15⟩ := lcons h14
  obtain ⟨e16, l16, rfl, h16⟩ := lcons h15
  obtain ⟨e17, l17, rfl, h17⟩ := lcons h16
  obtain ⟨e18, l18, rfl, h18⟩ := lcons h17
  obtain ⟨e19, l19, rfl, h19⟩ := lcons h18
  obtain ⟨e20, l20, rfl, h20⟩ := lcons h19
  obtain ⟨e21, l21, rfl, h21⟩ := lcons h20
  obtain ⟨e22, l22, rfl, h22⟩ := lcons h21
  obtain ⟨e23, l23, rfl, h23⟩ := lcons h22
  obtain ⟨e24, l24, rfl, h24⟩ := lcons h23
  obtain ⟨e25, l25, rfl, h25⟩ := lcons h24
  obtain ⟨e26, l26, rfl, h26⟩ := lcons h25
  obtain ⟨e27, l27, rfl, h27⟩ := lcons h26
  obtain ⟨e28, l28, rfl, h28⟩ := lcons h27
  obtain ⟨e29, l29, rfl, h29⟩ := lcons h28
  obtain ⟨e30, l30, rfl, h30⟩ := lcons h29
  obtain ⟨e31, l31, rfl, h31⟩ := lcons h30
  obtain ⟨e32, l32, rfl, h32⟩ := lcons h31
  obtain ⟨e33, l33, rfl, h33⟩ := lcons h32
  obtain ⟨e34, l34, rfl, h34⟩ := lcons h33
  obtain ⟨e35, l35, rfl, h35⟩ := lcons h34
  obtain ⟨e36, l36, rfl, h36⟩ := lcons h35
  obtain ⟨e37, l37, rfl, h37⟩ := lcons h36
  obtain ⟨e38, l38, rfl, h38⟩ := lcons h37
  obtain ⟨e39, l39, rfl, h39⟩ := lcons h38
  obtain ⟨e40, l40, rfl, h40⟩ := lcons h39
  obtain ⟨e41, l41, rfl, h41⟩ := lcons h40
  obtain rfl := List.length_eq_zero_iff.1 h41
  exact k e0 e1 e2 e3 e4 e5 e6 e7 e8 e9 e10 e11 e12 e13 e14 e15 e16 e17 e18 e19 e20 e21 e22 e23 e24 e25 e26 e27 e28 e29 e30 e31 e32 e33 e34 e35 e36 e37 e38 e39 e40 e41

set_option maxRecDepth 20000 in
set_option maxHeartbeats 4000000 in
theorem readConfig_g {a : Option Addr} {n ca : Nat} {f : List (List Int)} {b : Option Addr} {m cb : Nat} {g : List (List Int)} {a0 a1 : Addr} {u : World} (hf : Fam u a n f) (hg2 : Fam u b m g) (E : Errs u a0 a1) :
    GCalls Tryd.prog 17 #[.agg #[.slice a n ca, .slice b m cb]] u (PostR f g a0 a1) := by
  have E0 := E
  refine GCalls.of (cd := bRc) Tryd.func17 rfl fun X c cs hXl => ?_
  have leave : ∀ {X' : Nat → Prop} {u1 : World} {a' : Act} {todo : List Item} {B2 : Nat}, a'.defers = [] → RetR f g a0 a1 B2 a'.tmps u1 → Gw Tryd.prog X u (fun X' g' w' => ∃ v u', g' = G (c.finish v) cs ∧ Wd X u X' u' w' ∧ PostR f g a0 a1 v u') X' u1 (G { (base 17).at a' todo with mode := .returning } (c :: cs)) := fun hd h2 => by
    obtain ⟨s0, s1, e, h2, h3, hs, hr⟩ := h2
    exact Gw.leaveS (v := .tuple #[.agg #[s0, s1], e]) Tryd.func17 hd (readConfig_results h2 h3 hs) (Gw.done (Post := PostR f g a0 a1) ⟨_, _, _, rfl, hr⟩)
  refine Gw.ctl rfl (fun w => stepG_seq (x := cl (ct 0 bRc)) (y := (ct 1 bRc))) ?_
  refine Gw.seg CC RR (f := 17) (N := fun a' u' => ∃ B1 B2, (a'.tmps.size = 42 ∧ a'.defers = [] ∧ a'.tmps.getD 1 undef = .pointer (some ⟨B1, 0, none⟩) ∧ a'.tmps.getD 2 undef = .pointer (some ⟨B2, 0, none⟩)) ∧ u'.heap[B1]? = some (.cells #[.slice a n ca, .slice b m cb] 28 (0, 0)) ∧ S2 u' B2 (.slice none 0 0) (.slice none 0 0) ∧ u.heap.size ≤ B2) (Rt := fun a' u' => False) rfl (kn_nil rfl) rfl (by kernel_rfl) (fun _ _ _ _ h => h) (fun _ _ _ _ h => h) (fun t d => ?_) (fun A u1 hg h => ?_) fun _ _ _ _ _ h => h.elim
  · have HS : u.heap.size ≤ ((World.re u t d)).heap.size := Nat.le_refl _
    generalize World.re u t d = v at HS
    simp only [bRc, cl, cr, ct, co, Tryd.f17, Option.getD_some, List.size_toArray, List.length_cons, List.length_nil, Nat.reduceAdd, Nat.reduceSub, Array.replicate_succ, Array.replicate_zero, List.push_toArray, List.append_toArray, List.nil_append, List.cons_append]
    have K1 := ((Ext.refl none (v.alloc (.cells #[.slice a n ca, .slice b m cb] 28))).alloc (.cells #[.slice none 0 0, .slice none 0 0] 41)).blk (cfg_blk v #[.slice a n ca, .slice b m cb] 28) (by simp)
    have K2 := cfg_blk (v.alloc (.cells #[.slice a n ca, .slice b m cb] 28)) #[.slice none 0 0, .slice none 0 0] 41
    rw [World.size_alloc] at K2
    have HE := ((Ext.refl none v).alloc (.cells #[.slice a n ca, .slice b m cb] 28)).alloc (.cells #[.slice none 0 0, .slice none 0 0] 41)
    go_wp2_with fail
    exact ⟨⟨_, _, ⟨rfl, rfl, rfl, rfl⟩, K1, (show S2 _ _ _ _ from K2), Nat.le_trans HS (Nat.le_succ _)⟩, HE⟩
  obtain ⟨B1, B2, hA, hB1, hB2, hlB⟩ := h
  obtain ⟨T, ds⟩ := A
  obtain ⟨hsz, hds, h_1, h_2⟩ := hA
  obtain rfl : ds = [] := hds
  try clear hds
  replace hsz : T.size = 42 := hsz
  revert h_1 h_2
  revert hsz
  revert T
  refine arr42 ?_
  intro e0 e1 e2 e3 e4 e5 e6 e7 e8 e9 e10 e11 e12 e13 e14 e15 e16 e17 e18 e19 e20 e21 e22 e23 e24 e25 e26 e27 e28 e29 e30 e31 e32 e33 e34 e35 e36 e37 e38 e39 e40 e41 h_1 h_2
  have h_1 : e1 = .pointer (some ⟨B1, 0, none⟩) := h_1
  subst h_1
  have h_2 : e2 = .pointer (some ⟨B2, 0, none⟩) := h_2
  subst h_2
  replace hf : Fam u1 a n f := hg.fam hf
  replace hg2 : Fam u1 b m g := hg.fam hg2
  replace E : Errs u1 a0 a1 := E.gx hg
  clear hg
  refine Gw.ctl rfl (fun w => stepG_seq (x := cl (ct 1 bRc)) (y := (ct 2 bRc))) ?_
  refine Gw.seg CC RR (f := 17) (N := fun a' u' => ∃ xa n1 c1 ya m1 d1, (a'.tmps.size = 42 ∧ a'.defers = [] ∧ a'.tmps.getD 2 undef = .pointer (some ⟨B2, 0, none⟩) ∧ a'.tmps.getD 4 undef = .slice xa n1 c1 ∧ a'.tmps.getD 5 undef = .slice ya m1 d1 ∧ a'.tmps.getD 6 undef = .bool (ok2 f g)) ∧ OwnC u' (B2 + 1) xa n1 c1 (rdF f) ∧ OwnC u' (B2 + 1) ya m1 d1 (rdF g)) (Rt := fun a' u' => False) rfl (kn_nil rfl) rfl (by kernel_rfl) (fun _ _ _ _ h => h) (fun _ _ _ _ h => h) (fun t d => ?_) (fun A u2 hg h => ?_) fun _ _ _ _ _ h => h.elim
  · have HB2 : S2 (World.re u1 t d) B2 (.slice none 0 0) (.slice none 0 0) := hB2
    have H1 : Fam (World.re u1 t d) a n f := hf
    have H2 : Fam (World.re u1 t d) b m g := hg2
    have HB : (World.re u1 t d).heap[B1]? = some (.cells #[.slice a n ca, .slice b m cb] 28 (0, 0)) := hB1
    generalize World.re u1 t d = v at HB2 H1 H2 HB
    simp only [bRc, cl, cr, ct, co, Tryd.f17, Option.getD_some]
    obtain ⟨k0, k1, _, _⟩ := cfg_cell HB
    go_wp2_with fail
    refine (readFamilies_any H1 H2).mono ?_; rintro e w1 ⟨x1, l1, c1, y1, l2, d1, rfl, o1, o2, hne, e1⟩
    go_wp2_with fail
    exact ⟨⟨_, _, _, _, _, _, ⟨rfl, rfl, rfl, rfl, rfl, rfl⟩, Own.mono o1 (cfg_lt HB2), Own.mono o2 (cfg_lt HB2)⟩, e1⟩
  obtain ⟨xa, n1, c1, ya, m1, d1, hA, hx, hy⟩ := h
  obtain ⟨T, ds⟩ := A
  obtain ⟨hsz, hds, h_2, h_4, h_5, h_6⟩ := hA
  obtain rfl : ds = [] := hds
  try clear hds
  replace hsz : T.size = 42 := hsz
  revert h_2 h_4 h_5 h_6
  revert hsz
  revert T
  refine arr42 ?_
  intro e0 e1 e2 e3 e4 e5 e6 e7 e8 e9 e10 e11 e12 e13 e14 e15 e16 e17 e18 e19 e20 e21 e22 e23 e24 e25 e26 e27 e28 e29 e30 e31 e32 e33 e34 e35 e36 e37 e38 e39 e40 e41 h_2 h_4 h_5 h_6
  have h_2 : e2 = .pointer (some ⟨B2, 0, none⟩) := h_2
  subst h_2
  have h_4 : e4 = .slice xa n1 c1 := h_4
  subst h_4
  have h_5 : e5 = .slice ya m1 d1 := h_5
  subst h_5
  have h_6 : e6 = .bool (ok2 f g) := h_6
  subst h_6
  replace hB2 := hg.s2 hB2
  replace E : Errs u2 a0 a1 := E.gx hg
  clear hg hB1 hf hg2
  have hB0 : B2 ≠ 0 := by have := World.block_lt_of_cell? u _ E0.g0; simp at this; omega
  have hB1 : B2 ≠ 1 := by have := World.block_lt_of_cell? u _ E0.g1; simp at this; omega
  have hxl := hx.crs.len
  have hyl := hy.crs.len
  have hn1 : n1 ≤ 20 := by rw [← hxl]; exact rdF_len f
  have hm1 : m1 ≤ 20 := by rw [← hyl]; exact rdF_len g
  obtain ⟨q, hq⟩ : ∃ q, ok2 f g = q := ⟨_, rfl⟩
  rw [hq]
  refine Gw.ctl rfl (fun w => stepG_seq (x := cl (ct 2 bRc)) (y := (ct 3 bRc))) ?_
  refine Gw.segG CC RR (f := 17) (cd := cl (ct 2 bRc)) (N := fun a' u' => (a'.tmps.size = 42 ∧ a'.defers = [] ∧ a'.tmps.getD 2 undef = .pointer (some ⟨B2, 0, none⟩) ∧ a'.tmps.getD 4 undef = .slice xa n1 c1 ∧ a'.tmps.getD 5 undef = .slice ya m1 d1) ∧ okC f g = true ∧ Gx u2 u') (Rt := fun a' u' => RetR f g a0 a1 B2 a'.tmps u') rfl (kn_nil rfl) rfl (by kernel_rfl) (fun _ _ _ _ ⟨h1, h2, h3⟩ => ⟨h1, h2, h3.re _ _⟩) (fun _ _ _ _ h => h) (fun t d GU => ?_) (fun A u3 h => ?_) fun A u9 todo hd h => leave hd h
  · have HB := (show S2 (World.re u2 t d) B2 (.slice none 0 0) (.slice none 0 0) from hB2)
    have HG0 := (show (World.re u2 t d).cell? ⟨0, 0, none⟩ = some (.iface 124 (.pointer (some a0))) from E.g0)
    have G2 : Gx u2 (World.re u2 t d) := (Gx.refl u2).re t d
    generalize World.re u2 t d = v at GU HB HG0 G2
    simp only [bRc, cl, cr, ct, co, Tryd.f17, Option.getD_some]
    obtain ⟨k0, k1, z0, z1⟩ := cfg_cell HB
    have P3 := Lib.hid (cfg_put (.slice none 0 0) (.slice none 0 0) HB)
    have hne1 : ¬ (B2 = 0) := hB0
    have hne2 : ¬ (0 = B2) := fun h => hB0 h.symm
    have HGa : (v.setCell ⟨B2, 0, none⟩ (.slice none 0 0)).cell? ⟨0, 0, none⟩ = some (.iface 124 (.pointer (some a0))) := (World.cell?_of_block ((cfg_put0 (.slice none 0 0) HB).2.2.2.2.2 0 (World.block_lt_of_cell? v _ HG0) (.inl (by omega)))).trans HG0
    cases q
    · have HR := Lib.hid (okC_no hq)
      clear hq hx hy hB2 E hxl hyl
      go_wp2_with fail
      go_region
      all_goals (
        go_wp2_with fail
        have r := GU.of_chg P3.out.2 hlB
        exact ⟨⟨_, _, _, rfl, rfl, P3.out.1, _, _, _, _, _, _, rfl, rfl, .inl ⟨HR.out, rfl⟩⟩, ⟨r.os, r.out, r.size, r.block⟩⟩)
    · rcases Nat.eq_zero_or_pos n1 with hn0 | hn0
      · have HR := Lib.hid (show okC f g = false from by rw [okC_len hq hxl hyl, hn0]; rfl)
        clear hq hx hy hB2 E hxl hyl
        subst hn0
        go_wp2_with fail
        go_region
        all_goals (
          go_wp2_with fail
          have r := GU.of_chg P3.out.2 hlB
          exact ⟨⟨_, _, _, rfl, rfl, P3.out.1, _, _, _, _, _, _, rfl, rfl, .inl ⟨HR.out, rfl⟩⟩, ⟨r.os, r.out, r.size, r.block⟩⟩)
      · have hbn : ((n1 : Int) == 0) = false := by rw [beq_eq_false_iff_ne]; omega
        rcases Nat.eq_zero_or_pos m1 with hm0 | hm0
        · have HR := Lib.hid (show okC f g = false from by rw [okC_len hq hxl hyl, hm0]; simp)
          clear hq hx hy hB2 E hxl hyl
          subst hm0
          go_wp2_with fail
          go_region
          all_goals (
            go_wp2_with fail
            have r := GU.of_chg P3.out.2 hlB
            exact ⟨⟨_, _, _, rfl, rfl, P3.out.1, _, _, _, _, _, _, rfl, rfl, .inl ⟨HR.out, rfl⟩⟩, ⟨r.os, r.out, r.size, r.block⟩⟩)
        · have hbm : ((m1 : Int) == 0) = false := by rw [beq_eq_false_iff_ne]; omega
          have HR := Lib.hid (show okC f g = true from by rw [okC_len hq hxl hyl]; simp [hn0, hm0])
          clear hq hx hy hB2 E hxl hyl
          go_wp2_with fail
          exact ⟨⟨⟨rfl, rfl, rfl, rfl, rfl⟩, HR.out, G2⟩, GU⟩
  obtain ⟨hA, hok, hg⟩ := h
  obtain ⟨T, ds⟩ := A
  obtain ⟨hsz, hds, h_2, h_4, h_5⟩ := hA
  obtain rfl : ds = [] := hds
  try clear hds
  replace hsz : T.size = 42 := hsz
  revert h_2 h_4 h_5
  revert hsz
  revert T
  refine arr42 ?_
  intro e0 e1 e2 e3 e4 e5 e6 e7 e8 e9 e10 e11 e12 e13 e14 e15 e16 e17 e18 e19 e20 e21 e22 e23 e24 e25 e26 e27 e28 e29 e30 e31 e32 e33 e34 e35 e36 e37 e38 e39 e40 e41 h_2 h_4 h_5
  have h_2 : e2 = .pointer (some ⟨B2, 0, none⟩) := h_2
  subst h_2
  have h_4 : e4 = .slice xa n1 c1 := h_4
  subst h_4
  have h_5 : e5 = .slice ya m1 d1 := h_5
  subst h_5
  clear hq
  replace hB2 := hg.s2 hB2
  replace E : Errs u3 a0 a1 := E.gx hg
  replace hx := hg.ownC hx
  replace hy := hg.ownC hy
  clear hg
  refine Gw.ctl rfl (fun w => stepG_seq (x := cl (ct 3 bRc)) (y := (ct 4 bRc))) ?_
  refine Gw.seg CC RR (f := 17) (N := fun a' u' => ∃ B7, (a'.tmps.size = 42 ∧ a'.defers = [] ∧ a'.tmps.getD 2 undef = .pointer (some ⟨B2, 0, none⟩) ∧ a'.tmps.getD 4 undef = .slice xa n1 c1 ∧ a'.tmps.getD 5 undef = .slice ya m1 d1 ∧ a'.tmps.getD 7 undef = .pointer (some ⟨B7, 0, none⟩)) ∧ S2 u' B7 (.slice xa n1 c1) (.slice ya m1 d1) ∧ B2 < B7) (Rt := fun a' u' => False) rfl (kn_nil rfl) rfl (by kernel_rfl) (fun _ _ _ _ h => h) (fun _ _ _ _ h => h) (fun t d => ?_) (fun A u4 hg h => ?_) fun _ _ _ _ _ h => h.elim
  · have HB2 : S2 (World.re u3 t d) B2 (.slice none 0 0) (.slice none 0 0) := hB2
    generalize World.re u3 t d = v at HB2
    simp only [bRc, cl, cr, ct, co, Tryd.f17, Option.getD_some]
    have K := cfg_blk v #[.slice xa n1 c1, .slice ya m1 d1] 41
    go_wp2_with fail
    exact ⟨⟨_, ⟨rfl, rfl, rfl, rfl, rfl, rfl⟩, (show S2 _ _ _ _ from K), cfg_lt HB2⟩, (Ext.refl _ _).alloc _⟩
  obtain ⟨B7, hA, hB7, hlt7⟩ := h
  obtain ⟨T, ds⟩ := A
  obtain ⟨hsz, hds, h_2, h_4, h_5, h_7⟩ := hA
  obtain rfl : ds = [] := hds
  try clear hds
  replace hsz : T.size = 42 := hsz
  revert h_2 h_4 h_5 h_7
  revert hsz
  revert T
  refine arr42 ?_
  intro e0 e1 e2 e3 e4 e5 e6 e7 e8 e9 e10 e11 e12 e13 e14 e15 e16 e17 e18 e19 e20 e21 e22 e23 e24 e25 e26 e27 e28 e29 e30 e31 e32 e33 e34 e35 e36 e37 e38 e39 e40 e41 h_2 h_4 h_5 h_7
  have h_2 : e2 = .pointer (some ⟨B2, 0, none⟩) := h_2
  subst h_2
  have h_4 : e4 = .slice xa n1 c1 := h_4
  subst h_4
  have h_5 : e5 = .slice ya m1 d1 := h_5
  subst h_5
  have h_7 : e7 = .pointer (some ⟨B7, 0, none⟩) := h_7
  subst h_7
  replace hB2 := hg.s2 hB2
  replace E : Errs u4 a0 a1 := E.gx hg
  replace hx := hg.ownC hx
  replace hy := hg.ownC hy
  clear hg
  refine Gw.ctl rfl (fun w => stepG_seq (x := cl (ct 4 bRc)) (y := ct 5 bRc)) ?_
  rw [rc4]
  refine Gw.ctl rfl (fun w => stepG_seq) ?_
  refine Gw.ctl rfl (fun w => stepG_region) ?_
  rw [show List.range rRc5.size = [0, 1, 2, 3, 4] from rfl]
  refine Gw.mv (oo := rRc5.getD 0 default) rfl (.inl rfl) rfl (bkn _) ?_
  refine Gw.mv (oo := rRc5.getD 1 default) rfl (.inl rfl) rfl (bkn _) ?_
  refine (?_ : ∀ A : Act, (A.tmps.size = 42 ∧ A.defers = [] ∧ A.tmps.getD 2 undef = .pointer (some ⟨B2, 0, none⟩) ∧ A.tmps.getD 7 undef = .pointer (some ⟨B7, 0, none⟩) ∧ A.tmps.getD 34 undef = .slice xa n1 c1 ∧ A.tmps.getD 35 undef = .slice ya m1 d1) → Gw _ _ _ _ _ _ (G ((base 17).at A _) _)) _ ⟨rfl, rfl, rfl, rfl, rfl, rfl⟩
  intro A hA
  obtain ⟨T, ds⟩ := A
  obtain ⟨hsz, hds, h_2, h_7, h_34, h_35⟩ := hA
  obtain rfl : ds = [] := hds
  try clear hds
  replace hsz : T.size = 42 := hsz
  revert h_2 h_7 h_34 h_35
  revert hsz
  revert T
  refine arr42 ?_
  intro e0 e1 e2 e3 e4 e5 e6 e7 e8 e9 e10 e11 e12 e13 e14 e15 e16 e17 e18 e19 e20 e21 e22 e23 e24 e25 e26 e27 e28 e29 e30 e31 e32 e33 e34 e35 e36 e37 e38 e39 e40 e41 h_2 h_7 h_34 h_35
  have h_2 : e2 = .pointer (some ⟨B2, 0, none⟩) := h_2
  subst h_2
  have h_7 : e7 = .pointer (some ⟨B7, 0, none⟩) := h_7
  subst h_7
  have h_34 : e34 = .slice xa n1 c1 := h_34
  subst h_34
  have h_35 : e35 = .slice ya m1 d1 := h_35
  subst h_35
  refine Gw.gcall (oo := rRc5.getD 2 default) (g := 30) (args := #[.tmp 34, .tmp 35]) rfl rfl (bkn _) rfl Tryd.func30 nmCommon rfl (vals := #[.slice xa n1 c1, .slice ya m1 d1]) (by simp [Act.eval]) (common_g (cx := c1) (cy := d1) hx.crs hy.crs hn1 hm1 (rdF_lt f) (rdF_lt g)) fun X4 v u5 hg ⟨C, hv, hM⟩ => ?_
  subst hv
  refine (?_ : ∀ A : Act, (A.tmps.size = 42 ∧ A.defers = [] ∧ A.tmps.getD 2 undef = .pointer (some ⟨B2, 0, none⟩) ∧ A.tmps.getD 7 undef = .pointer (some ⟨B7, 0, none⟩) ∧ A.tmps.getD 36 undef = .slice (some ⟨C, 0, none⟩) n1 n1) → Gw _ _ _ _ _ _ (G ((base 17).at A _) _)) _ ⟨rfl, rfl, rfl, rfl, rfl⟩
  intro A hA
  obtain ⟨T, ds⟩ := A
  obtain ⟨hsz, hds, h_2, h_7, h_36⟩ := hA
  obtain rfl : ds = [] := hds
  try clear hds
  replace hsz : T.size = 42 := hsz
  revert h_2 h_7 h_36
  revert hsz
  revert T
  refine arr42 ?_
  intro e0 e1 e2 e3 e4 e5 e6 e7 e8 e9 e10 e11 e12 e13 e14 e15 e16 e17 e18 e19 e20 e21 e22 e23 e24 e25 e26 e27 e28 e29 e30 e31 e32 e33 e34 e35 e36 e37 e38 e39 e40 e41 h_2 h_7 h_36
  have h_2 : e2 = .pointer (some ⟨B2, 0, none⟩) := h_2
  subst h_2
  have h_7 : e7 = .pointer (some ⟨B7, 0, none⟩) := h_7
  subst h_7
  have h_36 : e36 = .slice (some ⟨C, 0, none⟩) n1 n1 := h_36
  subst h_36
  replace hB2 := hg.s2 hB2
  replace E : Errs u5 a0 a1 := E.gx hg
  replace hx := hg.ownC hx
  replace hy := hg.ownC hy
  replace hB7 := hg.s2 hB7
  clear hg
  obtain ⟨p, hp⟩ : ∃ p, ((rowsL (rdF f) (rdF g)).flatten.contains 0) = p := ⟨_, rfl⟩
  have HQ := Lib.hid hp
  have hrl := Lib.hid (rowsL_le (x := rdF f) (rdF_len g))
  clear hp
  refine Gw.oprest CC RR (f := 17) (N := fun a' u' => (a'.tmps.size = 42 ∧ a'.defers = [] ∧ a'.tmps.getD 2 undef = .pointer (some ⟨B2, 0, none⟩) ∧ a'.tmps.getD 7 undef = .pointer (some ⟨B7, 0, none⟩) ∧ a'.tmps.getD 38 undef = .bool p)) rfl (kn_nil rfl) rfl (by kernel_rfl) (fun _ _ _ _ h => h) (fun t d => ?_) (fun A u6 hg hA => ?_)
  · have HM : Mat (World.re u5 t d) (some ⟨C, 0, none⟩) n1 (rowsL (rdF f) (rdF g)) := hM
    generalize World.re u5 t d = v at HM
    refine wpOps_rest 3 rfl ?_
    simp only [rRc5, bRc, cl, cr, ct, co, Tryd.f17, Option.getD_some, List.drop_succ_cons, List.drop_zero]
    go_wp2_with fail
    refine (Concat_any HM hn1 hrl.out).mono ?_; rintro e w1 ⟨a5, n5, c5, rfl, o5, e5⟩
    have HO5 := Lib.hid o5.crs
    have HE5 := Lib.hid e5
    clear o5 e5
    go_wp2_with fail
    refine (Contains_is (v := 0) HO5.out HQ.out).mono ?_; rintro e w2 ⟨rfl, rfl⟩
    go_wp2_with fail
    exact ⟨⟨rfl, rfl, rfl, rfl, rfl⟩, HE5.out⟩
  obtain ⟨T, ds⟩ := A
  obtain ⟨hsz, hds, h_2, h_7, h_38⟩ := hA
  obtain rfl : ds = [] := hds
  try clear hds
  replace hsz : T.size = 42 := hsz
  revert h_2 h_7 h_38
  revert hsz
  revert T
  refine arr42 ?_
  intro e0 e1 e2 e3 e4 e5 e6 e7 e8 e9 e10 e11 e12 e13 e14 e15 e16 e17 e18 e19 e20 e21 e22 e23 e24 e25 e26 e27 e28 e29 e30 e31 e32 e33 e34 e35 e36 e37 e38 e39 e40 e41 h_2 h_7 h_38
  have h_2 : e2 = .pointer (some ⟨B2, 0, none⟩) := h_2
  subst h_2
  have h_7 : e7 = .pointer (some ⟨B7, 0, none⟩) := h_7
  subst h_7
  have h_38 : e38 = .bool p := h_38
  subst h_38
  replace hB2 := hg.s2 hB2
  replace E : Errs u6 a0 a1 := E.gx hg
  replace hx := hg.ownC hx
  replace hy := hg.ownC hy
  replace hB7 := hg.s2 hB7
  clear hg
  have hok2 := okC_ok2 hok
  rw [rdF_yes (ok2_fam hok2).1] at hx
  rw [rdF_yes (ok2_fam hok2).2] at hy
  clear hM hok2 HQ hrl
  cases p
  · skip
    refine Gw.ctl rfl (fun w => stepG_cond (t := false) rfl) ?_
    refine Gw.ctl rfl (fun w => stepG_skip) ?_
    refine Gw.segG CC RR (f := 17) (cd := ct 5 bRc) (N := fun a' u' => False) (Rt := fun a' u' => RetR f g a0 a1 B2 a'.tmps u') rfl (kn_nil rfl) rfl (by kernel_rfl) (fun _ _ _ _ h => h) (fun _ _ _ _ h => h) (fun t d GU => ?_) (fun _ _ h => h.elim) fun A u9 todo hd h => leave hd h
    · have HB := (show S2 (World.re u6 t d) B2 (.slice none 0 0) (.slice none 0 0) from hB2)
      have HB7 := (show S2 (World.re u6 t d) B7 (.slice xa n1 c1) (.slice ya m1 d1) from hB7)
      have HG0 := (show (World.re u6 t d).cell? ⟨1, 0, none⟩ = some (.iface 124 (.pointer (some a1))) from E.g1)
      have HX := Lib.hid (show OwnC (World.re u6 t d) (B2 + 1) xa n1 c1 (masks f) from hx)
      have HY := Lib.hid (show OwnC (World.re u6 t d) (B2 + 1) ya m1 d1 (masks g) from hy)
      have HOK := Lib.hid hok
      generalize World.re u6 t d = v at GU HB HB7 HG0 HX HY
      simp only [ct, bRc, cl, cr, ct, co, cth, cel, Tryd.f17, Option.getD_some]
      obtain ⟨k0, k1, z0, z1⟩ := cfg_cell HB
      obtain ⟨k2, k3, z2, z3⟩ := cfg_cell HB7
      have P3 := Lib.hid (cfg_put (.slice xa n1 c1) (.slice ya m1 d1) HB)
      have hne1 : ¬ (B2 = 1) := hB1
      have hne2 : ¬ (1 = B2) := fun h => hB1 h.symm
      have h78 : ¬ (B2 = B7) := by omega
      have h79 : ¬ (B7 = B2) := by omega
      have HGa : (v.setCell ⟨B2, 0, none⟩ (.slice xa n1 c1)).cell? ⟨1, 0, none⟩ = some (.iface 124 (.pointer (some a1))) := (World.cell?_of_block ((cfg_put0 (.slice xa n1 c1) HB).2.2.2.2.2 1 (World.block_lt_of_cell? v _ HG0) (by omega))).trans HG0
      have R1 := Lib.hid (show OwnC _ _ _ _ _ _ from Own.mono (Own.same HX.out fun k hk => P3.out.2.2.2.2.2 k (World.ownsRow.lt HX.out k hk).2 (.inr (World.ownsRow.lt HX.out k hk).1)) (Nat.zero_le _))
      have R2 := Lib.hid (show OwnC _ _ _ _ _ _ from Own.mono (Own.same HY.out fun k hk => P3.out.2.2.2.2.2 k (World.ownsRow.lt HY.out k hk).2 (.inr (World.ownsRow.lt HY.out k hk).1)) (Nat.zero_le _))
      clear hok hx hy hB2 hB7 E hxl hyl
      go_wp2_with fail
      have r := GU.of_chg P3.out.2 hlB
      exact ⟨⟨_, _, _, rfl, rfl, P3.out.1, _, _, _, _, _, _, rfl, rfl, .inr ⟨HOK.out, R1.out, R2.out, .inl rfl⟩⟩, ⟨r.os, r.out, r.size, r.block⟩⟩
  · skip
    refine Gw.ctl rfl (fun w => stepG_cond (t := true) rfl) ?_
    refine Gw.segG CC RR (f := 17) (cd := kRc6) (N := fun a' u' => False) (Rt := fun a' u' => RetR f g a0 a1 B2 a'.tmps u') rfl (kn_nil rfl) rfl (by kernel_rfl) (fun _ _ _ _ h => h) (fun _ _ _ _ h => h) (fun t d GU => ?_) (fun _ _ h => h.elim) fun A u9 todo hd h => leave hd h
    · have HB := (show S2 (World.re u6 t d) B2 (.slice none 0 0) (.slice none 0 0) from hB2)
      have HB7 := (show S2 (World.re u6 t d) B7 (.slice xa n1 c1) (.slice ya m1 d1) from hB7)
      have HG0 := (show (World.re u6 t d).cell? ⟨1, 0, none⟩ = some (.iface 124 (.pointer (some a1))) from E.g1)
      have HX := Lib.hid (show OwnC (World.re u6 t d) (B2 + 1) xa n1 c1 (masks f) from hx)
      have HY := Lib.hid (show OwnC (World.re u6 t d) (B2 + 1) ya m1 d1 (masks g) from hy)
      have HOK := Lib.hid hok
      generalize World.re u6 t d = v at GU HB HB7 HG0 HX HY
      simp only [kRc6, bRc, cl, cr, ct, co, cth, cel, Tryd.f17, Option.getD_some]
      obtain ⟨k0, k1, z0, z1⟩ := cfg_cell HB
      obtain ⟨k2, k3, z2, z3⟩ := cfg_cell HB7
      have P3 := Lib.hid (cfg_put (.slice xa n1 c1) (.slice ya m1 d1) HB)
      have hne1 : ¬ (B2 = 1) := hB1
      have hne2 : ¬ (1 = B2) := fun h => hB1 h.symm
      have h78 : ¬ (B2 = B7) := by omega
      have h79 : ¬ (B7 = B2) := by omega
      have HGa : (v.setCell ⟨B2, 0, none⟩ (.slice xa n1 c1)).cell? ⟨1, 0, none⟩ = some (.iface 124 (.pointer (some a1))) := (World.cell?_of_block ((cfg_put0 (.slice xa n1 c1) HB).2.2.2.2.2 1 (World.block_lt_of_cell? v _ HG0) (by omega))).trans HG0
      have R1 := Lib.hid (show OwnC _ _ _ _ _ _ from Own.mono (Own.same HX.out fun k hk => P3.out.2.2.2.2.2 k (World.ownsRow.lt HX.out k hk).2 (.inr (World.ownsRow.lt HX.out k hk).1)) (Nat.zero_le _))
      have R2 := Lib.hid (show OwnC _ _ _ _ _ _ from Own.mono (Own.same HY.out fun k hk => P3.out.2.2.2.2.2 k (World.ownsRow.lt HY.out k hk).2 (.inr (World.ownsRow.lt HY.out k hk).1)) (Nat.zero_le _))
      clear hok hx hy hB2 hB7 E hxl hyl
      go_wp2_with fail
      go_region
      go_wp2_with fail
      have r := GU.of_chg P3.out.2 hlB
      exact ⟨⟨_, _, _, rfl, rfl, P3.out.1, _, _, _, _, _, _, rfl, rfl, .inr ⟨HOK.out, R1.out, R2.out, .inr rfl⟩⟩, ⟨r.os, r.out, r.size, r.block⟩⟩
end Go.Proofs.YtnifgfnhcjhodaaDoor
