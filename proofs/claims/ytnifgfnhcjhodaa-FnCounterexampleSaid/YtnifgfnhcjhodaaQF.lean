/- impl.IntersectCounterexample: its contract. Condition: two families lie in memory. -/
import Derived.Test.YtnifgfnhcjhodaaP1
import Derived.Deep.RegionHeld3
set_option linter.unusedVariables false
set_option linter.unusedSimpArgs false
namespace Go.Proofs.Ytnifgfnhcjhodaa
open Go.Conc Go.RowKit

/-- All of the first i rows' common crews are inhabited. -/
def NoC (x y : List Nat) (i : Nat) : Prop := ∀ j, j < i → ∀ k, k < y.length → x.getD j 0 &&& y.getD k 0 ≠ 0
/-- What IntersectCounterexample returns. -/
def CexR (f g : List (List Int)) (p : Bool) (A B : List Int) : Prop :=
  (p = false ∧ A = [] ∧ B = [] ∧ (ok2 f g = false ∨ NoC (rdF f) (rdF g) (rdF f).length)) ∨
  (p = true ∧ ok2 f g = true ∧ ∃ i k, i < (rdF f).length ∧ k < (rdF g).length ∧ (rdF f).getD i 0 &&& (rdF g).getD k 0 = 0 ∧ NoC (rdF f) (rdF g) i ∧
    (∀ j, j < k → (rdF f).getD i 0 &&& (rdF g).getD j 0 ≠ 0) ∧ A = mem ((rdF f).getD i 0) ∧ B = mem ((rdF g).getD k 0))
theorem CexR.one {f g : List (List Int)} {p p' : Bool} {A A' B B' : List Int} (h : CexR f g p A B) (h' : CexR f g p' A' B') : p = p' ∧ A = A' ∧ B = B' := by
  have key : ∀ {A B : List Int} {i k : Nat}, (ok2 f g = false ∨ NoC (rdF f) (rdF g) (rdF f).length) → ok2 f g = true → i < (rdF f).length → k < (rdF g).length → (rdF f).getD i 0 &&& (rdF g).getD k 0 = 0 → False := fun h1 h2 hi hk h0 =>
    h1.elim (fun e => by rw [h2] at e; cases e) fun hn => hn _ hi _ hk h0
  rcases h with ⟨rfl, rfl, rfl, h⟩ | ⟨rfl, hok, i, k, hi, hk, h0, hn, hm, rfl, rfl⟩
  · rcases h' with ⟨rfl, rfl, rfl, h'⟩ | ⟨rfl, hok, i, k, hi, hk, h0, _⟩
    · exact ⟨rfl, rfl, rfl⟩
    · exact (key (A := []) (B := []) h hok hi hk h0).elim
  · rcases h' with ⟨rfl, rfl, rfl, h'⟩ | ⟨rfl, _, i', k', hi', hk', h0', hn', hm', rfl, rfl⟩
    · exact (key (A := []) (B := []) h' hok hi hk h0).elim
    · have e : i = i' := by
        rcases Nat.lt_trichotomy i i' with h1 | h1 | h1
        · exact absurd h0 (hn' _ h1 _ hk)
        · exact h1
        · exact absurd h0' (hn _ h1 _ hk')
      subst e
      have e : k = k' := by
        rcases Nat.lt_trichotomy k k' with h1 | h1 | h1
        · exact absurd h0 (hm' _ h1)
        · exact h1
        · exact absurd h0' (hm _ h1)
      subst e
      exact ⟨rfl, rfl, rfl⟩
theorem idxN_first {q : List Nat} {v : Nat} (h : 0 ≤ idxN q v) : ∃ k, idxN q v = (k : Nat) ∧ k < q.length ∧ q.getD k 0 = v ∧ ∀ j, j < k → q.getD j 0 ≠ v := by
  unfold idxN at *
  by_cases hm : v ∈ q
  · rw [if_pos hm] at *
    have hl : q.idxOf v < q.length := List.idxOf_lt_length_of_mem hm
    refine ⟨q.idxOf v, rfl, hl, by simp [List.getD, hl], fun j hj e => ?_⟩
    have := List.not_of_lt_findIdx (p := (· == v)) (xs := q) (i := j) hj
    have hjl : j < q.length := Nat.lt_trans hj hl
    rw [show q.getD j 0 = q[j] from by simp [List.getD, hjl]] at e
    simp [e] at this
  · rw [if_neg hm] at h; omega
theorem idxN_neg {q : List Nat} {v : Nat} (h : ¬ 0 ≤ idxN q v) : ∀ j, j < q.length → q.getD j 0 ≠ v := by
  intro j hj e
  unfold idxN at h
  rw [if_pos (by rw [← e]; simp [List.getD, hj])] at h
  omega
theorem rowsL_at (x y : List Nat) {i : Nat} (hi : i < x.length) : (rowsL x y).getD i [] = y.map fun b => x.getD i 0 &&& b := by
  unfold rowsL; simp [List.getD, hi]
theorem rowsL_getD (x y : List Nat) {i k : Nat} (hi : i < x.length) (hk : k < y.length) : ((rowsL x y).getD i []).getD k 0 = x.getD i 0 &&& y.getD k 0 := by
  rw [rowsL_at x y hi]; simp [List.getD, hk]
theorem rowsL_l (x y : List Nat) {i : Nat} (hi : i < x.length) : ((rowsL x y).getD i []).length = y.length := by
  rw [rowsL_at x y hi]; simp
theorem NoC.step {x y : List Nat} {i : Nat} (h : NoC x y i) (hi : i < x.length) (hn : ¬ 0 ≤ idxN ((rowsL x y).getD i []) 0) : NoC x y (i + 1) := by
  intro j hj k hk
  rcases Nat.lt_or_ge j i with h1 | h1
  · exact h j h1 k hk
  · obtain rfl : j = i := by omega
    have := idxN_neg hn k (by rw [rowsL_l x y hi]; exact hk)
    rwa [rowsL_getD x y hi hk] at this
theorem NoC.hit {f g : List (List Int)} (hok : ok2 f g = true) {i : Nat} (h : NoC (rdF f) (rdF g) i) (hi : i < (rdF f).length) (hn : 0 ≤ idxN ((rowsL (rdF f) (rdF g)).getD i []) 0) :
    ∃ k : Nat, idxN ((rowsL (rdF f) (rdF g)).getD i []) 0 = (k : Int) ∧ k < (rdF g).length ∧ CexR f g true (mem ((rdF f).getD i 0)) (mem ((rdF g).getD k 0)) := by
  obtain ⟨k, e, hk, h0, hf⟩ := idxN_first hn
  rw [rowsL_l _ _ hi] at hk
  rw [rowsL_getD _ _ hi hk] at h0
  exact ⟨k, e, hk, .inr ⟨rfl, hok, i, k, hi, hk, h0, h, fun j hj => by have := hf j hj; rwa [rowsL_getD _ _ hi (Nat.lt_trans hj hk)] at this, rfl, rfl⟩⟩
/-- The three result slots, from slot 4 on. -/
def TwoO (u : World) (S : Nat) (a4 : Option Addr) (n4 c4 : Nat) (A : List Int) (a5 : Option Addr) (n5 c5 : Nat) (B : List Int) : Prop :=
  ∃ R, OwnI u S a4 n4 c4 A ∧ (∀ k, (Value.slice a4 n4 c4).ownBlock = some k → k < R) ∧ S ≤ R ∧ OwnI u R a5 n5 c5 B
theorem TwoO.nil (u : World) (S : Nat) : TwoO u S none 0 0 [] none 0 0 [] := ⟨S, OwnI.nil u S, fun k h => by simp [Value.ownBlock] at h, Nat.le_refl _, OwnI.nil u S⟩
def RetC (f g : List (List Int)) (S : Nat) (T : Array Value) (u : World) : Prop := ∃ a4 n4 c4 a5 n5 c5 p A B, T.getD 4 undef = .slice a4 n4 c4 ∧ T.getD 5 undef = .slice a5 n5 c5 ∧ T.getD 6 undef = .bool p ∧ Ints u a4 n4 A ∧ Ints u a5 n5 B ∧ CexR f g p A B ∧ TwoO u S a4 n4 c4 A a5 n5 c5 B
def PostC (f g : List (List Int)) (S : Nat) (v : Value) (u : World) : Prop := ∃ a4 n4 c4 a5 n5 c5 p A B, v = .tuple #[.slice a4 n4 c4, .slice a5 n5 c5, .bool p] ∧ Ints u a4 n4 A ∧ Ints u a5 n5 B ∧ CexR f g p A B ∧ TwoO u S a4 n4 c4 A a5 n5 c5 B

noncomputable def bCx : Code := Try.f10.body.getD .skip
noncomputable def rCx4 : Array Oper := co (cl (cl (ct 3 bCx)))
set_option maxRecDepth 10000 in
theorem arr46 {motive : Array Value → Prop} (k : ∀ e0 e1 e2 e3 e4 e5 e6 e7 e8 e9 e10 e11 e12 e13 e14 e15 e16 e17 e18 e19 e20 e21 e22 e23 e24 e25 e26 e27 e28 e29 e30 e31 e32 e33 e34 e35 e36 e37 e38 e39 e40 e41 e42 e43 e44 e45 : Value, motive #[e0, e1, e2, e3, e4, e5, e6, e7, e8, e9, e10, e11, e12, e13, e14, e15, e16, e17, e18, e19, e20, e21, e22, e23, e24, e25, e26, e27, e28, e29, e30, e31, e32, e33, e34, e35, e36, e37, e38, e39, e40, e41, e42, e43, e44, e45]) : ∀ T : Array Value, T.size = 46 → motive T := by
  intro T h
  obtain ⟨l⟩ := T
  have h : l.length = 46 := h
  obtain ⟨e0, l0, rfl, h0⟩ := lcons h
  obtain ⟨e1, l1, rfl, h1⟩ := lcons h0
  obtain ⟨e2, l2, rfl, h2⟩ := lcons h1
  obtain ⟨e3, l3, rfl, h3⟩ := lcons h2
  obtain ⟨e4, l4, rfl, h4⟩ := lcons h3
  obtain ⟨e5, l5, rfl, h5⟩ := lcons h4
  obtain ⟨e6, l6, rfl, h6⟩ := lcons h5
  obtain ⟨e7, l7, rfl, h7⟩ := lcons h6
  obtain ⟨e8, l8, rfl, h8⟩ := lcons h7
  obtain ⟨e9, l9, rfl, h9⟩ := lcons h8
  obtain ⟨e10, l10, rfl, h10⟩ := lcons h9
  obtain ⟨e11, l11, rfl, h11⟩ := lcons h10
  obtain ⟨e12, l12, rfl, h12⟩ := lcons h11
  obtain ⟨e13, l13, rfl, h13⟩ := lcons h12
  obtain ⟨e14, l14, rfl, h14⟩ := lcons h13
  obtain ⟨e15, l15, rfl, h15⟩ := lcons h14
  obtain ⟨e16, l16, rfl, h16⟩ := lcons h15
  obtain ⟨e17, l17, rfl, h17⟩ := lcons h16
  obtain ⟨e18, l18, rfl, h18⟩ := lcons h17
  obtain ⟨e19, l19, rfl, h19⟩ := lcons h18
  obtain ⟨e20, l20, rfl, h20⟩ := lcons h19
  obtain ⟨e21, l21, rfl, h21⟩ := lcons h20
  obtain ⟨e22, l22, rfl, h22⟩ := lcons h21
  obtain ⟨e23, l23, rfl, h23⟩ := lcons h22
  obtain ⟨e24, l24, rfl, h24⟩ := lcons h23
  obtain ⟨e25, l25, rfl, h25⟩ := lcons h24
  obtain ⟨e26, l26, rfl, h26⟩ := lcons h25
  obtain ⟨e27, l27, rfl, h27⟩ := lcons h26
  obtain ⟨e28, l28, rfl, h28⟩ := lcons h27
  obtain ⟨e29, l29, rfl, h29⟩ := lcons h28
  obtain ⟨e30, l30, rfl, h30⟩ := lcons h29
  obtain ⟨e31, l31, rfl, h31⟩ := lcons h30
  obtain ⟨e32, l32, rfl, h32⟩ := lcons h31
  obtain ⟨e33, l33, rfl, h33⟩ := lcons h32
  obtain ⟨e34, l34, rfl, h34⟩ := lcons h33
  obtain ⟨e35, l35, rfl, h35⟩ := lcons h34
  obtain ⟨e36, l36, rfl, h36⟩ := lcons h35
  obtain ⟨e37, l37, rfl, h37⟩ := lcons h36
  obtain ⟨e38, l38, rfl, h38⟩ := lcons h37
  obtain ⟨e39, l39, rfl, h39⟩ := lcons h38
  obtain ⟨e40, l40, rfl, h40⟩ := lcons h39
  obtain ⟨e41, l41, rfl, h41⟩ := lcons h40
  obtain ⟨e42, l42, rfl, h42⟩ := lcons h41
  obtain ⟨e43, l43, rfl, h43⟩ := lcons h42
  obtain ⟨e44, l44, rfl, h44⟩ := lcons h43
  obtain ⟨e45, l45, rfl, h45⟩ := lcons h44
  obtain rfl := List.length_eq_zero_iff.1 h45
  exact k e0 e1 e2 e3 e4 e5 e6 e7 e8 e9 e10 e11 e12 e13 e14 e15 e16 e17 e18 e19 e20 e21 e22 e23 e24 e25 e26 e27 e28 e29 e30 e31 e32 e33 e34 e35 e36 e37 e38 e39 e40 e41 e42 e43 e44 e45

set_option maxRecDepth 20000 in
set_option maxHeartbeats 4000000 in
theorem IntersectCounterexample_g {a : Option Addr} {n cp : Nat} {f : List (List Int)} {b : Option Addr} {m cq : Nat} {g : List (List Int)} {u : World} (hf : Fam u a n f) (hf2 : Fam u b m g) :
    GCalls Try.prog 10 #[.slice a n cp, .slice b m cq] u (PostC f g u.heap.size) := by
  refine GCalls.of (cd := bCx) Try.func10 rfl fun X c cs hXl => ?_
  have leave : ∀ {X' : Nat → Prop} {u1 : World} {a' : Act} {todo : List Item}, a'.defers = [] → RetC f g u.heap.size a'.tmps u1 → Gw Try.prog X u (fun X' g' w' => ∃ v u', g' = G (c.finish v) cs ∧ Wd X u X' u' w' ∧ PostC f g u.heap.size v u') X' u1 (G { (base 10).at a' todo with mode := .returning } (c :: cs)) := fun hd h2 => by
    obtain ⟨a4, n4, c4, a5, n5, c5, p, A, B, e4, e5, e6, x, y, z⟩ := h2
    exact Gw.leave (v := .tuple #[.slice a4 n4 c4, .slice a5 n5 c5, .bool p]) Try.func10 hd (by rw [← e4, ← e5, ← e6]; simp [results, Try.f10]) (Gw.done (Post := PostC f g u.heap.size) ⟨_, _, _, _, _, _, _, _, _, rfl, x, y, z⟩)
  refine Gw.ctl rfl (fun w => stepG_seq (x := cl (ct 0 bCx)) (y := (ct 1 bCx))) ?_
  refine Gw.seg CC RR (f := 10) (N := fun a' u' => (a'.tmps.size = 46 ∧ a'.defers = [] ∧ a'.tmps.getD 0 undef = .slice a n cp ∧ a'.tmps.getD 1 undef = .slice b m cq)) (Rt := fun a' u' => False) rfl (kn_nil rfl) rfl (by kernel_rfl) (fun _ _ _ _ h => h) (fun _ _ _ _ h => h) (fun t d => ?_) (fun A u1 hg h => ?_) fun _ _ _ _ _ h => h.elim
  · generalize World.re u t d = v
    simp only [bCx, cl, cr, ct, co, Try.f10, Option.getD_some, List.size_toArray, List.length_cons, List.length_nil, Nat.reduceAdd, Nat.reduceSub, Array.replicate_succ, Array.replicate_zero, List.push_toArray, List.append_toArray, List.nil_append, List.cons_append]
    go_wp2_with fail
    exact ⟨⟨rfl, rfl, rfl, rfl⟩, Ext.refl _ _⟩
  have hA := h
  clear h
  obtain ⟨T, ds⟩ := A
  obtain ⟨hsz, hds, h_0, h_1⟩ := hA
  obtain rfl : ds = [] := hds
  try clear hds
  replace hsz : T.size = 46 := hsz
  revert h_0 h_1
  revert hsz
  revert T
  refine arr46 ?_
  intro e0 e1 e2 e3 e4 e5 e6 e7 e8 e9 e10 e11 e12 e13 e14 e15 e16 e17 e18 e19 e20 e21 e22 e23 e24 e25 e26 e27 e28 e29 e30 e31 e32 e33 e34 e35 e36 e37 e38 e39 e40 e41 e42 e43 e44 e45 h_0 h_1
  have h_0 : e0 = .slice a n cp := h_0
  subst h_0
  have h_1 : e1 = .slice b m cq := h_1
  subst h_1
  have hS : u.heap.size ≤ u1.heap.size := hg.size
  replace hf : Fam u1 a n f := hg.fam hf
  replace hf2 : Fam u1 b m g := hg.fam hf2
  clear hg
  refine Gw.ctl rfl (fun w => stepG_seq (x := cl (ct 1 bCx)) (y := (ct 2 bCx))) ?_
  refine Gw.seg CC RR (f := 10) (N := fun a' u' => ∃ xa n1 c1 ya m1 d1, (a'.tmps.size = 46 ∧ a'.defers = [] ∧ a'.tmps.getD 7 undef = .slice xa n1 c1 ∧ a'.tmps.getD 8 undef = .slice ya m1 d1 ∧ a'.tmps.getD 9 undef = .bool (ok2 f g)) ∧ Crs u' xa n1 (rdF f) ∧ Crs u' ya m1 (rdF g)) (Rt := fun a' u' => False) rfl (kn_nil rfl) rfl (by kernel_rfl) (fun _ _ _ _ h => h) (fun _ _ _ _ h => h) (fun t d => ?_) (fun A u2 hg h => ?_) fun _ _ _ _ _ h => h.elim
  · have H1 : Fam (World.re u1 t d) a n f := hf
    have H2 : Fam (World.re u1 t d) b m g := hf2
    generalize World.re u1 t d = v at H1 H2
    simp only [bCx, cl, cr, ct, co, Try.f10, Option.getD_some]
    go_wp2_with fail
    refine (readFamilies_any H1 H2).mono ?_; rintro e w1 ⟨a1, n1, c1, b1, m1, d1, rfl, o1, o2, hne, e1⟩
    go_wp2_with fail
    exact ⟨⟨_, _, _, _, _, _, ⟨rfl, rfl, rfl, rfl, rfl⟩, o1.crs, o2.crs⟩, e1⟩
  obtain ⟨xa, n1, c1, ya, m1, d1, hA, hx, hy⟩ := h
  obtain ⟨T, ds⟩ := A
  obtain ⟨hsz, hds, h_7, h_8, h_9⟩ := hA
  obtain rfl : ds = [] := hds
  try clear hds
  replace hsz : T.size = 46 := hsz
  revert h_7 h_8 h_9
  revert hsz
  revert T
  refine arr46 ?_
  intro e0 e1 e2 e3 e4 e5 e6 e7 e8 e9 e10 e11 e12 e13 e14 e15 e16 e17 e18 e19 e20 e21 e22 e23 e24 e25 e26 e27 e28 e29 e30 e31 e32 e33 e34 e35 e36 e37 e38 e39 e40 e41 e42 e43 e44 e45 h_7 h_8 h_9
  have h_7 : e7 = .slice xa n1 c1 := h_7
  subst h_7
  have h_8 : e8 = .slice ya m1 d1 := h_8
  subst h_8
  have h_9 : e9 = .bool (ok2 f g) := h_9
  subst h_9
  replace hS : u.heap.size ≤ u2.heap.size := Nat.le_trans hS hg.size
  clear hf hf2 hg
  have hn1 : n1 ≤ 20 := by rw [← hx.len]; exact rdF_len f
  have hm1 : m1 ≤ 20 := by rw [← hy.len]; exact rdF_len g
  have hxl := hx.len
  have hyl := hy.len
  obtain ⟨q, hq⟩ : ∃ q, ok2 f g = q := ⟨_, rfl⟩
  rw [hq]
  refine Gw.ctl rfl (fun w => stepG_seq (x := cl (ct 2 bCx)) (y := (ct 3 bCx))) ?_
  refine Gw.seg CC RR (f := 10) (N := fun a' u' => (a'.tmps.size = 46 ∧ a'.defers = [] ∧ a'.tmps.getD 7 undef = .slice xa n1 c1 ∧ a'.tmps.getD 8 undef = .slice ya m1 d1) ∧ ok2 f g = true) (Rt := fun a' u' => RetC f g u.heap.size a'.tmps u') rfl (kn_nil rfl) rfl (by kernel_rfl) (fun _ _ _ _ h => h) (fun _ _ _ _ h => h) (fun t d => ?_) (fun A u3 hg h => ?_) (fun A u3 todo hd hg h => ?_)
  · generalize World.re u2 t d = v
    simp only [bCx, cl, cr, ct, co, Try.f10, Option.getD_some]
    cases q
    · have HR := Lib.hid (show CexR f g false [] [] from .inl ⟨rfl, rfl, rfl, .inl hq⟩)
      clear hq hx hy
      go_wp2_with fail
      exact ⟨⟨_, _, _, _, _, _, _, _, _, rfl, rfl, rfl, Ints.nil _ _, Ints.nil _ _, HR.out, TwoO.nil _ _⟩, Ext.refl _ _⟩
    · have HQ := Lib.hid hq
      clear hq hx hy
      go_wp2_with fail
      exact ⟨⟨⟨rfl, rfl, rfl, rfl⟩, HQ.out⟩, Ext.refl _ _⟩
  rotate_left
  · exact leave hd h
  obtain ⟨hA, hok⟩ := h
  obtain ⟨T, ds⟩ := A
  obtain ⟨hsz, hds, h_7, h_8⟩ := hA
  obtain rfl : ds = [] := hds
  try clear hds
  replace hsz : T.size = 46 := hsz
  revert h_7 h_8
  revert hsz
  revert T
  refine arr46 ?_
  intro e0 e1 e2 e3 e4 e5 e6 e7 e8 e9 e10 e11 e12 e13 e14 e15 e16 e17 e18 e19 e20 e21 e22 e23 e24 e25 e26 e27 e28 e29 e30 e31 e32 e33 e34 e35 e36 e37 e38 e39 e40 e41 e42 e43 e44 e45 h_7 h_8
  have h_7 : e7 = .slice xa n1 c1 := h_7
  subst h_7
  have h_8 : e8 = .slice ya m1 d1 := h_8
  subst h_8
  clear hq
  replace hS : u.heap.size ≤ u3.heap.size := Nat.le_trans hS hg.size
  replace hx : Crs u3 xa n1 (rdF f) := hg.crs hx
  replace hy : Crs u3 ya m1 (rdF g) := hg.crs hy
  clear hg
  refine Gw.ctl rfl (fun w => stepG_seq (x := cl (ct 3 bCx)) (y := (ct 4 bCx))) ?_
  refine Gw.ctl rfl (fun w => stepG_seq (x := .region 4 rCx4 false) (y := cr (cl (ct 3 bCx)))) ?_
  refine Gw.ctl rfl (fun w => stepG_region) ?_
  rw [show List.range rCx4.size = [0, 1, 2, 3, 4] from rfl]
  refine Gw.mv (oo := rCx4.getD 0 default) rfl (.inl rfl) rfl (bkn _) ?_
  refine Gw.mv (oo := rCx4.getD 1 default) rfl (.inl rfl) rfl (bkn _) ?_
  refine (?_ : ∀ A : Act, (A.tmps.size = 46 ∧ A.defers = [] ∧ A.tmps.getD 7 undef = .slice xa n1 c1 ∧ A.tmps.getD 8 undef = .slice ya m1 d1 ∧ A.tmps.getD 22 undef = .slice xa n1 c1 ∧ A.tmps.getD 23 undef = .slice ya m1 d1) → Gw _ _ _ _ _ _ (G ((base 10).at A _) _)) _ ⟨rfl, rfl, rfl, rfl, rfl, rfl⟩
  intro A hA
  obtain ⟨T, ds⟩ := A
  obtain ⟨hsz, hds, h_7, h_8, h_22, h_23⟩ := hA
  obtain rfl : ds = [] := hds
  try clear hds
  replace hsz : T.size = 46 := hsz
  revert h_7 h_8 h_22 h_23
  revert hsz
  revert T
  refine arr46 ?_
  intro e0 e1 e2 e3 e4 e5 e6 e7 e8 e9 e10 e11 e12 e13 e14 e15 e16 e17 e18 e19 e20 e21 e22 e23 e24 e25 e26 e27 e28 e29 e30 e31 e32 e33 e34 e35 e36 e37 e38 e39 e40 e41 e42 e43 e44 e45 h_7 h_8 h_22 h_23
  have h_7 : e7 = .slice xa n1 c1 := h_7
  subst h_7
  have h_8 : e8 = .slice ya m1 d1 := h_8
  subst h_8
  have h_22 : e22 = .slice xa n1 c1 := h_22
  subst h_22
  have h_23 : e23 = .slice ya m1 d1 := h_23
  subst h_23
  refine Gw.gcall (oo := rCx4.getD 2 default) (g := 32) (args := #[.tmp 22, .tmp 23]) rfl rfl (bkn _) rfl Try.func32 nmCommon rfl (vals := #[.slice xa n1 c1, .slice ya m1 d1]) (by simp [Act.eval]) (common_g (cx := c1) (cy := d1) hx hy hn1 hm1 (rdF_lt f) (rdF_lt g)) fun X4 v u4 hg ⟨C, hv, hM⟩ => ?_
  subst hv
  refine (?_ : ∀ A : Act, (A.tmps.size = 46 ∧ A.defers = [] ∧ A.tmps.getD 7 undef = .slice xa n1 c1 ∧ A.tmps.getD 8 undef = .slice ya m1 d1 ∧ A.tmps.getD 24 undef = .slice (some ⟨C, 0, none⟩) n1 n1) → Gw _ _ _ _ _ _ (G ((base 10).at A _) _)) _ ⟨rfl, rfl, rfl, rfl, rfl⟩
  intro A hA
  obtain ⟨T, ds⟩ := A
  obtain ⟨hsz, hds, h_7, h_8, h_24⟩ := hA
  obtain rfl : ds = [] := hds
  try clear hds
  replace hsz : T.size = 46 := hsz
  revert h_7 h_8 h_24
  revert hsz
  revert T
  refine arr46 ?_
  intro e0 e1 e2 e3 e4 e5 e6 e7 e8 e9 e10 e11 e12 e13 e14 e15 e16 e17 e18 e19 e20 e21 e22 e23 e24 e25 e26 e27 e28 e29 e30 e31 e32 e33 e34 e35 e36 e37 e38 e39 e40 e41 e42 e43 e44 e45 h_7 h_8 h_24
  have h_7 : e7 = .slice xa n1 c1 := h_7
  subst h_7
  have h_8 : e8 = .slice ya m1 d1 := h_8
  subst h_8
  have h_24 : e24 = .slice (some ⟨C, 0, none⟩) n1 n1 := h_24
  subst h_24
  replace hS : u.heap.size ≤ u4.heap.size := Nat.le_trans hS hg.size
  replace hx : Crs u4 xa n1 (rdF f) := hg.crs hx
  replace hy : Crs u4 ya m1 (rdF g) := hg.crs hy
  clear hg
  refine Gw.oprest CC RR (f := 10) (N := fun a' u' => (a'.tmps.size = 46 ∧ a'.defers = [] ∧ a'.tmps.getD 7 undef = .slice xa n1 c1 ∧ a'.tmps.getD 8 undef = .slice ya m1 d1 ∧ a'.tmps.getD 24 undef = .slice (some ⟨C, 0, none⟩) n1 n1 ∧ a'.tmps.getD 25 undef = .int .i64 n1 ∧ a'.tmps.getD 26 undef = .int .i64 0)) rfl (kn_nil rfl) rfl (by kernel_rfl) (fun _ _ _ _ h => h) (fun t d => ?_) (fun A u5 hg hA => ?_)
  · generalize World.re u4 t d = v
    refine wpOps_rest 3 rfl ?_
    simp only [rCx4, bCx, cl, cr, ct, co, Try.f10, Option.getD_some, List.drop_succ_cons, List.drop_zero]
    go_wp2_with fail
    exact ⟨⟨rfl, rfl, rfl, rfl, rfl, rfl, rfl⟩, Ext.refl _ _⟩
  obtain ⟨T, ds⟩ := A
  obtain ⟨hsz, hds, h_7, h_8, h_24, h_25, h_26⟩ := hA
  obtain rfl : ds = [] := hds
  try clear hds
  replace hsz : T.size = 46 := hsz
  revert h_7 h_8 h_24 h_25 h_26
  revert hsz
  revert T
  refine arr46 ?_
  intro e0 e1 e2 e3 e4 e5 e6 e7 e8 e9 e10 e11 e12 e13 e14 e15 e16 e17 e18 e19 e20 e21 e22 e23 e24 e25 e26 e27 e28 e29 e30 e31 e32 e33 e34 e35 e36 e37 e38 e39 e40 e41 e42 e43 e44 e45 h_7 h_8 h_24 h_25 h_26
  have h_7 : e7 = .slice xa n1 c1 := h_7
  subst h_7
  have h_8 : e8 = .slice ya m1 d1 := h_8
  subst h_8
  have h_24 : e24 = .slice (some ⟨C, 0, none⟩) n1 n1 := h_24
  subst h_24
  have h_25 : e25 = .int .i64 n1 := h_25
  subst h_25
  have h_26 : e26 = .int .i64 0 := h_26
  subst h_26
  replace hS : u.heap.size ≤ u5.heap.size := Nat.le_trans hS hg.size
  replace hx : Crs u5 xa n1 (rdF f) := hg.crs hx
  replace hy : Crs u5 ya m1 (rdF g) := hg.crs hy
  replace hM : Mat u5 (some ⟨C, 0, none⟩) n1 (rowsL (rdF f) (rdF g)) := hg.mat hM
  clear hg
  refine Gw.seg CC RR (f := 10) (N := fun a' u' => (a'.tmps.size = 46 ∧ a'.defers = [] ∧ a'.tmps.getD 7 undef = .slice xa n1 c1) ∧ NoC (rdF f) (rdF g) (rdF f).length) (Rt := fun a' u' => RetC f g u.heap.size a'.tmps u') rfl (kn_nil rfl) rfl (by kernel_rfl) (fun _ _ _ _ h => h) (fun _ _ _ _ h => h) (fun t d => ?_) (fun A u6 hg h => ?_) (fun A u6 todo hd hg h => ?_)
  · have H1 : Crs (World.re u5 t d) xa n1 (rdF f) := hx
    have H2 : Crs (World.re u5 t d) ya m1 (rdF g) := hy
    have HS : u.heap.size ≤ ((World.re u5 t d)).heap.size := hS
    have H3 : Mat (World.re u5 t d) (some ⟨C, 0, none⟩) n1 (rowsL (rdF f) (rdF g)) := hM
    generalize World.re u5 t d = v at H1 H2 HS H3
    simp only [bCx, cl, cr, ct, co, Try.f10, Option.getD_some]
    have HX := Lib.hid H1
    have HY := Lib.hid H2
    have HM := Lib.hid H3
    have HOK := Lib.hid hok
    have HXL := Lib.hid hxl
    have HYL := Lib.hid hyl
    have h64 := Lib.hid (fun (k : Nat) (hk : k < n1) => getD_lt (rdF_lt f) (show k < (rdF f).length from by rw [hxl]; exact hk))
    have h65 := Lib.hid (fun (k : Nat) (hk : k < m1) => getD_lt (rdF_lt g) (show k < (rdF g).length from by rw [hyl]; exact hk))
    clear hok hx hy H1 H2 H3 hM hxl hyl
    go_wp2_with fail
    go_loop [26] (fun i => ∃ k : Nat, k ≤ n1 ∧ i = .int .i64 (k : Nat) ∧ NoC (rdF f) (rdF g) k) (fun i => n1 - (intOf i).toNat)
    case atStart => exact ⟨0, by omega, rfl, fun j hj => absurd hj (by omega)⟩
    case round =>
      obtain ⟨k, hk, rfl, hn⟩ := hrel
      have HN := Lib.hid hn
      clear hn
      by_cases hlt : k < n1
      · have hltI : (k : Int) < (n1 : Int) := by omega
        obtain ⟨b5, off5, a6, n6, c6, hb5, hc5, ho5⟩ := HM.out.cell hlt
        have HO5 := Lib.hid ho5.crs
        have HI := Lib.hid hb5
        obtain ⟨rfl, rfl⟩ : C = b5 ∧ 0 = off5 := by simpa using hb5
        clear ho5 hb5
        rw [Nat.zero_add] at hc5
        obtain ⟨z, hz⟩ : ∃ z, z = idxN ((rowsL (rdF f) (rdF g)).getD k []) 0 := ⟨_, rfl⟩
        have HZ := Lib.hid hz
        clear hz
        go_wp2_with fail
        refine (Index_any (v := 0) HO5.out).mono ?_; rintro e w7 ⟨rfl, rfl⟩
        rw [← HZ.out]
        by_cases hz0 : 0 ≤ z
        · obtain ⟨r, hr, hrl, hcx⟩ := HN.out.hit HOK.out (by rw [HXL.out]; exact hlt) (by rw [← HZ.out]; exact hz0)
          obtain rfl : z = (r : Int) := HZ.out.trans hr
          have hrm : r < m1 := by rw [← HYL.out]; exact hrl
          have HCX := Lib.hid hcx
          obtain ⟨b8, off8, rfl, hc8⟩ := HX.out.cell hlt
          obtain ⟨b9, off9, rfl, hc9⟩ := HY.out.cell hrm
          have k64 := Lib.hid (h64.out k hlt)
          have k65 := Lib.hid (h65.out r hrm)
          obtain ⟨x8, hx8⟩ : ∃ x, x = (rdF f).getD k 0 := ⟨_, rfl⟩
          obtain ⟨x9, hx9⟩ : ∃ x, x = (rdF g).getD r 0 := ⟨_, rfl⟩
          rw [← hx8] at hc8 k64 HCX
          rw [← hx9] at hc9 k65 HCX
          clear hcx hr hrl hx8 hx9 HZ
          go_wp2_with fail
          have hdr := Lib.hid (show Ext none v v.drew from (Ext.refl _ _).drew)
          go_region_held3 (fun w' => w'.cell? ⟨b8, off8 + k, none⟩ = some (.int .u64 (x8 : Nat)) ∧ w'.cell? ⟨b9, off9 + r, none⟩ = some (.int .u64 (x9 : Nat)))
            (first | exact ⟨E9.cell hc8, E9.cell hc9⟩ | exact ⟨E8.cell hc8, E8.cell hc9⟩ | exact ⟨hc8, hc9⟩ | go_keep)
            ((first
            | (have E8b := E8; go_simp; go_at_call 34; refine (members_any k65.out).mono ?_; rintro e wB ⟨a9, n9, c9, rfl, o9, e9⟩; have E9 := E8.trans e9; have o8b := o8.ints.ext e9; have t8 := (o8.mono HS).ext0 e9; have t9 := fun k (hk : (Value.slice a8 n8 c8).ownBlock = some k) => (World.ownsRow.lt o8 k hk).2; clear e9)
            | (go_simp; go_at_call 34; refine (members_any k64.out).mono ?_; rintro e wA ⟨a8, n8, c8, rfl, o8, e8⟩; have E8 := hdr.out.trans e8; clear e8)))
          all_goals
            go_wp2_with fail
            exact ⟨⟨_, _, _, _, _, _, _, _, _, rfl, rfl, rfl, o8b, o9.ints, HCX.out, _, t8, t9, Nat.le_trans HS E8.size, o9⟩, E9⟩
        · have hst := Lib.hid (HN.out.step (by rw [HXL.out]; exact hlt) (by rw [← HZ.out]; exact hz0))
          have hz1 : ¬ z ≥ 0 := hz0
          go_wp2_with fail
          go_round
          case rel => exact ⟨k + 1, by omega, by go_num, hst.out⟩
          case measure => simp [intOf]; omega
      · obtain rfl : k = n1 := by omega
        go_wp2_with fail
        exact ⟨⟨⟨rfl, rfl, rfl⟩, by rw [HXL.out]; exact HN.out⟩, Ext.refl _ _⟩
  rotate_left
  · exact leave hd h
  obtain ⟨hA, hno⟩ := h
  obtain ⟨T, ds⟩ := A
  obtain ⟨hsz, hds, h_7⟩ := hA
  obtain rfl : ds = [] := hds
  try clear hds
  replace hsz : T.size = 46 := hsz
  revert h_7
  revert hsz
  revert T
  refine arr46 ?_
  intro e0 e1 e2 e3 e4 e5 e6 e7 e8 e9 e10 e11 e12 e13 e14 e15 e16 e17 e18 e19 e20 e21 e22 e23 e24 e25 e26 e27 e28 e29 e30 e31 e32 e33 e34 e35 e36 e37 e38 e39 e40 e41 e42 e43 e44 e45 h_7
  have h_7 : e7 = .slice xa n1 c1 := h_7
  subst h_7
  refine Gw.seg CC RR (f := 10) (N := fun _ _ => False) (Rt := fun a' u' => RetC f g u.heap.size a'.tmps u') rfl (kn_nil rfl) rfl (by kernel_rfl) (fun _ _ _ _ h => h) (fun _ _ _ _ h => h) (fun t d => ?_) (fun _ _ _ h => h.elim) fun A u7 todo hd hg h => leave hd h
  · generalize World.re u6 t d = v
    have HR := Lib.hid (show CexR f g false [] [] from .inl ⟨rfl, rfl, rfl, .inr hno⟩)
    simp only [bCx, cl, cr, ct, co, Try.f10, Option.getD_some]
    go_wp2_with fail
    exact ⟨⟨_, _, _, _, _, _, _, _, _, rfl, rfl, rfl, Ints.nil _ _, Ints.nil _ _, HR.out, TwoO.nil _ _⟩, Ext.refl _ _⟩
end Go.Proofs.Ytnifgfnhcjhodaa
