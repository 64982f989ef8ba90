/- impl.IntersectVerify: its contract. Conditions: two families and a slice of ints lie in memory. -/
import Derived.Test.YtnifgfnhcjhodaaP1
set_option linter.unusedVariables false
set_option linter.unusedSimpArgs false
namespace Go.Proofs.Ytnifgfnhcjhodaa
open Go.Conc Go.RowKit

/-- The first k entries are common members. -/
def vk (q : List Nat) (cert : List Int) (k : Nat) : Bool := (List.range k).all fun j => has (q.getD j 0) (cert.getD j 0)
theorem vk_step (q : List Nat) (cert : List Int) (k : Nat) : vk q cert (k + 1) = (vk q cert k && has (q.getD k 0) (cert.getD k 0)) := by
  unfold vk; rw [List.range_succ, List.all_append]; simp
theorem vk_no {q : List Nat} {cert : List Int} {k n : Nat} (hk : k < n) (h : has (q.getD k 0) (cert.getD k 0) = false) : vk q cert n = false := by
  unfold vk
  rw [List.all_eq_false]
  exact ⟨k, List.mem_range.2 hk, fun e => by rw [h] at e; cases e⟩
def flatL (f g : List (List Int)) : List Nat := (rowsL (rdF f) (rdF g)).flatten
/-- What IntersectVerify returns. -/
def verL (f g : List (List Int)) (cert : List Int) : Bool := ok2 f g && (decide (cert.length = (rdF f).length * (rdF g).length) && vk (flatL f g) cert cert.length)
theorem flat_len (x y : List Nat) : (rowsL x y).flatten.length = x.length * y.length := by
  unfold rowsL
  induction x with
  | nil => simp
  | cons a x ih => simp only [List.map_cons, List.flatten_cons, List.length_append, List.length_map, ih, List.length_cons, Nat.add_mul, Nat.one_mul]; omega
theorem flat_at (x y : List Nat) (i k : Nat) (hi : i < x.length) (hk : k < y.length) : (rowsL x y).flatten.getD (i * y.length + k) 0 = x.getD i 0 &&& y.getD k 0 := by
  induction x generalizing i with
  | nil => simp at hi
  | cons a x ih =>
    have e : (rowsL (a :: x) y).flatten = (y.map fun b => a &&& b) ++ (rowsL x y).flatten := by simp [rowsL]
    rw [e]
    cases i with
    | zero =>
      rw [Nat.zero_mul, Nat.zero_add, List.getD_eq_getElem?_getD, List.getElem?_append_left (by simpa using hk)]
      simp [hk, List.getD]
    | succ i =>
      have hge : (y.map fun b => a &&& b).length ≤ (i + 1) * y.length + k := by rw [List.length_map, Nat.add_mul]; omega
      rw [List.getD_eq_getElem?_getD, List.getElem?_append_right hge, List.length_map, show (i + 1) * y.length + k - y.length = i * y.length + k from by rw [Nat.add_mul]; omega, ← List.getD_eq_getElem?_getD, ih i (by simpa using hi)]
      simp [List.getD]
theorem flat_lt {x y : List Nat} (hx : ∀ c ∈ x, c < 64) : ∀ c ∈ (rowsL x y).flatten, c < 64 := by
  intro c hc
  obtain ⟨r, hr, hcr⟩ := List.mem_flatten.1 hc
  obtain ⟨a, ha, rfl⟩ := List.mem_map.1 hr
  obtain ⟨b, hb, rfl⟩ := List.mem_map.1 hcr
  exact Nat.lt_of_le_of_lt Nat.and_le_left (hx a ha)

noncomputable def bVer : Code := Try.f16.body.getD .skip
noncomputable def rVer4 : Array Oper := co (cl (cl (ct 3 bVer)))
set_option maxRecDepth 10000 in
theorem arr49 {motive : Array Value → Prop} (k : ∀ e0 e1 e2 e3 e4 e5 e6 e7 e8 e9 e10 e11 e12 e13 e14 e15 e16 e17 e18 e19 e20 e21 e22 e23 e24 e25 e26 e27 e28 e29 e30 e31 e32 e33 e34 e35 e36 e37 e38 e39 e40 e41 e42 e43 e44 e45 e46 e47 e48 : Value, motive #[e0, e1, e2, e3, e4, e5, e6, e7, e8, e9, e10, e11, e12, e13, e14, e15, e16, e17, e18, e19, e20, e21, e22, e23, e24, e25, e26, e27, e28, e29, e30, e31, e32, e33, e34, e35, e36, e37, e38, e39, e40, e41, e42, e43, e44, e45, e46, e47, e48]) : ∀ T : Array Value, T.size = 49 → motive T := by
  intro T h
  obtain ⟨l⟩ := T
  have h : l.length = 49 := h
  obtain ⟨e0, l0, rfl, h0⟩ := lcons h
  obtain ⟨e1, l1, rfl, h1⟩ := lcons h0
  obtain ⟨e2, l2, rfl, h2⟩ := lcons h1
  obtain ⟨e3, l3, rfl, h3⟩ := lcons h2
  obtain ⟨e4, l4, rfl, h4⟩ := lcons h3
  obtain ⟨e5, l5, rfl, h5⟩ := lcons h4
  obtain ⟨e6, l6, rfl, h6⟩ := lcons h5
  obtain ⟨e7, l7, rfl, h7⟩ := lcons h6
  obtain ⟨e8, l8, rfl, h8⟩ := lcons h7
  obtain ⟨e9, l9, rfl, h9⟩ := lcons h8
  obtain ⟨e10, l10, rfl, h10⟩ := lcons h9
  obtain ⟨e11, l11, rfl, h11⟩ := lcons h10
  obtain ⟨e12, l12, rfl, h12⟩ := lcons h11
  obtain ⟨e13, l13, rfl, h13⟩ := lcons h12
  obtain ⟨e14, l14, rfl, h14⟩ := lcons h13
  obtain ⟨e15, l15, rfl, h15⟩ := lcons h14
  obtain ⟨e16, l16, rfl, h16⟩ := lcons h15
  obtain ⟨e17, l17, rfl, h17⟩ := lcons h16
  obtain ⟨e18, l18, rfl, h18⟩ := lcons h17
  obtain ⟨e19, l19, rfl, h19⟩ := lcons h18
  obtain ⟨e20, l20, rfl, h20⟩ := lcons h19
  obtain ⟨e21, l21, rfl, h21⟩ := lcons h20
  obtain ⟨e22, l22, rfl, h22⟩ := lcons h21
  obtain ⟨e23, l23, rfl, h23⟩ := lcons h22
  obtain ⟨e24, l24, rfl, h24⟩ := lcons h23
  obtain ⟨e25, l25, rfl, h25⟩ := lcons h24
  obtain ⟨e26, l26, rfl, h26⟩ := lcons h25
  obtain ⟨e27, l27, rfl, h27⟩ := lcons h26
  obtain ⟨e28, l28, rfl, h28⟩ := lcons h27
  obtain ⟨e29, l29, rfl, h29⟩ := lcons h28
  obtain ⟨e30, l30, rfl, h30⟩ := lcons h29
  obtain ⟨e31, l31, rfl, h31⟩ := lcons h30
  obtain ⟨e32, l32, rfl, h32⟩ := lcons h31
  obtain ⟨e33, l33, rfl, h33⟩ := lcons h32
  obtain ⟨e34, l34, rfl, h34⟩ := lcons h33
  obtain ⟨e35, l35, rfl, h35⟩ := lcons h34
  obtain ⟨e36, l36, rfl, h36⟩ := lcons h35
  obtain ⟨e37, l37, rfl, h37⟩ := lcons h36
  obtain ⟨e38, l38, rfl, h38⟩ := lcons h37
  obtain ⟨e39, l39, rfl, h39⟩ := lcons h38
  obtain ⟨e40, l40, rfl, h40⟩ := lcons h39
  obtain ⟨e41, l41, rfl, h41⟩ := lcons h40
  obtain ⟨e42, l42, rfl, h42⟩ := lcons h41
  obtain ⟨e43, l43, rfl, h43⟩ := lcons h42
  obtain ⟨e44, l44, rfl, h44⟩ := lcons h43
  obtain ⟨e45, l45, rfl, h45⟩ := lcons h44
  obtain ⟨e46, l46, rfl, h46⟩ := lcons h45
  obtain ⟨e47, l47, rfl, h47⟩ := lcons h46
  obtain ⟨e48, l48, rfl, h48⟩ := lcons h47
  obtain rfl := List.length_eq_zero_iff.1 h48
  exact k e0 e1 e2 e3 e4 e5 e6 e7 e8 e9 e10 e11 e12 e13 e14 e15 e16 e17 e18 e19 e20 e21 e22 e23 e24 e25 e26 e27 e28 e29 e30 e31 e32 e33 e34 e35 e36 e37 e38 e39 e40 e41 e42 e43 e44 e45 e46 e47 e48

set_option maxRecDepth 20000 in
set_option maxHeartbeats 4000000 in
theorem IntersectVerify_g {a : Option Addr} {n cp : Nat} {f : List (List Int)} {b : Option Addr} {m cq : Nat} {g : List (List Int)} {ca : Option Addr} {l cc : Nat} {cert : List Int} {u : World} (hf : Fam u a n f) (hf2 : Fam u b m g) (hc : Ints u ca l cert) :
    GCalls Try.prog 16 #[.slice a n cp, .slice b m cq, .slice ca l cc] u fun v _ => v = .bool (verL f g cert) := by
  obtain ⟨q, hq⟩ : ∃ q, verL f g cert = q := ⟨_, rfl⟩
  rw [hq]
  have hcl := hc.len
  have hcm := hc.max
  refine GCalls.of (cd := bVer) Try.func16 rfl fun X c cs hXl => ?_
  have leave : ∀ {X' : Nat → Prop} {u1 : World} {a' : Act} {todo : List Item}, a'.defers = [] → a'.tmps.getD 6 undef = .bool q → Gw Try.prog X u (fun X' g' w' => ∃ v u', g' = G (c.finish v) cs ∧ Wd X u X' u' w' ∧ v = .bool q) X' u1 (G { (base 16).at a' todo with mode := .returning } (c :: cs)) := fun hd h2 =>
    Gw.leave (v := .bool q) Try.func16 hd (by rw [← h2]; simp [results, Try.f16]) (Gw.done (Post := fun v _ => v = .bool q) rfl)
  refine Gw.ctl rfl (fun w => stepG_seq (x := cl (ct 0 bVer)) (y := (ct 1 bVer))) ?_
  refine Gw.seg CC RR (f := 16) (N := fun a' u' => (a'.tmps.size = 49 ∧ a'.defers = [] ∧ a'.tmps.getD 0 undef = .slice a n cp ∧ a'.tmps.getD 1 undef = .slice b m cq ∧ a'.tmps.getD 2 undef = .slice ca l cc ∧ a'.tmps.getD 6 undef = .bool false)) (Rt := fun a' u' => False) rfl (kn_nil rfl) rfl (by kernel_rfl) (fun _ _ _ _ h => h) (fun _ _ _ _ h => h) (fun t d => ?_) (fun A u1 hg h => ?_) fun _ _ _ _ _ h => h.elim
  · generalize World.re u t d = v
    simp only [bVer, cl, cr, ct, co, Try.f16, Option.getD_some, List.size_toArray, List.length_cons, List.length_nil, Nat.reduceAdd, Nat.reduceSub, Array.replicate_succ, Array.replicate_zero, List.push_toArray, List.append_toArray, List.nil_append, List.cons_append]
    go_wp2_with fail
    exact ⟨⟨rfl, rfl, rfl, rfl, rfl, rfl⟩, Ext.refl _ _⟩
  have hA := h
  clear h
  obtain ⟨T, ds⟩ := A
  obtain ⟨hsz, hds, h_0, h_1, h_2, h_6⟩ := hA
  obtain rfl : ds = [] := hds
  try clear hds
  replace hsz : T.size = 49 := hsz
  revert h_0 h_1 h_2 h_6
  revert hsz
  revert T
  refine arr49 ?_
  intro e0 e1 e2 e3 e4 e5 e6 e7 e8 e9 e10 e11 e12 e13 e14 e15 e16 e17 e18 e19 e20 e21 e22 e23 e24 e25 e26 e27 e28 e29 e30 e31 e32 e33 e34 e35 e36 e37 e38 e39 e40 e41 e42 e43 e44 e45 e46 e47 e48 h_0 h_1 h_2 h_6
  have h_0 : e0 = .slice a n cp := h_0
  subst h_0
  have h_1 : e1 = .slice b m cq := h_1
  subst h_1
  have h_2 : e2 = .slice ca l cc := h_2
  subst h_2
  have h_6 : e6 = .bool false := h_6
  subst h_6
  replace hf : Fam u1 a n f := hg.fam hf
  replace hf2 : Fam u1 b m g := hg.fam hf2
  replace hc : Ints u1 ca l cert := hg.ints hc
  clear hg
  refine Gw.ctl rfl (fun w => stepG_seq (x := cl (ct 1 bVer)) (y := (ct 2 bVer))) ?_
  refine Gw.seg CC RR (f := 16) (N := fun a' u' => ∃ xa n1 c1 ya m1 d1, (a'.tmps.size = 49 ∧ a'.defers = [] ∧ a'.tmps.getD 2 undef = .slice ca l cc ∧ a'.tmps.getD 6 undef = .bool false ∧ a'.tmps.getD 7 undef = .slice xa n1 c1 ∧ a'.tmps.getD 8 undef = .slice ya m1 d1 ∧ a'.tmps.getD 9 undef = .bool (ok2 f g)) ∧ Crs u' xa n1 (rdF f) ∧ Crs u' ya m1 (rdF g)) (Rt := fun a' u' => False) rfl (kn_nil rfl) rfl (by kernel_rfl) (fun _ _ _ _ h => h) (fun _ _ _ _ h => h) (fun t d => ?_) (fun A u2 hg h => ?_) fun _ _ _ _ _ h => h.elim
  · have H1 : Fam (World.re u1 t d) a n f := hf
    have H2 : Fam (World.re u1 t d) b m g := hf2
    generalize World.re u1 t d = v at H1 H2
    simp only [bVer, cl, cr, ct, co, Try.f16, Option.getD_some]
    go_wp2_with fail
    refine (readFamilies_any H1 H2).mono ?_; rintro e w1 ⟨a1, n1, c1, b1, m1, d1, rfl, o1, o2, hne, e1⟩
    go_wp2_with fail
    exact ⟨⟨_, _, _, _, _, _, ⟨rfl, rfl, rfl, rfl, rfl, rfl, rfl⟩, o1.crs, o2.crs⟩, e1⟩
  obtain ⟨xa, n1, c1, ya, m1, d1, hA, hx, hy⟩ := h
  obtain ⟨T, ds⟩ := A
  obtain ⟨hsz, hds, h_2, h_6, h_7, h_8, h_9⟩ := hA
  obtain rfl : ds = [] := hds
  try clear hds
  replace hsz : T.size = 49 := hsz
  revert h_2 h_6 h_7 h_8 h_9
  revert hsz
  revert T
  refine arr49 ?_
  intro e0 e1 e2 e3 e4 e5 e6 e7 e8 e9 e10 e11 e12 e13 e14 e15 e16 e17 e18 e19 e20 e21 e22 e23 e24 e25 e26 e27 e28 e29 e30 e31 e32 e33 e34 e35 e36 e37 e38 e39 e40 e41 e42 e43 e44 e45 e46 e47 e48 h_2 h_6 h_7 h_8 h_9
  have h_2 : e2 = .slice ca l cc := h_2
  subst h_2
  have h_6 : e6 = .bool false := h_6
  subst h_6
  have h_7 : e7 = .slice xa n1 c1 := h_7
  subst h_7
  have h_8 : e8 = .slice ya m1 d1 := h_8
  subst h_8
  have h_9 : e9 = .bool (ok2 f g) := h_9
  subst h_9
  clear hf hf2
  replace hc : Ints u2 ca l cert := hg.ints hc
  clear hg
  have hn1 : n1 ≤ 20 := by rw [← hx.len]; exact rdF_len f
  have hm1 : m1 ≤ 20 := by rw [← hy.len]; exact rdF_len g
  have hxl := hx.len
  have hyl := hy.len
  refine Gw.ctl rfl (fun w => stepG_seq (x := cl (ct 2 bVer)) (y := (ct 3 bVer))) ?_
  refine Gw.seg CC RR (f := 16) (N := fun a' u' => (a'.tmps.size = 49 ∧ a'.defers = [] ∧ a'.tmps.getD 2 undef = .slice ca l cc ∧ a'.tmps.getD 6 undef = .bool false ∧ a'.tmps.getD 7 undef = .slice xa n1 c1 ∧ a'.tmps.getD 8 undef = .slice ya m1 d1 ∧ a'.tmps.getD 9 undef = .bool (ok2 f g)) ∧ l = n1 * m1 ∧ vk (flatL f g) cert l = q) (Rt := fun a' u' => a'.tmps.getD 6 undef = .bool q) rfl (kn_nil rfl) rfl (by kernel_rfl) (fun _ _ _ _ h => h) (fun _ _ _ _ h => h) (fun t d => ?_) (fun A u3 hg h => ?_) (fun A u3 todo hd hg h => ?_)
  · generalize World.re u2 t d = v
    simp only [bVer, cl, cr, ct, co, Try.f16, Option.getD_some]
    obtain ⟨p, hp⟩ : ∃ p, p = n1 * m1 := ⟨_, rfl⟩
    have hp4 : p ≤ 400 := by rw [hp]; exact Nat.le_trans (Nat.mul_le_mul hn1 hm1) (by decide)
    have hmu : (n1 : Int) * (m1 : Int) = (p : Int) := by rw [hp]; exact (Int.natCast_mul _ _).symm
    have HP := Lib.hid hp
    have HQ := Lib.hid hq
    have HXL := Lib.hid hxl
    have HYL := Lib.hid hyl
    have HCL := Lib.hid hcl
    have hvr := Lib.hid (show verL f g cert = (ok2 f g && (decide (l = p) && vk (flatL f g) cert l)) from by unfold verL; rw [hxl, hyl, ← hp, hcl])
    clear hp hx hy hc hq hxl hyl hcl
    cases hk : ok2 f g
    · have hno := Lib.hid (show q = false from by rw [← HQ.out, hvr.out, hk]; rfl)
      go_wp2_with fail
      exact ⟨by rw [hno.out]; rfl, Ext.refl _ _⟩
    · have HK := Lib.hid hk
      by_cases hlp : l = p
      · have hyes := Lib.hid (show l = n1 * m1 ∧ vk (flatL f g) cert l = q from ⟨by rw [hlp]; exact HP.out, by rw [← HQ.out, hvr.out, hk, decide_eq_true hlp]; rfl⟩)
        subst hlp
        go_wp2_with fail
        exact ⟨⟨⟨rfl, rfl, rfl, rfl, rfl, rfl, rfl⟩, hyes.out.1, hyes.out.2⟩, Ext.refl _ _⟩
      · have hno := Lib.hid (show q = false from by rw [← HQ.out, hvr.out, hk, decide_eq_false hlp]; rfl)
        have hne : ((l : Int) == (p : Int)) = false := by rw [beq_eq_false_iff_ne]; omega
        have hne2 : ¬ (l : Int) = (p : Int) := by omega
        go_wp2_with fail
        exact ⟨by rw [hno.out]; rfl, Ext.refl _ _⟩
  rotate_left
  · exact leave hd h
  obtain ⟨hA, hln, hvq⟩ := h
  obtain ⟨T, ds⟩ := A
  obtain ⟨hsz, hds, h_2, h_6, h_7, h_8, h_9⟩ := hA
  obtain rfl : ds = [] := hds
  try clear hds
  replace hsz : T.size = 49 := hsz
  revert h_2 h_6 h_7 h_8 h_9
  revert hsz
  revert T
  refine arr49 ?_
  intro e0 e1 e2 e3 e4 e5 e6 e7 e8 e9 e10 e11 e12 e13 e14 e15 e16 e17 e18 e19 e20 e21 e22 e23 e24 e25 e26 e27 e28 e29 e30 e31 e32 e33 e34 e35 e36 e37 e38 e39 e40 e41 e42 e43 e44 e45 e46 e47 e48 h_2 h_6 h_7 h_8 h_9
  have h_2 : e2 = .slice ca l cc := h_2
  subst h_2
  have h_6 : e6 = .bool false := h_6
  subst h_6
  have h_7 : e7 = .slice xa n1 c1 := h_7
  subst h_7
  have h_8 : e8 = .slice ya m1 d1 := h_8
  subst h_8
  have h_9 : e9 = .bool (ok2 f g) := h_9
  subst h_9
  have HLN := Lib.hid hln
  clear hln
  replace hx : Crs u3 xa n1 (rdF f) := hg.crs hx
  replace hy : Crs u3 ya m1 (rdF g) := hg.crs hy
  replace hc : Ints u3 ca l cert := hg.ints hc
  clear hg
  refine Gw.ctl rfl (fun w => stepG_seq (x := cl (ct 3 bVer)) (y := (ct 4 bVer))) ?_
  refine Gw.ctl rfl (fun w => stepG_seq (x := .region 4 rVer4 false) (y := cr (cl (ct 3 bVer)))) ?_
  refine Gw.ctl rfl (fun w => stepG_region) ?_
  rw [show List.range rVer4.size = [0, 1, 2, 3, 4, 5] from rfl]
  refine Gw.mv (oo := rVer4.getD 0 default) rfl (.inl rfl) rfl (bkn _) ?_
  refine Gw.mv (oo := rVer4.getD 1 default) rfl (.inl rfl) rfl (bkn _) ?_
  refine (?_ : ∀ A : Act, (A.tmps.size = 49 ∧ A.defers = [] ∧ A.tmps.getD 2 undef = .slice ca l cc ∧ A.tmps.getD 6 undef = .bool false ∧ A.tmps.getD 31 undef = .slice xa n1 c1 ∧ A.tmps.getD 32 undef = .slice ya m1 d1) → Gw _ _ _ _ _ _ (G ((base 16).at A _) _)) _ ⟨rfl, rfl, rfl, rfl, rfl, rfl⟩
  intro A hA
  obtain ⟨T, ds⟩ := A
  obtain ⟨hsz, hds, h_2, h_6, h_31, h_32⟩ := hA
  obtain rfl : ds = [] := hds
  try clear hds
  replace hsz : T.size = 49 := hsz
  revert h_2 h_6 h_31 h_32
  revert hsz
  revert T
  refine arr49 ?_
  intro e0 e1 e2 e3 e4 e5 e6 e7 e8 e9 e10 e11 e12 e13 e14 e15 e16 e17 e18 e19 e20 e21 e22 e23 e24 e25 e26 e27 e28 e29 e30 e31 e32 e33 e34 e35 e36 e37 e38 e39 e40 e41 e42 e43 e44 e45 e46 e47 e48 h_2 h_6 h_31 h_32
  have h_2 : e2 = .slice ca l cc := h_2
  subst h_2
  have h_6 : e6 = .bool false := h_6
  subst h_6
  have h_31 : e31 = .slice xa n1 c1 := h_31
  subst h_31
  have h_32 : e32 = .slice ya m1 d1 := h_32
  subst h_32
  refine Gw.gcall (oo := rVer4.getD 2 default) (g := 32) (args := #[.tmp 31, .tmp 32]) rfl rfl (bkn _) rfl Try.func32 nmCommon rfl (vals := #[.slice xa n1 c1, .slice ya m1 d1]) (by simp [Act.eval]) (common_g (cx := c1) (cy := d1) hx hy hn1 hm1 (rdF_lt f) (rdF_lt g)) fun X4 v u4 hg ⟨C, hv, hM⟩ => ?_
  subst hv
  refine (?_ : ∀ A : Act, (A.tmps.size = 49 ∧ A.defers = [] ∧ A.tmps.getD 2 undef = .slice ca l cc ∧ A.tmps.getD 6 undef = .bool false ∧ A.tmps.getD 33 undef = .slice (some ⟨C, 0, none⟩) n1 n1) → Gw _ _ _ _ _ _ (G ((base 16).at A _) _)) _ ⟨rfl, rfl, rfl, rfl, rfl⟩
  intro A hA
  obtain ⟨T, ds⟩ := A
  obtain ⟨hsz, hds, h_2, h_6, h_33⟩ := hA
  obtain rfl : ds = [] := hds
  try clear hds
  replace hsz : T.size = 49 := hsz
  revert h_2 h_6 h_33
  revert hsz
  revert T
  refine arr49 ?_
  intro e0 e1 e2 e3 e4 e5 e6 e7 e8 e9 e10 e11 e12 e13 e14 e15 e16 e17 e18 e19 e20 e21 e22 e23 e24 e25 e26 e27 e28 e29 e30 e31 e32 e33 e34 e35 e36 e37 e38 e39 e40 e41 e42 e43 e44 e45 e46 e47 e48 h_2 h_6 h_33
  have h_2 : e2 = .slice ca l cc := h_2
  subst h_2
  have h_6 : e6 = .bool false := h_6
  subst h_6
  have h_33 : e33 = .slice (some ⟨C, 0, none⟩) n1 n1 := h_33
  subst h_33
  clear hx hy
  replace hc : Ints u4 ca l cert := hg.ints hc
  clear hg
  have hrl := rowsL_le (x := rdF f) (rdF_len g)
  refine Gw.oprest CC RR (f := 16) (N := fun a' u' => ∃ a4 m4 c4, (a'.tmps.size = 49 ∧ a'.defers = [] ∧ a'.tmps.getD 2 undef = .slice ca l cc ∧ a'.tmps.getD 6 undef = .bool false ∧ a'.tmps.getD 34 undef = .slice a4 m4 c4 ∧ a'.tmps.getD 35 undef = .int .i64 m4 ∧ a'.tmps.getD 36 undef = .int .i64 0) ∧ Crs u' a4 m4 (flatL f g)) rfl (kn_nil rfl) rfl (by kernel_rfl) (fun _ _ _ _ h => h) (fun t d => ?_) (fun A u5 hg h => ?_)
  · have HM : Mat (World.re u4 t d) (some ⟨C, 0, none⟩) n1 (rowsL (rdF f) (rdF g)) := hM
    generalize World.re u4 t d = v at HM
    have HRL := Lib.hid hrl
    clear hrl hM hq hvq
    refine wpOps_rest 3 rfl ?_
    simp only [rVer4, bVer, cl, cr, ct, co, Try.f16, Option.getD_some, List.drop_succ_cons, List.drop_zero]
    go_wp2_with fail
    refine (Concat_any HM hn1 HRL.out).mono ?_; rintro e w1 ⟨a4, m4, c4, rfl, o4, e4⟩
    go_wp2_with fail
    exact ⟨⟨_, _, _, ⟨rfl, rfl, rfl, rfl, rfl, rfl, rfl⟩, o4.crs⟩, e4⟩
  obtain ⟨a4, m4, c4, hA, hfl⟩ := h
  obtain ⟨T, ds⟩ := A
  obtain ⟨hsz, hds, h_2, h_6, h_34, h_35, h_36⟩ := hA
  obtain rfl : ds = [] := hds
  try clear hds
  replace hsz : T.size = 49 := hsz
  revert h_2 h_6 h_34 h_35 h_36
  revert hsz
  revert T
  refine arr49 ?_
  intro e0 e1 e2 e3 e4 e5 e6 e7 e8 e9 e10 e11 e12 e13 e14 e15 e16 e17 e18 e19 e20 e21 e22 e23 e24 e25 e26 e27 e28 e29 e30 e31 e32 e33 e34 e35 e36 e37 e38 e39 e40 e41 e42 e43 e44 e45 e46 e47 e48 h_2 h_6 h_34 h_35 h_36
  have h_2 : e2 = .slice ca l cc := h_2
  subst h_2
  have h_6 : e6 = .bool false := h_6
  subst h_6
  have h_34 : e34 = .slice a4 m4 c4 := h_34
  subst h_34
  have h_35 : e35 = .int .i64 m4 := h_35
  subst h_35
  have h_36 : e36 = .int .i64 0 := h_36
  subst h_36
  replace hc : Ints u5 ca l cert := hg.ints hc
  clear hg
  have hm4 : m4 = l := by rw [← hfl.len, HLN.out, ← hxl, ← hyl]; exact flat_len _ _
  refine Gw.seg CC RR (f := 16) (N := fun a' u' => (a'.tmps.size = 49 ∧ a'.defers = [] ∧ a'.tmps.getD 34 undef = .slice a4 m4 c4) ∧ q = true) (Rt := fun a' u' => a'.tmps.getD 6 undef = .bool q) rfl (kn_nil rfl) rfl (by kernel_rfl) (fun _ _ _ _ h => h) (fun _ _ _ _ h => h) (fun t d => ?_) (fun A u6 hg h => ?_) (fun A u6 todo hd hg h => ?_)
  · have H1 : Crs (World.re u5 t d) a4 m4 (flatL f g) := hfl
    have H2 : Ints (World.re u5 t d) ca l cert := hc
    generalize World.re u5 t d = v at H1 H2
    simp only [bVer, cl, cr, ct, co, Try.f16, Option.getD_some]
    have HQ := Lib.hid hvq
    have H64 := Lib.hid (show ∀ k, k < l → (flatL f g).getD k 0 < 64 from fun k hk => getD_lt (flat_lt (rdF_lt f)) (by have e := hfl.len; unfold flatL at e; rw [e, hm4]; exact hk))
    have HF := Lib.hid H1
    have HC := Lib.hid H2
    subst hm4
    have hm9 := hcm
    clear hvq hfl hc H1 H2 hM hq hxl hyl hcl HLN
    go_wp2_with fail
    go_loop [36] (fun i => ∃ k : Nat, k ≤ m4 ∧ i = .int .i64 (k : Nat) ∧ vk (flatL f g) cert k = true) (fun i => m4 - (intOf i).toNat)
    case atStart => exact ⟨0, by omega, rfl, rfl⟩
    case round =>
      obtain ⟨k, hk, rfl, ht⟩ := hrel
      have HT := Lib.hid ht
      clear ht
      by_cases hlt : k < m4
      · have hltI : (k : Int) < (m4 : Int) := by omega
        obtain ⟨b5, off5, rfl, hc5⟩ := HF.out.cell hlt
        obtain ⟨b6, off6, rfl, hc6⟩ := HC.out.cell hlt
        have h64 := Lib.hid (H64.out k hlt)
        have hst := Lib.hid (vk_step (flatL f g) cert k)
        have hno := Lib.hid (fun h => vk_no (q := flatL f g) (cert := cert) (k := k) (n := m4) hlt h)
        obtain ⟨x, hx⟩ : ∃ x, x = (flatL f g).getD k 0 := ⟨_, rfl⟩
        obtain ⟨y, hy⟩ : ∃ y, y = cert.getD k 0 := ⟨_, rfl⟩
        rw [← hx] at hc5 h64 hst hno
        rw [← hy] at hc6 hst hno
        clear hx hy
        obtain ⟨p, hp⟩ : ∃ p, p = has x y := ⟨_, rfl⟩
        have HPP := Lib.hid hp
        clear hp
        go_wp2_with fail
        refine (has_any h64.out).mono ?_; rintro e w7 ⟨rfl, rfl⟩
        rw [← HPP.out]
        cases p
        · have hq0 := Lib.hid (show q = false from by rw [← HQ.out]; exact hno.out HPP.out.symm)
          go_wp2_with fail
          exact ⟨by rw [hq0.out]; rfl, Ext.refl _ _⟩
        · have hnx := Lib.hid (show vk (flatL f g) cert (k + 1) = true from by rw [hst.out, HT.out, ← HPP.out]; rfl)
          go_wp2_with fail
          go_round
          case rel => exact ⟨k + 1, by omega, by go_num, hnx.out⟩
          case measure => simp [intOf]; omega
      · obtain rfl : k = m4 := by omega
        go_wp2_with fail
        have hqt := Lib.hid (show q = true from by rw [← HQ.out]; exact HT.out)
        exact ⟨⟨⟨rfl, rfl, rfl⟩, hqt.out⟩, Ext.refl _ _⟩
  rotate_left
  · exact leave hd h
  obtain ⟨hA, hqt⟩ := h
  obtain ⟨T, ds⟩ := A
  obtain ⟨hsz, hds, h_34⟩ := hA
  obtain rfl : ds = [] := hds
  try clear hds
  replace hsz : T.size = 49 := hsz
  revert h_34
  revert hsz
  revert T
  refine arr49 ?_
  intro e0 e1 e2 e3 e4 e5 e6 e7 e8 e9 e10 e11 e12 e13 e14 e15 e16 e17 e18 e19 e20 e21 e22 e23 e24 e25 e26 e27 e28 e29 e30 e31 e32 e33 e34 e35 e36 e37 e38 e39 e40 e41 e42 e43 e44 e45 e46 e47 e48 h_34
  have h_34 : e34 = .slice a4 m4 c4 := h_34
  subst h_34
  subst hqt
  refine Gw.seg CC RR (f := 16) (N := fun _ _ => False) (Rt := fun a' _ => a'.tmps.getD 6 undef = .bool true) rfl (kn_nil rfl) rfl (by kernel_rfl) (fun _ _ _ _ h => h) (fun _ _ _ _ h => h) (fun t d => ?_) (fun _ _ _ h => h.elim) fun A u7 todo hd hg h => leave hd h
  · generalize World.re u6 t d = v
    simp only [bVer, cl, cr, ct, co, Try.f16, Option.getD_some]
    go_wp2_with fail
    exact ⟨rfl, Ext.refl _ _⟩
end Go.Proofs.Ytnifgfnhcjhodaa
