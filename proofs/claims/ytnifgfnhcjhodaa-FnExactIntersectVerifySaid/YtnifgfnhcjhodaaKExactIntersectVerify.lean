/- The walk of laws.FnExactIntersectVerify. Condition: the arguments are what their types say. -/
import Derived.Test.YtnifgfnhcjhodaaQC
import Derived.Test.YtnifgfnhcjhodaaX3
import Derived.Test.YtnifgfnhcjhodaaXR
set_option linter.unusedVariables false
set_option linter.unusedSimpArgs false
namespace Go.Proofs.Ytnifgfnhcjhodaa
open Go.Conc Go.RowKit

noncomputable def bXV : Code := Try.f5.body.getD .skip
noncomputable def rXV14 : Array Oper := co (cl (ct 11 bXV))
set_option maxRecDepth 10000 in
theorem arr61 {motive : Array Value → Prop} (k : ∀ e0 e1 e2 e3 e4 e5 e6 e7 e8 e9 e10 e11 e12 e13 e14 e15 e16 e17 e18 e19 e20 e21 e22 e23 e24 e25 e26 e27 e28 e29 e30 e31 e32 e33 e34 e35 e36 e37 e38 e39 e40 e41 e42 e43 e44 e45 e46 e47 e48 e49 e50 e51 e52 e53 e54 e55 e56 e57 e58 e59 e60 : Value, motive #[e0, e1, e2, e3, e4, e5, e6, e7, e8, e9, e10, e11, e12, e13, e14, e15, e16, e17, e18, e19, e20, e21, e22, e23, e24, e25, e26, e27, e28, e29, e30, e31, e32, e33, e34, e35, e36, e37, e38, e39, e40, e41, e42, e43, e44, e45, e46, e47, e48, e49, e50, e51, e52, e53, e54, e55, e56, e57, e58, e59, e60]) : ∀ T : Array Value, T.size = 61 → motive T := by
  intro T h
  obtain ⟨l⟩ := T
  have h : l.length = 61 := h
  obtain ⟨e0, l0, rfl, h0⟩ := lcons h
  obtain ⟨e1, l1, rfl, h1⟩ := lcons h0
  obtain ⟨e2, l2, rfl, h2⟩ := lcons h1
  obtain ⟨e3, l3, rfl, h3⟩ := lcons h2
  obtain ⟨e4, l4, rfl, h4⟩ := lcons h3
  obtain ⟨e5, l5, rfl, h5⟩ := lcons h4
  obtain ⟨e6, l6, rfl, h6⟩ := lcons h5
  obtain ⟨e7, l7, rfl, h7⟩ := lcons h6
  obtain ⟨e8, l8, rfl, h8⟩ := lcons h7
  obtain ⟨e9, l9, rfl, h9⟩ := lcons h8
  obtain ⟨e10, l10, rfl, h10⟩ := lcons h9
  obtain ⟨e11, l11, rfl, h11⟩ := lcons h10
  obtain ⟨e12, l12, rfl, h12⟩ := lcons h11
  obtain ⟨e13, l13, rfl, h13⟩ := lcons h12
  obtain ⟨e14, l14, rfl, h14⟩ := lcons h13
  obtain ⟨e15, l15, rfl, h15⟩ := lcons h14
  obtain ⟨e16, l16, rfl, h16⟩ := lcons h15
  obtain ⟨e17, l17, rfl, h17⟩ := lcons h16
  obtain ⟨e18, l18, rfl, h18⟩ := lcons h17
  obtain ⟨e19, l19, rfl, h19⟩ := lcons h18
  obtain ⟨e20, l20, rfl, h20⟩ := lcons h19
  obtain ⟨e21, l21, rfl, h21⟩ := lcons h20
  obtain ⟨e22, l22, rfl, h22⟩ := lcons h21
  obtain ⟨e23, l23, rfl, h23⟩ := lcons h22
  obtain ⟨e24, l24, rfl, h24⟩ := lcons h23
  obtain ⟨e25, l25, rfl, h25⟩ := lcons h24
  obtain ⟨e26, l26, rfl, h26⟩ := lcons h25
  obtain ⟨e27, l27, rfl, h27⟩ := lcons h26
  obtain ⟨e28, l28, rfl, h28⟩ := lcons h27
  obtain ⟨e29, l29, rfl, h29⟩ := lcons h28
  obtain ⟨e30, l30, rfl, h30⟩ := lcons h29
  obtain ⟨e31, l31, rfl, h31⟩ := lcons h30
  obtain ⟨e32, l32, rfl, h32⟩ := lcons h31
  obtain ⟨e33, l33, rfl, h33⟩ := lcons h32
  obtain ⟨e34, l34, rfl, h34⟩ := lcons h33
  obtain ⟨e35, l35, rfl, h35⟩ := lcons h34
  obtain ⟨e36, l36, rfl, h36⟩ := lcons h35
  obtain ⟨e37, l37, rfl, h37⟩ := lcons h36
  obtain ⟨e38, l38, rfl, h38⟩ := lcons h37
  obtain ⟨e39, l39, rfl, h39⟩ := lcons h38
  obtain ⟨e40, l40, rfl, h40⟩ := lcons h39
  obtain ⟨e41, l41, rfl, h41⟩ := lcons h40
  obtain ⟨e42, l42, rfl, h42⟩ := lcons h41
  obtain ⟨e43, l43, rfl, h43⟩ := lcons h42
  obtain ⟨e44, l44, rfl, h44⟩ := lcons h43
  obtain ⟨e45, l45, rfl, h45⟩ := lcons h44
  obtain ⟨e46, l46, rfl, h46⟩ := lcons h45
  obtain ⟨e47, l47, rfl, h47⟩ := lcons h46
  obtain ⟨e48, l48, rfl, h48⟩ := lcons h47
  obtain ⟨e49, l49, rfl, h49⟩ := lcons h48
  obtain ⟨e50, l50, rfl, h50⟩ := lcons h49
  obtain ⟨e51, l51, rfl, h51⟩ := lcons h50
  obtain ⟨e52, l52, rfl, h52⟩ := lcons h51
  obtain ⟨e53, l53, rfl, h53⟩ := lcons h52
  obtain ⟨e54, l54, rfl, h54⟩ := lcons h53
  obtain ⟨e55, l55, rfl, h55⟩ := lcons h54
  obtain ⟨e56, l56, rfl, h56⟩ := lcons h55
  obtain ⟨e57, l57, rfl, h57⟩ := lcons h56
  obtain ⟨e58, l58, rfl, h58⟩ := lcons h57
  obtain ⟨e59, l59, rfl, h59⟩ := lcons h58
  obtain ⟨e60, l60, rfl, h60⟩ := lcons h59
  obtain rfl := List.length_eq_zero_iff.1 h60
  exact k e0 e1 e2 e3 e4 e5 e6 e7 e8 e9 e10 e11 e12 e13 e14 e15 e16 e17 e18 e19 e20 e21 e22 e23 e24 e25 e26 e27 e28 e29 e30 e31 e32 e33 e34 e35 e36 e37 e38 e39 e40 e41 e42 e43 e44 e45 e46 e47 e48 e49 e50 e51 e52 e53 e54 e55 e56 e57 e58 e59 e60

def B20 (n : Nat) : Prop := n ≤ 1048576
theorem eqIntS_is {a : Option Addr} {n c : Nat} {xs : List Int} {b : Option Addr} {m d : Nat} {ys : List Int} {w : World} {q : Bool} (hx : Ints w a n xs) (hy : Ints w b m ys) (hq : same xs ys = q) :
    Calls Try.prog 22 #[.slice a n c, .slice b m d] w fun e w' => e = .returned (.bool q) ∧ Dr w w' := by
  rw [← hq]; exact eqIntS_any hx hy
theorem nmVer : (Try.f16.name == "runtime.NumGoroutine") = false := by kernel_rfl
set_option maxRecDepth 20000 in
set_option maxHeartbeats 4000000 in
theorem FnExactIntersectVerify_g {a0 : Option Addr} {n0 c0 : Nat} {f0 : List (List Int)} {a1 : Option Addr} {n1 c1 : Nat} {f1 : List (List Int)} {a2 : Option Addr} {n2 c2 : Nat} {f2 : List Int} {u : World} (hf0 : FamV u a0 n0 c0 f0) (hf1 : FamV u a1 n1 c1 f1) (hf2 : Ints u a2 n2 f2) :
    GLaw Try.prog 5 #[.slice a0 n0 c0, .slice a1 n1 c1, .slice a2 n2 c2] u := by
  have h0 := hf0.1
  have h1 := hf1.1
  have h2 := hf2
  have hm2 := hf2.max
  clear hf0 hf1 hf2
  obtain ⟨q, hq⟩ : ∃ q, verL f0 f1 f2 = q := ⟨_, rfl⟩
  refine GLaw.of (cd := bXV) Try.func5 rfl ?_
  have leave : ∀ {X : Nat → Prop} {u1 : World} {a' : Act} {todo : List Item}, a'.defers = [] → a'.tmps.getD 6 undef = .bool true → Gw Try.prog (fun _ => False) u (QEnd Try.prog 5 u) X u1 (G { (base 5).at a' todo with mode := .returning } []) := fun hd h2 =>
    Gw.fin Try.func5 hd (by rw [← h2]; simp [results, Try.f5])
  refine Gw.ctl rfl (fun w => stepG_seq (x := cl (ct 0 bXV)) (y := (ct 1 bXV))) ?_
  refine Gw.seg CC RR (f := 5) (N := fun a' u' => (a'.tmps.size = 61 ∧ a'.defers = [] ∧ a'.tmps.getD 0 undef = .slice a0 n0 c0 ∧ a'.tmps.getD 1 undef = .slice a1 n1 c1 ∧ a'.tmps.getD 2 undef = .slice a2 n2 c2)) (Rt := fun a' u' => False) rfl (kn_nil rfl) rfl (by kernel_rfl) (fun _ _ _ _ h => h) (fun _ _ _ _ h => h) (fun t d => ?_) (fun A u1 hg h => ?_) fun _ _ _ _ _ h => h.elim
  · generalize World.re u t d = v
    simp only [bXV, cl, cr, ct, co, Try.f5, Option.getD_some, List.size_toArray, List.length_cons, List.length_nil, Nat.reduceAdd, Nat.reduceSub, Array.replicate_succ, Array.replicate_zero, List.push_toArray, List.append_toArray, List.nil_append, List.cons_append]
    go_wp2_with fail
    exact ⟨⟨rfl, rfl, rfl, rfl, rfl⟩, Ext.refl _ _⟩
  have hA := h
  clear h
  obtain ⟨T, ds⟩ := A
  obtain ⟨hsz, hds, h_0, h_1, h_2⟩ := hA
  obtain rfl : ds = [] := hds
  try clear hds
  replace hsz : T.size = 61 := hsz
  revert h_0 h_1 h_2
  revert hsz
  revert T
  refine arr61 ?_
  intro e0 e1 e2 e3 e4 e5 e6 e7 e8 e9 e10 e11 e12 e13 e14 e15 e16 e17 e18 e19 e20 e21 e22 e23 e24 e25 e26 e27 e28 e29 e30 e31 e32 e33 e34 e35 e36 e37 e38 e39 e40 e41 e42 e43 e44 e45 e46 e47 e48 e49 e50 e51 e52 e53 e54 e55 e56 e57 e58 e59 e60 h_0 h_1 h_2
  have h_0 : e0 = .slice a0 n0 c0 := h_0
  subst h_0
  have h_1 : e1 = .slice a1 n1 c1 := h_1
  subst h_1
  have h_2 : e2 = .slice a2 n2 c2 := h_2
  subst h_2
  replace h0 : Fam u1 a0 n0 f0 := hg.fam h0
  replace h1 : Fam u1 a1 n1 f1 := hg.fam h1
  replace h2 : Ints u1 a2 n2 f2 := hg.ints h2
  clear hg
  refine Gw.ctl rfl (fun w => stepG_seq (x := cl (ct 1 bXV)) (y := (ct 2 bXV))) ?_
  refine Gw.seg CC RR (f := 5) (N := fun a' u' => (a'.tmps.size = 61 ∧ a'.defers = [] ∧ a'.tmps.getD 0 undef = .slice a0 n0 c0 ∧ a'.tmps.getD 1 undef = .slice a1 n1 c1 ∧ a'.tmps.getD 2 undef = .slice a2 n2 c2) ∧ B20 n2) (Rt := fun a' u' => a'.tmps.getD 6 undef = .bool true) rfl (kn_nil rfl) rfl (by kernel_rfl) (fun _ _ _ _ h => h) (fun _ _ _ _ h => h) (fun t d => ?_) (fun A u2 hg h => ?_) (fun A u2 todo hd hg h => ?_)
  · generalize World.re u1 t d = v
    simp only [bXV, cl, cr, ct, co, Try.f5, Option.getD_some]
    rcases Nat.lt_or_ge 1048576 n2 with hl | hl
    · have hlI : (1048576 : Int) < (n2 : Int) := by omega
      go_wp2_with fail
      exact ⟨rfl, Ext.refl _ _⟩
    · have hlI : ¬ (1048576 : Int) < (n2 : Int) := by omega
      go_wp2_with fail
      exact ⟨⟨⟨rfl, rfl, rfl, rfl, rfl⟩, (show n2 ≤ 1048576 by omega)⟩, Ext.refl _ _⟩
  rotate_left
  · exact leave hd h
  obtain ⟨hA, hn2h⟩ := h
  obtain ⟨T, ds⟩ := A
  obtain ⟨hsz, hds, h_0, h_1, h_2⟩ := hA
  obtain rfl : ds = [] := hds
  try clear hds
  replace hsz : T.size = 61 := hsz
  revert h_0 h_1 h_2
  revert hsz
  revert T
  refine arr61 ?_
  intro e0 e1 e2 e3 e4 e5 e6 e7 e8 e9 e10 e11 e12 e13 e14 e15 e16 e17 e18 e19 e20 e21 e22 e23 e24 e25 e26 e27 e28 e29 e30 e31 e32 e33 e34 e35 e36 e37 e38 e39 e40 e41 e42 e43 e44 e45 e46 e47 e48 e49 e50 e51 e52 e53 e54 e55 e56 e57 e58 e59 e60 h_0 h_1 h_2
  have h_0 : e0 = .slice a0 n0 c0 := h_0
  subst h_0
  have h_1 : e1 = .slice a1 n1 c1 := h_1
  subst h_1
  have h_2 : e2 = .slice a2 n2 c2 := h_2
  subst h_2
  replace h0 : Fam u2 a0 n0 f0 := hg.fam h0
  replace h1 : Fam u2 a1 n1 f1 := hg.fam h1
  replace h2 : Ints u2 a2 n2 f2 := hg.ints h2
  clear hg
  have hn2 : n2 ≤ 1048576 := hn2h
  clear hn2h
  refine Gw.ctl rfl (fun w => stepG_seq (x := cl (ct 2 bXV)) (y := (ct 3 bXV))) ?_
  refine Gw.seg CC RR (f := 5) (N := fun a' u' => (a'.tmps.size = 61 ∧ a'.defers = [] ∧ a'.tmps.getD 0 undef = .slice a0 n0 c0 ∧ a'.tmps.getD 1 undef = .slice a1 n1 c1 ∧ a'.tmps.getD 2 undef = .slice a2 n2 c2 ∧ a'.tmps.getD 7 undef = .int .i64 1048576)) (Rt := fun a' u' => False) rfl (kn_nil rfl) rfl (by kernel_rfl) (fun _ _ _ _ h => h) (fun _ _ _ _ h => h) (fun t d => ?_) (fun A u3 hg h => ?_) fun _ _ _ _ _ h => h.elim
  · generalize World.re u2 t d = v
    simp only [bXV, cl, cr, ct, co, Try.f5, Option.getD_some]
    go_wp2_with fail
    exact ⟨⟨rfl, rfl, rfl, rfl, rfl, rfl⟩, Ext.refl _ _⟩
  have hA := h
  clear h
  obtain ⟨T, ds⟩ := A
  obtain ⟨hsz, hds, h_0, h_1, h_2, h_7⟩ := hA
  obtain rfl : ds = [] := hds
  try clear hds
  replace hsz : T.size = 61 := hsz
  revert h_0 h_1 h_2 h_7
  revert hsz
  revert T
  refine arr61 ?_
  intro e0 e1 e2 e3 e4 e5 e6 e7 e8 e9 e10 e11 e12 e13 e14 e15 e16 e17 e18 e19 e20 e21 e22 e23 e24 e25 e26 e27 e28 e29 e30 e31 e32 e33 e34 e35 e36 e37 e38 e39 e40 e41 e42 e43 e44 e45 e46 e47 e48 e49 e50 e51 e52 e53 e54 e55 e56 e57 e58 e59 e60 h_0 h_1 h_2 h_7
  have h_0 : e0 = .slice a0 n0 c0 := h_0
  subst h_0
  have h_1 : e1 = .slice a1 n1 c1 := h_1
  subst h_1
  have h_2 : e2 = .slice a2 n2 c2 := h_2
  subst h_2
  have h_7 : e7 = .int .i64 1048576 := h_7
  subst h_7
  replace h0 : Fam u3 a0 n0 f0 := hg.fam h0
  replace h1 : Fam u3 a1 n1 f1 := hg.fam h1
  replace h2 : Ints u3 a2 n2 f2 := hg.ints h2
  clear hg
  refine Gw.ctl rfl (fun w => stepG_seq (x := cl (ct 3 bXV)) (y := (ct 4 bXV))) ?_
  refine Gw.seg CC RR (f := 5) (N := fun a' u' => ∃ r, (a'.tmps.size = 61 ∧ a'.defers = [] ∧ a'.tmps.getD 0 undef = .slice a0 n0 c0 ∧ a'.tmps.getD 1 undef = .slice a1 n1 c1 ∧ a'.tmps.getD 2 undef = .slice a2 n2 c2 ∧ a'.tmps.getD 7 undef = .int .i64 r) ∧ ((∃ k : Nat, r = (k : Int) ∧ k ≤ 1048576 ∧ tot f0 ≤ 1048576) ∨ r = -1)) (Rt := fun a' u' => False) rfl (kn_nil rfl) rfl (by kernel_rfl) (fun _ _ _ _ h => h) (fun _ _ _ _ h => h) (fun t d => ?_) (fun A u4 hg h => ?_) fun _ _ _ _ _ h => h.elim
  · have H0 : Fam (World.re u3 t d) a0 n0 f0 := h0
    generalize World.re u3 t d = v at H0
    simp only [bXV, cl, cr, ct, co, Try.f5, Option.getD_some]
    go_wp2_with fail
    refine (szIntSS_any (left := 1048576) H0 (by omega)).mono ?_; rintro e w_ ⟨⟨ht0, rfl⟩ | ⟨ht0, rfl⟩, rfl⟩
    · go_wp2_with fail
      exact ⟨⟨_, ⟨rfl, rfl, rfl, rfl, rfl, rfl⟩, .inl ⟨1048576 - tot f0, rfl, by omega, ht0⟩⟩, Ext.refl _ _⟩
    · go_wp2_with fail
      exact ⟨⟨_, ⟨rfl, rfl, rfl, rfl, rfl, rfl⟩, .inr rfl⟩, Ext.refl _ _⟩
  obtain ⟨r, hA, hr⟩ := h
  obtain ⟨T, ds⟩ := A
  obtain ⟨hsz, hds, h_0, h_1, h_2, h_7⟩ := hA
  obtain rfl : ds = [] := hds
  try clear hds
  replace hsz : T.size = 61 := hsz
  revert h_0 h_1 h_2 h_7
  revert hsz
  revert T
  refine arr61 ?_
  intro e0 e1 e2 e3 e4 e5 e6 e7 e8 e9 e10 e11 e12 e13 e14 e15 e16 e17 e18 e19 e20 e21 e22 e23 e24 e25 e26 e27 e28 e29 e30 e31 e32 e33 e34 e35 e36 e37 e38 e39 e40 e41 e42 e43 e44 e45 e46 e47 e48 e49 e50 e51 e52 e53 e54 e55 e56 e57 e58 e59 e60 h_0 h_1 h_2 h_7
  have h_0 : e0 = .slice a0 n0 c0 := h_0
  subst h_0
  have h_1 : e1 = .slice a1 n1 c1 := h_1
  subst h_1
  have h_2 : e2 = .slice a2 n2 c2 := h_2
  subst h_2
  have h_7 : e7 = .int .i64 r := h_7
  subst h_7
  replace h0 : Fam u4 a0 n0 f0 := hg.fam h0
  replace h1 : Fam u4 a1 n1 f1 := hg.fam h1
  replace h2 : Ints u4 a2 n2 f2 := hg.ints h2
  clear hg
  refine Gw.ctl rfl (fun w => stepG_seq (x := cl (ct 4 bXV)) (y := (ct 5 bXV))) ?_
  refine Gw.seg CC RR (f := 5) (N := fun a' u' => ∃ r0, (a'.tmps.size = 61 ∧ a'.defers = [] ∧ a'.tmps.getD 0 undef = .slice a0 n0 c0 ∧ a'.tmps.getD 1 undef = .slice a1 n1 c1 ∧ a'.tmps.getD 2 undef = .slice a2 n2 c2 ∧ a'.tmps.getD 7 undef = .int .i64 (r0 : Nat)) ∧ B20 r0 ∧ B20 (tot f0)) (Rt := fun a' u' => a'.tmps.getD 6 undef = .bool true) rfl (kn_nil rfl) rfl (by kernel_rfl) (fun _ _ _ _ h => h) (fun _ _ _ _ h => h) (fun t d => ?_) (fun A u5 hg h => ?_) (fun A u5 todo hd hg h => ?_)
  · generalize World.re u4 t d = v
    simp only [bXV, cl, cr, ct, co, Try.f5, Option.getD_some]
    rcases hr with ⟨k, rfl, hk, ht⟩ | rfl
    · have hk0 : ¬ (k : Int) < 0 := by omega
      go_wp2_with fail
      exact ⟨⟨k, ⟨rfl, rfl, rfl, rfl, rfl, rfl⟩, hk, ht⟩, Ext.refl _ _⟩
    · go_wp2_with fail
      exact ⟨rfl, Ext.refl _ _⟩
  rotate_left
  · exact leave hd h
  obtain ⟨r0, hA, hr0h, ht0h⟩ := h
  obtain ⟨T, ds⟩ := A
  obtain ⟨hsz, hds, h_0, h_1, h_2, h_7⟩ := hA
  obtain rfl : ds = [] := hds
  try clear hds
  replace hsz : T.size = 61 := hsz
  revert h_0 h_1 h_2 h_7
  revert hsz
  revert T
  refine arr61 ?_
  intro e0 e1 e2 e3 e4 e5 e6 e7 e8 e9 e10 e11 e12 e13 e14 e15 e16 e17 e18 e19 e20 e21 e22 e23 e24 e25 e26 e27 e28 e29 e30 e31 e32 e33 e34 e35 e36 e37 e38 e39 e40 e41 e42 e43 e44 e45 e46 e47 e48 e49 e50 e51 e52 e53 e54 e55 e56 e57 e58 e59 e60 h_0 h_1 h_2 h_7
  have h_0 : e0 = .slice a0 n0 c0 := h_0
  subst h_0
  have h_1 : e1 = .slice a1 n1 c1 := h_1
  subst h_1
  have h_2 : e2 = .slice a2 n2 c2 := h_2
  subst h_2
  have h_7 : e7 = .int .i64 (r0 : Nat) := h_7
  subst h_7
  replace h0 : Fam u5 a0 n0 f0 := hg.fam h0
  replace h1 : Fam u5 a1 n1 f1 := hg.fam h1
  replace h2 : Ints u5 a2 n2 f2 := hg.ints h2
  clear hg
  have hr0 : r0 ≤ 1048576 := hr0h
  have ht0 : tot f0 ≤ 1048576 := ht0h
  clear hr0h ht0h
  clear hr
  refine Gw.ctl rfl (fun w => stepG_seq (x := cl (ct 5 bXV)) (y := (ct 6 bXV))) ?_
  refine Gw.seg CC RR (f := 5) (N := fun a' u' => ∃ r, (a'.tmps.size = 61 ∧ a'.defers = [] ∧ a'.tmps.getD 0 undef = .slice a0 n0 c0 ∧ a'.tmps.getD 1 undef = .slice a1 n1 c1 ∧ a'.tmps.getD 2 undef = .slice a2 n2 c2 ∧ a'.tmps.getD 7 undef = .int .i64 r) ∧ ((∃ k : Nat, r = (k : Int) ∧ k ≤ 1048576 ∧ tot f1 ≤ 1048576) ∨ r = -1)) (Rt := fun a' u' => False) rfl (kn_nil rfl) rfl (by kernel_rfl) (fun _ _ _ _ h => h) (fun _ _ _ _ h => h) (fun t d => ?_) (fun A u6 hg h => ?_) fun _ _ _ _ _ h => h.elim
  · have H1 : Fam (World.re u5 t d) a1 n1 f1 := h1
    generalize World.re u5 t d = v at H1
    simp only [bXV, cl, cr, ct, co, Try.f5, Option.getD_some]
    go_wp2_with fail
    refine (szIntSS_any (left := r0) H1 (by omega)).mono ?_; rintro e w_ ⟨⟨ht1, rfl⟩ | ⟨ht1, rfl⟩, rfl⟩
    · go_wp2_with fail
      exact ⟨⟨_, ⟨rfl, rfl, rfl, rfl, rfl, rfl⟩, .inl ⟨r0 - tot f1, rfl, by omega, by omega⟩⟩, Ext.refl _ _⟩
    · go_wp2_with fail
      exact ⟨⟨_, ⟨rfl, rfl, rfl, rfl, rfl, rfl⟩, .inr rfl⟩, Ext.refl _ _⟩
  obtain ⟨r, hA, hr⟩ := h
  obtain ⟨T, ds⟩ := A
  obtain ⟨hsz, hds, h_0, h_1, h_2, h_7⟩ := hA
  obtain rfl : ds = [] := hds
  try clear hds
  replace hsz : T.size = 61 := hsz
  revert h_0 h_1 h_2 h_7
  revert hsz
  revert T
  refine arr61 ?_
  intro e0 e1 e2 e3 e4 e5 e6 e7 e8 e9 e10 e11 e12 e13 e14 e15 e16 e17 e18 e19 e20 e21 e22 e23 e24 e25 e26 e27 e28 e29 e30 e31 e32 e33 e34 e35 e36 e37 e38 e39 e40 e41 e42 e43 e44 e45 e46 e47 e48 e49 e50 e51 e52 e53 e54 e55 e56 e57 e58 e59 e60 h_0 h_1 h_2 h_7
  have h_0 : e0 = .slice a0 n0 c0 := h_0
  subst h_0
  have h_1 : e1 = .slice a1 n1 c1 := h_1
  subst h_1
  have h_2 : e2 = .slice a2 n2 c2 := h_2
  subst h_2
  have h_7 : e7 = .int .i64 r := h_7
  subst h_7
  replace h0 : Fam u6 a0 n0 f0 := hg.fam h0
  replace h1 : Fam u6 a1 n1 f1 := hg.fam h1
  replace h2 : Ints u6 a2 n2 f2 := hg.ints h2
  clear hg
  refine Gw.ctl rfl (fun w => stepG_seq (x := cl (ct 6 bXV)) (y := (ct 7 bXV))) ?_
  refine Gw.seg CC RR (f := 5) (N := fun a' u' => (a'.tmps.size = 61 ∧ a'.defers = [] ∧ a'.tmps.getD 0 undef = .slice a0 n0 c0 ∧ a'.tmps.getD 1 undef = .slice a1 n1 c1 ∧ a'.tmps.getD 2 undef = .slice a2 n2 c2) ∧ B20 (tot f1)) (Rt := fun a' u' => a'.tmps.getD 6 undef = .bool true) rfl (kn_nil rfl) rfl (by kernel_rfl) (fun _ _ _ _ h => h) (fun _ _ _ _ h => h) (fun t d => ?_) (fun A u7 hg h => ?_) (fun A u7 todo hd hg h => ?_)
  · generalize World.re u6 t d = v
    simp only [bXV, cl, cr, ct, co, Try.f5, Option.getD_some]
    rcases hr with ⟨k, rfl, hk, ht⟩ | rfl
    · have hk0 : ¬ (k : Int) < 0 := by omega
      go_wp2_with fail
      exact ⟨⟨⟨rfl, rfl, rfl, rfl, rfl⟩, ht⟩, Ext.refl _ _⟩
    · go_wp2_with fail
      exact ⟨rfl, Ext.refl _ _⟩
  rotate_left
  · exact leave hd h
  obtain ⟨hA, ht1h⟩ := h
  obtain ⟨T, ds⟩ := A
  obtain ⟨hsz, hds, h_0, h_1, h_2⟩ := hA
  obtain rfl : ds = [] := hds
  try clear hds
  replace hsz : T.size = 61 := hsz
  revert h_0 h_1 h_2
  revert hsz
  revert T
  refine arr61 ?_
  intro e0 e1 e2 e3 e4 e5 e6 e7 e8 e9 e10 e11 e12 e13 e14 e15 e16 e17 e18 e19 e20 e21 e22 e23 e24 e25 e26 e27 e28 e29 e30 e31 e32 e33 e34 e35 e36 e37 e38 e39 e40 e41 e42 e43 e44 e45 e46 e47 e48 e49 e50 e51 e52 e53 e54 e55 e56 e57 e58 e59 e60 h_0 h_1 h_2
  have h_0 : e0 = .slice a0 n0 c0 := h_0
  subst h_0
  have h_1 : e1 = .slice a1 n1 c1 := h_1
  subst h_1
  have h_2 : e2 = .slice a2 n2 c2 := h_2
  subst h_2
  replace h0 : Fam u7 a0 n0 f0 := hg.fam h0
  replace h1 : Fam u7 a1 n1 f1 := hg.fam h1
  replace h2 : Ints u7 a2 n2 f2 := hg.ints h2
  clear hg
  have ht1 : tot f1 ≤ 1048576 := ht1h
  clear ht1h
  clear hr
  refine Gw.ctl rfl (fun w => stepG_seq (x := cl (ct 7 bXV)) (y := (ct 8 bXV))) ?_
  refine Gw.seg CC RR (f := 5) (N := fun a' u' => (a'.tmps.size = 61 ∧ a'.defers = [] ∧ a'.tmps.getD 0 undef = .slice a0 n0 c0 ∧ a'.tmps.getD 1 undef = .slice a1 n1 c1 ∧ a'.tmps.getD 2 undef = .slice a2 n2 c2 ∧ a'.tmps.getD 8 undef = .bool q)) (Rt := fun a' u' => False) rfl (kn_nil rfl) rfl (by kernel_rfl) (fun _ _ _ _ h => h) (fun _ _ _ _ h => h) (fun t d => ?_) (fun A u8 hg h => ?_) fun _ _ _ _ _ h => h.elim
  · have H0 : Fam (World.re u7 t d) a0 n0 f0 := h0
    have H1 : Fam (World.re u7 t d) a1 n1 f1 := h1
    have H2 : Ints (World.re u7 t d) a2 n2 f2 := h2
    generalize World.re u7 t d = v at H0 H1 H2
    simp only [bXV, cl, cr, ct, co, Try.f5, Option.getD_some]
    have HQ := Lib.hid hq
    have HT0 := Lib.hid ht0
    have HT1 := Lib.hid ht1
    clear hq ht0 ht1 h0 h1 h2
    go_wp2_with fail
    refine (toIntSS_any H0 HT0.out).mono ?_; rintro e w1 ⟨b1, k1, d1, rfl, o1, e1⟩
    go_wp2_with fail
    refine (toIntSS_any (H1.ext e1) HT1.out).mono ?_; rintro e w2 ⟨b2, k2, d2, rfl, o2, e2⟩
    go_wp2_with fail
    refine (toIntS_any ((H2.ext e1).ext e2) hn2).mono ?_; rintro e w3 ⟨b3, k3, d3, rfl, o3, e3⟩
    have HE := Lib.hid ((e1.trans e2).trans e3)
    have F1 := Lib.hid ((o1.ext0 e2).ext0 e3).ownF.fam
    have F2 := Lib.hid (o2.ext0 e3).ownF.fam
    have F3 := Lib.hid o3.ints
    clear o1 o2 o3 e1 e2 e3
    go_wp2_with fail
    refine (sIntersectVerify_is F1.out F2.out F3.out HQ.out).mono ?_; rintro e w4 ⟨rfl, e4⟩
    go_wp2_with fail
    exact ⟨⟨rfl, rfl, rfl, rfl, rfl, rfl⟩, HE.out.trans e4⟩
  have hA := h
  clear h
  obtain ⟨T, ds⟩ := A
  obtain ⟨hsz, hds, h_0, h_1, h_2, h_8⟩ := hA
  obtain rfl : ds = [] := hds
  try clear hds
  replace hsz : T.size = 61 := hsz
  revert h_0 h_1 h_2 h_8
  revert hsz
  revert T
  refine arr61 ?_
  intro e0 e1 e2 e3 e4 e5 e6 e7 e8 e9 e10 e11 e12 e13 e14 e15 e16 e17 e18 e19 e20 e21 e22 e23 e24 e25 e26 e27 e28 e29 e30 e31 e32 e33 e34 e35 e36 e37 e38 e39 e40 e41 e42 e43 e44 e45 e46 e47 e48 e49 e50 e51 e52 e53 e54 e55 e56 e57 e58 e59 e60 h_0 h_1 h_2 h_8
  have h_0 : e0 = .slice a0 n0 c0 := h_0
  subst h_0
  have h_1 : e1 = .slice a1 n1 c1 := h_1
  subst h_1
  have h_2 : e2 = .slice a2 n2 c2 := h_2
  subst h_2
  have h_8 : e8 = .bool q := h_8
  subst h_8
  replace h0 : Fam u8 a0 n0 f0 := hg.fam h0
  replace h1 : Fam u8 a1 n1 f1 := hg.fam h1
  replace h2 : Ints u8 a2 n2 f2 := hg.ints h2
  clear hg
  refine Gw.ctl rfl (fun w => stepG_seq (x := cl (ct 8 bXV)) (y := (ct 9 bXV))) ?_
  refine Gw.seg CC RR (f := 5) (N := fun a' u' => ∃ b9 k9 d9, (a'.tmps.size = 61 ∧ a'.defers = [] ∧ a'.tmps.getD 0 undef = .slice a0 n0 c0 ∧ a'.tmps.getD 1 undef = .slice a1 n1 c1 ∧ a'.tmps.getD 2 undef = .slice a2 n2 c2 ∧ a'.tmps.getD 8 undef = .bool q ∧ a'.tmps.getD 9 undef = .slice b9 k9 d9) ∧ Fam u' b9 k9 f0) (Rt := fun a' u' => False) rfl (kn_nil rfl) rfl (by kernel_rfl) (fun _ _ _ _ h => h) (fun _ _ _ _ h => h) (fun t d => ?_) (fun A u9 hg h => ?_) fun _ _ _ _ _ h => h.elim
  · have H0 : Fam (World.re u8 t d) a0 n0 f0 := h0
    generalize World.re u8 t d = v at H0
    simp only [bXV, cl, cr, ct, co, Try.f5, Option.getD_some]
    have HT0 := Lib.hid ht0
    clear ht0
    go_wp2_with fail
    refine (toIntSS_any H0 HT0.out).mono ?_; rintro e w1 ⟨b1, k1, d1, rfl, o1, e1⟩
    go_wp2_with fail
    exact ⟨⟨_, _, _, ⟨rfl, rfl, rfl, rfl, rfl, rfl, rfl⟩, o1.ownF.fam⟩, e1⟩
  obtain ⟨b9, k9, d9, hA, x0⟩ := h
  obtain ⟨T, ds⟩ := A
  obtain ⟨hsz, hds, h_0, h_1, h_2, h_8, h_9⟩ := hA
  obtain rfl : ds = [] := hds
  try clear hds
  replace hsz : T.size = 61 := hsz
  revert h_0 h_1 h_2 h_8 h_9
  revert hsz
  revert T
  refine arr61 ?_
  intro e0 e1 e2 e3 e4 e5 e6 e7 e8 e9 e10 e11 e12 e13 e14 e15 e16 e17 e18 e19 e20 e21 e22 e23 e24 e25 e26 e27 e28 e29 e30 e31 e32 e33 e34 e35 e36 e37 e38 e39 e40 e41 e42 e43 e44 e45 e46 e47 e48 e49 e50 e51 e52 e53 e54 e55 e56 e57 e58 e59 e60 h_0 h_1 h_2 h_8 h_9
  have h_0 : e0 = .slice a0 n0 c0 := h_0
  subst h_0
  have h_1 : e1 = .slice a1 n1 c1 := h_1
  subst h_1
  have h_2 : e2 = .slice a2 n2 c2 := h_2
  subst h_2
  have h_8 : e8 = .bool q := h_8
  subst h_8
  have h_9 : e9 = .slice b9 k9 d9 := h_9
  subst h_9
  replace h0 : Fam u9 a0 n0 f0 := hg.fam h0
  replace h1 : Fam u9 a1 n1 f1 := hg.fam h1
  replace h2 : Ints u9 a2 n2 f2 := hg.ints h2
  clear hg
  refine Gw.ctl rfl (fun w => stepG_seq (x := cl (ct 9 bXV)) (y := (ct 10 bXV))) ?_
  refine Gw.seg CC RR (f := 5) (N := fun a' u' => ∃ b10 k10 d10, (a'.tmps.size = 61 ∧ a'.defers = [] ∧ a'.tmps.getD 0 undef = .slice a0 n0 c0 ∧ a'.tmps.getD 1 undef = .slice a1 n1 c1 ∧ a'.tmps.getD 2 undef = .slice a2 n2 c2 ∧ a'.tmps.getD 8 undef = .bool q ∧ a'.tmps.getD 9 undef = .slice b9 k9 d9 ∧ a'.tmps.getD 10 undef = .slice b10 k10 d10) ∧ Fam u' b10 k10 f1) (Rt := fun a' u' => False) rfl (kn_nil rfl) rfl (by kernel_rfl) (fun _ _ _ _ h => h) (fun _ _ _ _ h => h) (fun t d => ?_) (fun A u10 hg h => ?_) fun _ _ _ _ _ h => h.elim
  · have H1 : Fam (World.re u9 t d) a1 n1 f1 := h1
    generalize World.re u9 t d = v at H1
    simp only [bXV, cl, cr, ct, co, Try.f5, Option.getD_some]
    have HT1 := Lib.hid ht1
    clear ht1
    go_wp2_with fail
    refine (toIntSS_any H1 HT1.out).mono ?_; rintro e w1 ⟨b1, k1, d1, rfl, o1, e1⟩
    go_wp2_with fail
    exact ⟨⟨_, _, _, ⟨rfl, rfl, rfl, rfl, rfl, rfl, rfl, rfl⟩, o1.ownF.fam⟩, e1⟩
  obtain ⟨b10, k10, d10, hA, x1⟩ := h
  obtain ⟨T, ds⟩ := A
  obtain ⟨hsz, hds, h_0, h_1, h_2, h_8, h_9, h_10⟩ := hA
  obtain rfl : ds = [] := hds
  try clear hds
  replace hsz : T.size = 61 := hsz
  revert h_0 h_1 h_2 h_8 h_9 h_10
  revert hsz
  revert T
  refine arr61 ?_
  intro e0 e1 e2 e3 e4 e5 e6 e7 e8 e9 e10 e11 e12 e13 e14 e15 e16 e17 e18 e19 e20 e21 e22 e23 e24 e25 e26 e27 e28 e29 e30 e31 e32 e33 e34 e35 e36 e37 e38 e39 e40 e41 e42 e43 e44 e45 e46 e47 e48 e49 e50 e51 e52 e53 e54 e55 e56 e57 e58 e59 e60 h_0 h_1 h_2 h_8 h_9 h_10
  have h_0 : e0 = .slice a0 n0 c0 := h_0
  subst h_0
  have h_1 : e1 = .slice a1 n1 c1 := h_1
  subst h_1
  have h_2 : e2 = .slice a2 n2 c2 := h_2
  subst h_2
  have h_8 : e8 = .bool q := h_8
  subst h_8
  have h_9 : e9 = .slice b9 k9 d9 := h_9
  subst h_9
  have h_10 : e10 = .slice b10 k10 d10 := h_10
  subst h_10
  replace x0 : Fam u10 b9 k9 f0 := hg.fam x0
  replace h0 : Fam u10 a0 n0 f0 := hg.fam h0
  replace h1 : Fam u10 a1 n1 f1 := hg.fam h1
  replace h2 : Ints u10 a2 n2 f2 := hg.ints h2
  clear hg
  refine Gw.ctl rfl (fun w => stepG_seq (x := cl (ct 10 bXV)) (y := (ct 11 bXV))) ?_
  refine Gw.seg CC RR (f := 5) (N := fun a' u' => ∃ b11 k11 d11, (a'.tmps.size = 61 ∧ a'.defers = [] ∧ a'.tmps.getD 0 undef = .slice a0 n0 c0 ∧ a'.tmps.getD 1 undef = .slice a1 n1 c1 ∧ a'.tmps.getD 2 undef = .slice a2 n2 c2 ∧ a'.tmps.getD 8 undef = .bool q ∧ a'.tmps.getD 9 undef = .slice b9 k9 d9 ∧ a'.tmps.getD 10 undef = .slice b10 k10 d10 ∧ a'.tmps.getD 11 undef = .slice b11 k11 d11) ∧ Ints u' b11 k11 f2) (Rt := fun a' u' => False) rfl (kn_nil rfl) rfl (by kernel_rfl) (fun _ _ _ _ h => h) (fun _ _ _ _ h => h) (fun t d => ?_) (fun A u11 hg h => ?_) fun _ _ _ _ _ h => h.elim
  · have H2 : Ints (World.re u10 t d) a2 n2 f2 := h2
    generalize World.re u10 t d = v at H2
    simp only [bXV, cl, cr, ct, co, Try.f5, Option.getD_some]
    go_wp2_with fail
    refine (toIntS_any H2 hn2).mono ?_; rintro e w1 ⟨b1, k1, d1, rfl, o1, e1⟩
    go_wp2_with fail
    exact ⟨⟨_, _, _, ⟨rfl, rfl, rfl, rfl, rfl, rfl, rfl, rfl, rfl⟩, o1.ints⟩, e1⟩
  obtain ⟨b11, k11, d11, hA, x2⟩ := h
  obtain ⟨T, ds⟩ := A
  obtain ⟨hsz, hds, h_0, h_1, h_2, h_8, h_9, h_10, h_11⟩ := hA
  obtain rfl : ds = [] := hds
  try clear hds
  replace hsz : T.size = 61 := hsz
  revert h_0 h_1 h_2 h_8 h_9 h_10 h_11
  revert hsz
  revert T
  refine arr61 ?_
  intro e0 e1 e2 e3 e4 e5 e6 e7 e8 e9 e10 e11 e12 e13 e14 e15 e16 e17 e18 e19 e20 e21 e22 e23 e24 e25 e26 e27 e28 e29 e30 e31 e32 e33 e34 e35 e36 e37 e38 e39 e40 e41 e42 e43 e44 e45 e46 e47 e48 e49 e50 e51 e52 e53 e54 e55 e56 e57 e58 e59 e60 h_0 h_1 h_2 h_8 h_9 h_10 h_11
  have h_0 : e0 = .slice a0 n0 c0 := h_0
  subst h_0
  have h_1 : e1 = .slice a1 n1 c1 := h_1
  subst h_1
  have h_2 : e2 = .slice a2 n2 c2 := h_2
  subst h_2
  have h_8 : e8 = .bool q := h_8
  subst h_8
  have h_9 : e9 = .slice b9 k9 d9 := h_9
  subst h_9
  have h_10 : e10 = .slice b10 k10 d10 := h_10
  subst h_10
  have h_11 : e11 = .slice b11 k11 d11 := h_11
  subst h_11
  replace x0 : Fam u11 b9 k9 f0 := hg.fam x0
  replace x1 : Fam u11 b10 k10 f1 := hg.fam x1
  replace h0 : Fam u11 a0 n0 f0 := hg.fam h0
  replace h1 : Fam u11 a1 n1 f1 := hg.fam h1
  replace h2 : Ints u11 a2 n2 f2 := hg.ints h2
  clear hg
  refine Gw.ctl rfl (fun w => stepG_seq (x := .region 14 rXV14 false) (y := (ct 12 bXV))) ?_
  refine Gw.ctl rfl (fun w => stepG_region) ?_
  rw [show List.range rXV14.size = [0, 1, 2, 3, 4] from rfl]
  refine Gw.mv (oo := rXV14.getD 0 default) rfl (.inl rfl) rfl (bkn _) ?_
  refine Gw.mv (oo := rXV14.getD 1 default) rfl (.inl rfl) rfl (bkn _) ?_
  refine Gw.mv (oo := rXV14.getD 2 default) rfl (.inl rfl) rfl (bkn _) ?_
  refine (?_ : ∀ A : Act, (A.tmps.size = 61 ∧ A.defers = [] ∧ A.tmps.getD 0 undef = .slice a0 n0 c0 ∧ A.tmps.getD 1 undef = .slice a1 n1 c1 ∧ A.tmps.getD 2 undef = .slice a2 n2 c2 ∧ A.tmps.getD 8 undef = .bool q ∧ A.tmps.getD 9 undef = .slice b9 k9 d9 ∧ A.tmps.getD 10 undef = .slice b10 k10 d10 ∧ A.tmps.getD 11 undef = .slice b11 k11 d11 ∧ A.tmps.getD 39 undef = .slice b9 k9 d9 ∧ A.tmps.getD 40 undef = .slice b10 k10 d10 ∧ A.tmps.getD 41 undef = .slice b11 k11 d11) → Gw _ _ _ _ _ _ (G ((base 5).at A _) _)) _ ⟨rfl, rfl, rfl, rfl, rfl, rfl, rfl, rfl, rfl, rfl, rfl, rfl⟩
  intro A hA
  obtain ⟨T, ds⟩ := A
  obtain ⟨hsz, hds, h_0, h_1, h_2, h_8, h_9, h_10, h_11, h_39, h_40, h_41⟩ := hA
  obtain rfl : ds = [] := hds
  try clear hds
  replace hsz : T.size = 61 := hsz
  revert h_0 h_1 h_2 h_8 h_9 h_10 h_11 h_39 h_40 h_41
  revert hsz
  revert T
  refine arr61 ?_
  intro e0 e1 e2 e3 e4 e5 e6 e7 e8 e9 e10 e11 e12 e13 e14 e15 e16 e17 e18 e19 e20 e21 e22 e23 e24 e25 e26 e27 e28 e29 e30 e31 e32 e33 e34 e35 e36 e37 e38 e39 e40 e41 e42 e43 e44 e45 e46 e47 e48 e49 e50 e51 e52 e53 e54 e55 e56 e57 e58 e59 e60 h_0 h_1 h_2 h_8 h_9 h_10 h_11 h_39 h_40 h_41
  have h_0 : e0 = .slice a0 n0 c0 := h_0
  subst h_0
  have h_1 : e1 = .slice a1 n1 c1 := h_1
  subst h_1
  have h_2 : e2 = .slice a2 n2 c2 := h_2
  subst h_2
  have h_8 : e8 = .bool q := h_8
  subst h_8
  have h_9 : e9 = .slice b9 k9 d9 := h_9
  subst h_9
  have h_10 : e10 = .slice b10 k10 d10 := h_10
  subst h_10
  have h_11 : e11 = .slice b11 k11 d11 := h_11
  subst h_11
  have h_39 : e39 = .slice b9 k9 d9 := h_39
  subst h_39
  have h_40 : e40 = .slice b10 k10 d10 := h_40
  subst h_40
  have h_41 : e41 = .slice b11 k11 d11 := h_41
  subst h_41
  refine Gw.gcall (oo := rXV14.getD 3 default) (g := 16) (args := #[.tmp 39, .tmp 40, .tmp 41]) rfl rfl (bkn _) rfl Try.func16 nmVer rfl (vals := #[.slice b9 k9 d9, .slice b10 k10 d10, .slice b11 k11 d11]) (by simp [Act.eval]) (IntersectVerify_g x0 x1 x2) fun X4 v u12 hg hv => ?_
  rw [hq] at hv
  subst hv
  refine Gw.mv (oo := rXV14.getD 4 default) rfl (.inr rfl) rfl (bkn _) ?_
  refine Gw.ctl rfl (fun w => stepG_region_end) ?_
  refine (?_ : ∀ A : Act, (A.tmps.size = 61 ∧ A.defers = [] ∧ A.tmps.getD 0 undef = .slice a0 n0 c0 ∧ A.tmps.getD 1 undef = .slice a1 n1 c1 ∧ A.tmps.getD 2 undef = .slice a2 n2 c2 ∧ A.tmps.getD 8 undef = .bool q ∧ A.tmps.getD 9 undef = .slice b9 k9 d9 ∧ A.tmps.getD 10 undef = .slice b10 k10 d10 ∧ A.tmps.getD 11 undef = .slice b11 k11 d11 ∧ A.tmps.getD 12 undef = .bool q) → Gw _ _ _ _ _ _ (G ((base 5).at A _) _)) _ ⟨rfl, rfl, rfl, rfl, rfl, rfl, rfl, rfl, rfl, rfl⟩
  intro A hA
  obtain ⟨T, ds⟩ := A
  obtain ⟨hsz, hds, h_0, h_1, h_2, h_8, h_9, h_10, h_11, h_12⟩ := hA
  obtain rfl : ds = [] := hds
  try clear hds
  replace hsz : T.size = 61 := hsz
  revert h_0 h_1 h_2 h_8 h_9 h_10 h_11 h_12
  revert hsz
  revert T
  refine arr61 ?_
  intro e0 e1 e2 e3 e4 e5 e6 e7 e8 e9 e10 e11 e12 e13 e14 e15 e16 e17 e18 e19 e20 e21 e22 e23 e24 e25 e26 e27 e28 e29 e30 e31 e32 e33 e34 e35 e36 e37 e38 e39 e40 e41 e42 e43 e44 e45 e46 e47 e48 e49 e50 e51 e52 e53 e54 e55 e56 e57 e58 e59 e60 h_0 h_1 h_2 h_8 h_9 h_10 h_11 h_12
  have h_0 : e0 = .slice a0 n0 c0 := h_0
  subst h_0
  have h_1 : e1 = .slice a1 n1 c1 := h_1
  subst h_1
  have h_2 : e2 = .slice a2 n2 c2 := h_2
  subst h_2
  have h_8 : e8 = .bool q := h_8
  subst h_8
  have h_9 : e9 = .slice b9 k9 d9 := h_9
  subst h_9
  have h_10 : e10 = .slice b10 k10 d10 := h_10
  subst h_10
  have h_11 : e11 = .slice b11 k11 d11 := h_11
  subst h_11
  have h_12 : e12 = .bool q := h_12
  subst h_12
  replace x0 : Fam u12 b9 k9 f0 := hg.fam x0
  replace x1 : Fam u12 b10 k10 f1 := hg.fam x1
  replace x2 : Ints u12 b11 k11 f2 := hg.ints x2
  replace h0 : Fam u12 a0 n0 f0 := hg.fam h0
  replace h1 : Fam u12 a1 n1 f1 := hg.fam h1
  replace h2 : Ints u12 a2 n2 f2 := hg.ints h2
  clear hg
  refine Gw.seg CC RR (f := 5) (N := fun _ _ => False) (Rt := fun a' _ => a'.tmps.getD 6 undef = .bool true) rfl (kn_nil rfl) rfl (by kernel_rfl) (fun _ _ _ _ h => h) (fun _ _ _ _ h => h) (fun t d => ?_) (fun _ _ _ h => h.elim) fun A u13 todo hd hg h => leave hd h
  · have H0 := Lib.hid (show Fam (World.re u12 t d) a0 n0 f0 from h0)
    have H1 := Lib.hid (show Fam (World.re u12 t d) a1 n1 f1 from h1)
    have H2 := Lib.hid (show Ints (World.re u12 t d) a2 n2 f2 from h2)
    have X0 := Lib.hid (show Fam (World.re u12 t d) b9 k9 f0 from x0)
    have X1 := Lib.hid (show Fam (World.re u12 t d) b10 k10 f1 from x1)
    have X2 := Lib.hid (show Ints (World.re u12 t d) b11 k11 f2 from x2)
    have HT0 := Lib.hid ht0
    have HT1 := Lib.hid ht1
    generalize World.re u12 t d = v at H0 H1 H2 X0 X1 X2
    clear hq ht0 ht1 h0 h1 h2 x0 x1 x2 leave
    simp only [bXV, cl, cr, ct, co, Try.f5, Option.getD_some]
    go_wp2_with fail
    refine (toIntSS_any H0.out HT0.out).mono ?_; rintro e w1 ⟨d1, m1, z1, rfl, o1, e1⟩
    go_wp2_with fail
    refine (eqIntSS_is (X0.out.ext e1) o1.ownF.fam (sameF_refl f0)).mono ?_; rintro e w2 ⟨rfl, d2⟩
    have E2 := Lib.hid (e1.trans d2.ext)
    clear o1 e1 d2
    go_wp2_with fail
    refine (toIntSS_any (H1.out.ext E2.out) HT1.out).mono ?_; rintro e w3 ⟨d3, m3, z3, rfl, o3, e3⟩
    go_wp2_with fail
    refine (eqIntSS_is ((X1.out.ext E2.out).ext e3) o3.ownF.fam (sameF_refl f1)).mono ?_; rintro e w4 ⟨rfl, d4⟩
    have E4 := Lib.hid ((E2.out.trans e3).trans d4.ext)
    clear o3 e3 d4
    go_wp2_with fail
    refine (toIntS_any (H2.out.ext E4.out) hn2).mono ?_; rintro e w5 ⟨d5, m5, z5, rfl, o5, e5⟩
    go_wp2_with fail
    refine (eqIntS_is ((X2.out.ext E4.out).ext e5) o5.ints (same_refl f2)).mono ?_; rintro e w6 ⟨rfl, d6⟩
    have E6 := Lib.hid ((E4.out.trans e5).trans d6.ext)
    go_wp2_with fail
    exact ⟨rfl, E6.out⟩
end Go.Proofs.Ytnifgfnhcjhodaa
