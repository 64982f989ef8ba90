/- The walk of laws.FnIntersects. Condition: the argument is a slice of bytes. -/
import Derived.Test.YtnifgfnhcjhodaaP1
set_option linter.unusedVariables false
set_option linter.unusedSimpArgs false
namespace Go.Proofs.Ytnifgfnhcjhodaa
open Go.Conc Go.RowKit

noncomputable def bLI : Code := Try.f7.body.getD .skip
noncomputable def rLI4 : Array Oper := co (cl (ct 3 bLI))
noncomputable def rLI15 : Array Oper := co (cl (ct 7 bLI))
set_option maxRecDepth 10000 in
theorem arr76 {motive : Array Value → Prop} (k : ∀ e0 e1 e2 e3 e4 e5 e6 e7 e8 e9 e10 e11 e12 e13 e14 e15 e16 e17 e18 e19 e20 e21 e22 e23 e24 e25 e26 e27 e28 e29 e30 e31 e32 e33 e34 e35 e36 e37 e38 e39 e40 e41 e42 e43 e44 e45 e46 e47 e48 e49 e50 e51 e52 e53 e54 e55 e56 e57 e58 e59 e60 e61 e62 e63 e64 e65 e66 e67 e68 e69 e70 e71 e72 e73 e74 e75 : Value, motive #[e0, e1, e2, e3, e4, e5, e6, e7, e8, e9, e10, e11, e12, e13, e14, e15, e16, e17, e18, e19, e20, e21, e22, e23, e24, e25, e26, e27, e28, e29, e30, e31, e32, e33, e34, e35, e36, e37, e38, e39, e40, e41, e42, e43, e44, e45, e46, e47, e48, e49, e50, e51, e52, e53, e54, e55, e56, e57, e58, e59, e60, e61, e62, e63, e64, e65, e66, e67, e68, e69, e70, e71, e72, e73, e74, e75]) : ∀ T : Array Value, T.size = 76 → motive T := by
  intro T h
  obtain ⟨l⟩ := T
  have h : l.length = 76 := h
  obtain ⟨e0, l0, rfl, h0⟩ := lcons h
  obtain ⟨e1, l1, rfl, h1⟩ := lcons h0
  obtain ⟨e2, l2, rfl, h2⟩ := lcons h1
  obtain ⟨e3, l3, rfl, h3⟩ := lcons h2
  obtain ⟨e4, l4, rfl, h4⟩ := lcons h3
  obtain ⟨e5, l5, rfl, h5⟩ := lcons h4
  obtain ⟨e6, l6, rfl, h6⟩ := lcons h5
  obtain ⟨e7, l7, rfl, h7⟩ := lcons h6
  obtain ⟨e8, l8, rfl, h8⟩ := lcons h7
  obtain ⟨e9, l9, rfl, h9⟩ := lcons h8
  obtain ⟨e10, l10, rfl, h10⟩ := lcons h9
  obtain ⟨e11, l11, rfl, h11⟩ := lcons h10
  obtain ⟨e12, l12, rfl, h12⟩ := lcons h11
  obtain ⟨e13, l13, rfl, h13⟩ := lcons h12
  obtain ⟨e14, l14, rfl, h14⟩ := lcons h13
  obtain ⟨e15, l15, rfl, h15⟩ := lcons h14
  obtain ⟨e16, l16, rfl, h16⟩ := lcons h15
  obtain ⟨e17, l17, rfl, h17⟩ := lcons h16
  obtain ⟨e18, l18, rfl, h18⟩ := lcons h17
  obtain ⟨e19, l19, rfl, h19⟩ := lcons h18
  obtain ⟨e20, l20, rfl, h20⟩ := lcons h19
  obtain ⟨e21, l21, rfl, h21⟩ := lcons h20
  obtain ⟨e22, l22, rfl, h22⟩ := lcons h21
  obtain ⟨e23, l23, rfl, h23⟩ := lcons h22
  obtain ⟨e24, l24, rfl, h24⟩ := lcons h23
  obtain ⟨e25, l25, rfl, h25⟩ := lcons h24
  obtain ⟨e26, l26, rfl, h26⟩ := lcons h25
  obtain ⟨e27, l27, rfl, h27⟩ := lcons h26
  obtain ⟨e28, l28, rfl, h28⟩ := lcons h27
  obtain ⟨e29, l29, rfl, h29⟩ := lcons h28
  obtain ⟨e30, l30, rfl, h30⟩ := lcons h29
  obtain ⟨e31, l31, rfl, h31⟩ := lcons h30
  obtain ⟨e32, l32, rfl, h32⟩ := lcons h31
  obtain ⟨e33, l33, rfl, h33⟩ := lcons h32
  obtain ⟨e34, l34, rfl, h34⟩ := lcons h33
  obtain ⟨e35, l35, rfl, h35⟩ := lcons h34
  obtain ⟨e36, l36, rfl, h36⟩ := lcons h35
  obtain ⟨e37, l37, rfl, h37⟩ := lcons h36
  obtain ⟨e38, l38, rfl, h38⟩ := lcons h37
  obtain ⟨e39, l39, rfl, h39⟩ := lcons h38
  obtain ⟨e40, l40, rfl, h40⟩ := lcons h39
  obtain ⟨e41, l41, rfl, h41⟩ := lcons h40
  obtain ⟨e42, l42, rfl, h42⟩ := lcons h41
  obtain ⟨e43, l43, rfl, h43⟩ := lcons h42
  obtain ⟨e44, l44, rfl, h44⟩ := lcons h43
  obtain ⟨e45, l45, rfl, h45⟩ := lcons h44
  obtain ⟨e46, l46, rfl, h46⟩ := lcons h45
  obtain ⟨e47, l47, rfl, h47⟩ := lcons h46
  obtain ⟨e48, l48, rfl, h48⟩ := lcons h47
  obtain ⟨e49, l49, rfl, h49⟩ := lcons h48
  obtain ⟨e50, l50, rfl, h50⟩ := lcons h49
  obtain ⟨e51, l51, rfl, h51⟩ := lcons h50
  obtain ⟨e52, l52, rfl, h52⟩ := lcons h51
  obtain ⟨e53, l53, rfl, h53⟩ := lcons h52
  obtain ⟨e54, l54, rfl, h54⟩ := lcons h53
  obtain ⟨e55, l55, rfl, h55⟩ := lcons h54
  obtain ⟨e56, l56, rfl, h56⟩ := lcons h55
  obtain ⟨e57, l57, rfl, h57⟩ := lcons h56
  obtain ⟨e58, l58, rfl, h58⟩ := lcons h57
  obtain ⟨e59, l59, rfl, h59⟩ := lcons h58
  obtain ⟨e60, l60, rfl, h60⟩ := lcons h59
  obtain ⟨e61, l61, rfl, h61⟩ := lcons h60
  obtain ⟨e62, l62, rfl, h62⟩ := lcons h61
  obtain ⟨e63, l63, rfl, h63⟩ := lcons h62
  obtain ⟨e64, l64, rfl, h64⟩ := lcons h63
  obtain ⟨e65, l65, rfl, h65⟩ := lcons h64
  obtain ⟨e66, l66, rfl, h66⟩ := lcons h65
  obtain ⟨e67, l67, rfl, h67⟩ := lcons h66
  obtain ⟨e68, l68, rfl, h68⟩ := lcons h67
  obtain ⟨e69, l69, rfl, h69⟩ := lcons h68
  obtain ⟨e70, l70, rfl, h70⟩ := lcons h69
  obtain ⟨e71, l71, rfl, h71⟩ := lcons h70
  obtain ⟨e72, l72, rfl, h72⟩ := lcons h71
  obtain ⟨e73, l73, rfl, h73⟩ := lcons h72
  obtain ⟨e74, l74, rfl, h74⟩ := lcons h73
  obtain ⟨e75, l75, rfl, h75⟩ := lcons h74
  obtain rfl := List.length_eq_zero_iff.1 h75
  exact k e0 e1 e2 e3 e4 e5 e6 e7 e8 e9 e10 e11 e12 e13 e14 e15 e16 e17 e18 e19 e20 e21 e22 e23 e24 e25 e26 e27 e28 e29 e30 e31 e32 e33 e34 e35 e36 e37 e38 e39 e40 e41 e42 e43 e44 e45 e46 e47 e48 e49 e50 e51 e52 e53 e54 e55 e56 e57 e58 e59 e60 e61 e62 e63 e64 e65 e66 e67 e68 e69 e70 e71 e72 e73 e74 e75

set_option maxRecDepth 20000 in
set_option maxHeartbeats 4000000 in
theorem FnIntersects_g {a : Option Addr} {n c : Nat} {u : World} (h : Bytes u a n c) : GLaw Try.prog 7 #[.slice a n c] u := by
  have hb := h
  clear h
  refine GLaw.of (cd := bLI) Try.func7 rfl ?_
  have leave : ∀ {X : Nat → Prop} {u1 : World} {a' : Act} {todo : List Item}, a'.defers = [] → a'.tmps.getD 2 undef = .bool true → Gw Try.prog (fun _ => False) u (QEnd Try.prog 7 u) X u1 (G { (base 7).at a' todo with mode := .returning } []) := fun hd h2 =>
    Gw.fin Try.func7 hd (by rw [← h2]; simp [results, Try.f7])
  refine Gw.ctl rfl (fun w => stepG_seq (x := cl (ct 0 bLI)) (y := (ct 1 bLI))) ?_
  refine Gw.seg CC RR (f := 7) (N := fun a' u' => (a'.tmps.size = 76 ∧ a'.defers = [] ∧ a'.tmps.getD 0 undef = .slice a n c ∧ a'.tmps.getD 2 undef = .bool false)) (Rt := fun a' u' => False) rfl (kn_nil rfl) rfl (by kernel_rfl) (fun _ _ _ _ h => h) (fun _ _ _ _ h => h) (fun t d => ?_) (fun A u1 hg h => ?_) fun _ _ _ _ _ h => h.elim
  · generalize World.re u t d = v
    simp only [bLI, cl, ct, co, Try.f7, Option.getD_some, List.size_toArray, List.length_cons, List.length_nil, Nat.reduceAdd, Nat.reduceSub, Array.replicate_succ, Array.replicate_zero, List.push_toArray, List.append_toArray, List.nil_append, List.cons_append]
    go_wp2_with fail
    exact ⟨⟨rfl, rfl, rfl, rfl⟩, Ext.refl _ _⟩
  have hA := h
  clear h
  obtain ⟨T, ds⟩ := A
  obtain ⟨hsz, hds, h_0, h_2⟩ := hA
  obtain rfl : ds = [] := hds
  try clear hds
  replace hsz : T.size = 76 := hsz
  revert h_0 h_2
  revert hsz
  revert T
  refine arr76 ?_
  intro e0 e1 e2 e3 e4 e5 e6 e7 e8 e9 e10 e11 e12 e13 e14 e15 e16 e17 e18 e19 e20 e21 e22 e23 e24 e25 e26 e27 e28 e29 e30 e31 e32 e33 e34 e35 e36 e37 e38 e39 e40 e41 e42 e43 e44 e45 e46 e47 e48 e49 e50 e51 e52 e53 e54 e55 e56 e57 e58 e59 e60 e61 e62 e63 e64 e65 e66 e67 e68 e69 e70 e71 e72 e73 e74 e75 h_0 h_2
  have h_0 : e0 = .slice a n c := h_0
  subst h_0
  have h_2 : e2 = .bool false := h_2
  subst h_2
  replace hb : Bytes u1 a n c := by have := hb.ext hg.ext; exact this
  clear hg
  refine Gw.ctl rfl (fun w => stepG_seq (x := cl (ct 1 bLI)) (y := (ct 2 bLI))) ?_
  refine Gw.seg CC RR (f := 7) (N := fun a' u' => (a'.tmps.size = 76 ∧ a'.defers = [] ∧ a'.tmps.getD 0 undef = .slice a n c ∧ a'.tmps.getD 2 undef = .bool false)) (Rt := fun a' u' => a'.tmps.getD 2 undef = .bool true) rfl (kn_nil rfl) rfl (by kernel_rfl) (fun _ _ _ _ h => h) (fun _ _ _ _ h => h) (fun t d => ?_) (fun A u2 hg h => ?_) (fun A u2 todo hd hg h => ?_)
  · generalize World.re u1 t d = v
    simp only [bLI, cl, ct, co, Try.f7, Option.getD_some]
    rcases Nat.lt_or_ge 1048576 n with hl | hl
    · have hlI : (1048576 : Int) < (n : Int) := by omega
      go_wp2_with fail
      exact ⟨rfl, Ext.refl _ _⟩
    · have hlI : ¬ (1048576 : Int) < (n : Int) := by omega
      go_wp2_with fail
      exact ⟨⟨rfl, rfl, rfl, rfl⟩, Ext.refl _ _⟩
  rotate_left
  · exact leave hd h
  have hA := h
  clear h
  obtain ⟨T, ds⟩ := A
  obtain ⟨hsz, hds, h_0, h_2⟩ := hA
  obtain rfl : ds = [] := hds
  try clear hds
  replace hsz : T.size = 76 := hsz
  revert h_0 h_2
  revert hsz
  revert T
  refine arr76 ?_
  intro e0 e1 e2 e3 e4 e5 e6 e7 e8 e9 e10 e11 e12 e13 e14 e15 e16 e17 e18 e19 e20 e21 e22 e23 e24 e25 e26 e27 e28 e29 e30 e31 e32 e33 e34 e35 e36 e37 e38 e39 e40 e41 e42 e43 e44 e45 e46 e47 e48 e49 e50 e51 e52 e53 e54 e55 e56 e57 e58 e59 e60 e61 e62 e63 e64 e65 e66 e67 e68 e69 e70 e71 e72 e73 e74 e75 h_0 h_2
  have h_0 : e0 = .slice a n c := h_0
  subst h_0
  have h_2 : e2 = .bool false := h_2
  subst h_2
  replace hb : Bytes u2 a n c := by have := hb.ext hg.ext; exact this
  clear hg
  refine Gw.ctl rfl (fun w => stepG_seq (x := cl (ct 2 bLI)) (y := (ct 3 bLI))) ?_
  refine Gw.seg CC RR (f := 7) (N := fun a' u' => ∃ a1 n1 c1 f a2 n2 c2 g, (a'.tmps.size = 76 ∧ a'.defers = [] ∧ a'.tmps.getD 2 undef = .bool false ∧ a'.tmps.getD 3 undef = .slice a1 n1 c1 ∧ a'.tmps.getD 4 undef = .slice a2 n2 c2) ∧ FamV u' a1 n1 c1 f ∧ n1 ≤ 80 ∧ FamV u' a2 n2 c2 g ∧ n2 ≤ 80) (Rt := fun a' u' => False) rfl (kn_nil rfl) rfl (by kernel_rfl) (fun _ _ _ _ h => h) (fun _ _ _ _ h => h) (fun t d => ?_) (fun A u3 hg h => ?_) fun _ _ _ _ _ h => h.elim
  · have H : Bytes (World.re u2 t d) a n c := hb
    generalize World.re u2 t d = v at H
    simp only [bLI, cl, ct, co, Try.f7, Option.getD_some]
    go_wp2_with fail
    refine (DrawIntersects_any H).mono ?_; rintro e w1 ⟨a1, n1, c1, f, a2, n2, c2, g, rfl, hf, hn1, hg, hn2, he⟩
    go_wp2_with fail
    exact ⟨⟨_, _, _, _, _, _, _, _, ⟨rfl, rfl, rfl, rfl, rfl⟩, hf, hn1, hg, hn2⟩, he⟩
  obtain ⟨a1, n1, c1, f, a2, n2, c2, g, hA, hf, hn1, hg2, hn2⟩ := h
  obtain ⟨T, ds⟩ := A
  obtain ⟨hsz, hds, h_2, h_3, h_4⟩ := hA
  obtain rfl : ds = [] := hds
  try clear hds
  replace hsz : T.size = 76 := hsz
  revert h_2 h_3 h_4
  revert hsz
  revert T
  refine arr76 ?_
  intro e0 e1 e2 e3 e4 e5 e6 e7 e8 e9 e10 e11 e12 e13 e14 e15 e16 e17 e18 e19 e20 e21 e22 e23 e24 e25 e26 e27 e28 e29 e30 e31 e32 e33 e34 e35 e36 e37 e38 e39 e40 e41 e42 e43 e44 e45 e46 e47 e48 e49 e50 e51 e52 e53 e54 e55 e56 e57 e58 e59 e60 e61 e62 e63 e64 e65 e66 e67 e68 e69 e70 e71 e72 e73 e74 e75 h_2 h_3 h_4
  have h_2 : e2 = .bool false := h_2
  subst h_2
  have h_3 : e3 = .slice a1 n1 c1 := h_3
  subst h_3
  have h_4 : e4 = .slice a2 n2 c2 := h_4
  subst h_4
  clear hb hg
  obtain ⟨q, hq⟩ : ∃ q, intL f g = q := ⟨_, rfl⟩
  refine Gw.ctl rfl (fun w => stepG_seq (x := .region 4 rLI4 false) (y := (ct 4 bLI))) ?_
  refine Gw.ctl rfl (fun w => stepG_region) ?_
  rw [show List.range rLI4.size = [0, 1, 2, 3] from rfl]
  refine Gw.mv (oo := rLI4.getD 0 default) rfl (.inl rfl) rfl (bkn _) ?_
  refine Gw.mv (oo := rLI4.getD 1 default) rfl (.inl rfl) rfl (bkn _) ?_
  refine (?_ : ∀ A : Act, (A.tmps.size = 76 ∧ A.defers = [] ∧ A.tmps.getD 2 undef = .bool false ∧ A.tmps.getD 3 undef = .slice a1 n1 c1 ∧ A.tmps.getD 4 undef = .slice a2 n2 c2 ∧ A.tmps.getD 17 undef = .slice a1 n1 c1 ∧ A.tmps.getD 18 undef = .slice a2 n2 c2) → Gw _ _ _ _ _ _ (G ((base 7).at A _) _)) _ ⟨rfl, rfl, rfl, rfl, rfl, rfl, rfl⟩
  intro A hA
  obtain ⟨T, ds⟩ := A
  obtain ⟨hsz, hds, h_2, h_3, h_4, h_17, h_18⟩ := hA
  obtain rfl : ds = [] := hds
  try clear hds
  replace hsz : T.size = 76 := hsz
  revert h_2 h_3 h_4 h_17 h_18
  revert hsz
  revert T
  refine arr76 ?_
  intro e0 e1 e2 e3 e4 e5 e6 e7 e8 e9 e10 e11 e12 e13 e14 e15 e16 e17 e18 e19 e20 e21 e22 e23 e24 e25 e26 e27 e28 e29 e30 e31 e32 e33 e34 e35 e36 e37 e38 e39 e40 e41 e42 e43 e44 e45 e46 e47 e48 e49 e50 e51 e52 e53 e54 e55 e56 e57 e58 e59 e60 e61 e62 e63 e64 e65 e66 e67 e68 e69 e70 e71 e72 e73 e74 e75 h_2 h_3 h_4 h_17 h_18
  have h_2 : e2 = .bool false := h_2
  subst h_2
  have h_3 : e3 = .slice a1 n1 c1 := h_3
  subst h_3
  have h_4 : e4 = .slice a2 n2 c2 := h_4
  subst h_4
  have h_17 : e17 = .slice a1 n1 c1 := h_17
  subst h_17
  have h_18 : e18 = .slice a2 n2 c2 := h_18
  subst h_18
  refine Gw.gcall (oo := rLI4.getD 2 default) (g := 14) (args := #[.tmp 17, .tmp 18]) rfl rfl (bkn _) rfl Try.func14 nmInt rfl (vals := #[.slice a1 n1 c1, .slice a2 n2 c2]) (by simp [Act.eval]) (Intersects_g hf.1 hg2.1) fun X4 v u4 hg4 hv => ?_
  rw [hq] at hv
  subst hv
  refine Gw.mv (oo := rLI4.getD 3 default) rfl (.inr rfl) rfl (bkn _) ?_
  refine Gw.ctl rfl (fun w => stepG_region_end) ?_
  refine (?_ : ∀ A : Act, (A.tmps.size = 76 ∧ A.defers = [] ∧ A.tmps.getD 2 undef = .bool false ∧ A.tmps.getD 3 undef = .slice a1 n1 c1 ∧ A.tmps.getD 4 undef = .slice a2 n2 c2 ∧ A.tmps.getD 5 undef = .bool q) → Gw _ _ _ _ _ _ (G ((base 7).at A _) _)) _ ⟨rfl, rfl, rfl, rfl, rfl, rfl⟩
  intro A hA
  obtain ⟨T, ds⟩ := A
  obtain ⟨hsz, hds, h_2, h_3, h_4, h_5⟩ := hA
  obtain rfl : ds = [] := hds
  try clear hds
  replace hsz : T.size = 76 := hsz
  revert h_2 h_3 h_4 h_5
  revert hsz
  revert T
  refine arr76 ?_
  intro e0 e1 e2 e3 e4 e5 e6 e7 e8 e9 e10 e11 e12 e13 e14 e15 e16 e17 e18 e19 e20 e21 e22 e23 e24 e25 e26 e27 e28 e29 e30 e31 e32 e33 e34 e35 e36 e37 e38 e39 e40 e41 e42 e43 e44 e45 e46 e47 e48 e49 e50 e51 e52 e53 e54 e55 e56 e57 e58 e59 e60 e61 e62 e63 e64 e65 e66 e67 e68 e69 e70 e71 e72 e73 e74 e75 h_2 h_3 h_4 h_5
  have h_2 : e2 = .bool false := h_2
  subst h_2
  have h_3 : e3 = .slice a1 n1 c1 := h_3
  subst h_3
  have h_4 : e4 = .slice a2 n2 c2 := h_4
  subst h_4
  have h_5 : e5 = .bool q := h_5
  subst h_5
  replace hf : FamV u4 a1 n1 c1 f := by have := hf.ext hg4.ext; exact this
  replace hg2 : FamV u4 a2 n2 c2 g := by have := hg2.ext hg4.ext; exact this
  clear hg4
  refine Gw.ctl rfl (fun w => stepG_seq (x := cl (ct 4 bLI)) (y := (ct 5 bLI))) ?_
  refine Gw.seg CC RR (f := 7) (N := fun a' u' => (a'.tmps.size = 76 ∧ a'.defers = [] ∧ a'.tmps.getD 2 undef = .bool false ∧ a'.tmps.getD 3 undef = .slice a1 n1 c1 ∧ a'.tmps.getD 4 undef = .slice a2 n2 c2 ∧ a'.tmps.getD 5 undef = .bool q) ∧ famB f = true ∧ famB g = true) (Rt := fun a' u' => a'.tmps.getD 2 undef = .bool true) rfl (kn_nil rfl) rfl (by kernel_rfl) (fun _ _ _ _ h => h) (fun _ _ _ _ h => h) (fun t d => ?_) (fun A u5 hg h => ?_) (fun A u5 todo hd hg h => ?_)
  · have H1 : FamV (World.re u4 t d) a1 n1 c1 f := hf
    have H2 : FamV (World.re u4 t d) a2 n2 c2 g := hg2
    generalize World.re u4 t d = v at H1 H2
    simp only [bLI, cl, ct, co, Try.f7, Option.getD_some]
    have HQ := Lib.hid hq
    clear hf hg2
    go_wp2_with fail
    refine (sIntersects_is H1.1 H2.1 HQ.out).mono ?_; rintro e w1 ⟨rfl, e1⟩
    replace H1 := H1.ext e1
    replace H2 := H2.ext e1
    cases hv : famB f
    · go_wp2_with fail
      refine (sFamilyValid_is H1.1 hv).mono ?_; rintro e w2 ⟨rfl, d2⟩
      replace H1 := H1.ext d2.ext
      replace H2 := H2.ext d2.ext
      have HE := Lib.hid (show Ext none v w2 from e1.trans d2.ext)
      clear e1 d2
      go_wp2_with fail
      refine (sIntersects_is H1.1 H2.1 HQ.out).mono ?_; rintro e w3 ⟨rfl, e3⟩
      go_wp2_with fail
      exact ⟨by simp, HE.out.trans e3⟩
    · cases hv2 : famB g
      · go_wp2_with fail
        refine (sFamilyValid_is H1.1 hv).mono ?_; rintro e w2 ⟨rfl, d2⟩
        replace H1 := H1.ext d2.ext
        replace H2 := H2.ext d2.ext
        have HE := Lib.hid (show Ext none v w2 from e1.trans d2.ext)
        clear e1 d2
        go_wp2_with fail
        refine (sFamilyValid_is H2.1 hv2).mono ?_; rintro e w3 ⟨rfl, d3⟩
        replace H1 := H1.ext d3.ext
        replace H2 := H2.ext d3.ext
        have HE3 := Lib.hid (show Ext none v w3 from HE.out.trans d3.ext)
        clear d3
        go_wp2_with fail
        refine (sIntersects_is H1.1 H2.1 HQ.out).mono ?_; rintro e w4 ⟨rfl, e4⟩
        go_wp2_with fail
        exact ⟨by simp, HE3.out.trans e4⟩
      · have HV := Lib.hid hv
        have HV2 := Lib.hid hv2
        go_wp2_with fail
        refine (sFamilyValid_is H1.1 hv).mono ?_; rintro e w2 ⟨rfl, d2⟩
        replace H1 := H1.ext d2.ext
        replace H2 := H2.ext d2.ext
        have HE := Lib.hid (show Ext none v w2 from e1.trans d2.ext)
        clear e1 d2
        go_wp2_with fail
        refine (sFamilyValid_is H2.1 hv2).mono ?_; rintro e w3 ⟨rfl, d3⟩
        have HE3 := Lib.hid (show Ext none v w3 from HE.out.trans d3.ext)
        clear d3
        go_wp2_with fail
        exact ⟨⟨⟨rfl, rfl, rfl, rfl, rfl, rfl⟩, HV.out, HV2.out⟩, HE3.out⟩
  rotate_left
  · exact leave hd h
  obtain ⟨hA, hv1, hv2⟩ := h
  obtain ⟨T, ds⟩ := A
  obtain ⟨hsz, hds, h_2, h_3, h_4, h_5⟩ := hA
  obtain rfl : ds = [] := hds
  try clear hds
  replace hsz : T.size = 76 := hsz
  revert h_2 h_3 h_4 h_5
  revert hsz
  revert T
  refine arr76 ?_
  intro e0 e1 e2 e3 e4 e5 e6 e7 e8 e9 e10 e11 e12 e13 e14 e15 e16 e17 e18 e19 e20 e21 e22 e23 e24 e25 e26 e27 e28 e29 e30 e31 e32 e33 e34 e35 e36 e37 e38 e39 e40 e41 e42 e43 e44 e45 e46 e47 e48 e49 e50 e51 e52 e53 e54 e55 e56 e57 e58 e59 e60 e61 e62 e63 e64 e65 e66 e67 e68 e69 e70 e71 e72 e73 e74 e75 h_2 h_3 h_4 h_5
  have h_2 : e2 = .bool false := h_2
  subst h_2
  have h_3 : e3 = .slice a1 n1 c1 := h_3
  subst h_3
  have h_4 : e4 = .slice a2 n2 c2 := h_4
  subst h_4
  have h_5 : e5 = .bool q := h_5
  subst h_5
  replace hf : FamV u5 a1 n1 c1 f := by have := hf.ext hg.ext; exact this
  replace hg2 : FamV u5 a2 n2 c2 g := by have := hg2.ext hg.ext; exact this
  clear hg
  refine Gw.ctl rfl (fun w => stepG_seq (x := cl (ct 5 bLI)) (y := (ct 6 bLI))) ?_
  refine Gw.seg CC RR (f := 7) (N := fun a' u' => (a'.tmps.size = 76 ∧ a'.defers = [] ∧ a'.tmps.getD 2 undef = .bool false ∧ a'.tmps.getD 3 undef = .slice a1 n1 c1 ∧ a'.tmps.getD 4 undef = .slice a2 n2 c2 ∧ a'.tmps.getD 5 undef = .bool q ∧ a'.tmps.getD 6 undef = .bool true)) (Rt := fun a' u' => False) rfl (kn_nil rfl) rfl (by kernel_rfl) (fun _ _ _ _ h => h) (fun _ _ _ _ h => h) (fun t d => ?_) (fun A u6 hg h => ?_) fun _ _ _ _ _ h => h.elim
  · generalize World.re u5 t d = v
    simp only [bLI, cl, ct, co, Try.f7, Option.getD_some]
    go_wp2_with fail
    exact ⟨⟨rfl, rfl, rfl, rfl, rfl, rfl, rfl⟩, Ext.refl _ _⟩
  have hA := h
  clear h
  obtain ⟨T, ds⟩ := A
  obtain ⟨hsz, hds, h_2, h_3, h_4, h_5, h_6⟩ := hA
  obtain rfl : ds = [] := hds
  try clear hds
  replace hsz : T.size = 76 := hsz
  revert h_2 h_3 h_4 h_5 h_6
  revert hsz
  revert T
  refine arr76 ?_
  intro e0 e1 e2 e3 e4 e5 e6 e7 e8 e9 e10 e11 e12 e13 e14 e15 e16 e17 e18 e19 e20 e21 e22 e23 e24 e25 e26 e27 e28 e29 e30 e31 e32 e33 e34 e35 e36 e37 e38 e39 e40 e41 e42 e43 e44 e45 e46 e47 e48 e49 e50 e51 e52 e53 e54 e55 e56 e57 e58 e59 e60 e61 e62 e63 e64 e65 e66 e67 e68 e69 e70 e71 e72 e73 e74 e75 h_2 h_3 h_4 h_5 h_6
  have h_2 : e2 = .bool false := h_2
  subst h_2
  have h_3 : e3 = .slice a1 n1 c1 := h_3
  subst h_3
  have h_4 : e4 = .slice a2 n2 c2 := h_4
  subst h_4
  have h_5 : e5 = .bool q := h_5
  subst h_5
  have h_6 : e6 = .bool true := h_6
  subst h_6
  replace hf : FamV u6 a1 n1 c1 f := by have := hf.ext hg.ext; exact this
  replace hg2 : FamV u6 a2 n2 c2 g := by have := hg2.ext hg.ext; exact this
  clear hg
  refine Gw.ctl rfl (fun w => stepG_seq (x := cl (ct 6 bLI)) (y := (ct 7 bLI))) ?_
  refine Gw.seg CC RR (f := 7) (N := fun a' u' => (a'.tmps.size = 76 ∧ a'.defers = [] ∧ a'.tmps.getD 2 undef = .bool false ∧ a'.tmps.getD 3 undef = .slice a1 n1 c1 ∧ a'.tmps.getD 4 undef = .slice a2 n2 c2 ∧ a'.tmps.getD 5 undef = .bool q ∧ a'.tmps.getD 6 undef = .bool q)) (Rt := fun a' u' => False) rfl (kn_nil rfl) rfl (by kernel_rfl) (fun _ _ _ _ h => h) (fun _ _ _ _ h => h) (fun t d => ?_) (fun A u7 hg h => ?_) fun _ _ _ _ _ h => h.elim
  · have H1 : FamV (World.re u6 t d) a1 n1 c1 f := hf
    have H2 : FamV (World.re u6 t d) a2 n2 c2 g := hg2
    generalize World.re u6 t d = v at H1 H2
    simp only [bLI, cl, ct, co, Try.f7, Option.getD_some]
    have HALL := Lib.hid ((allI_meet hv1 hv2).trans hq)
    have hl1 := Lib.hid hf.len
    have hl2 := Lib.hid hg2.len
    have hm1 := hf.max
    have hm2 := hg2.max
    have HF := Lib.hid H1
    have HG := Lib.hid H2
    clear H1 H2 hf hg2 hq hv1 hv2
    go_wp2_with fail
    go_loopw [6, 7] (fun c i wr => ∃ k : Nat, k ≤ n1 ∧ i = .int .i64 (k : Nat) ∧ c = .bool (allI (f.take k) g) ∧ Ext none v wr)
      (fun _ i _ => n1 - (intOf i).toNat)
    case atStart => exact ⟨0, by omega, rfl, rfl, Ext.refl _ _⟩
    case round =>
      obtain ⟨k, hk, rfl, rfl, hE⟩ := hrel
      by_cases hlt : k < n1
      · have hltI : (k : Int) < (n1 : Int) := by omega
        have hst := Lib.hid (allI_step f g k (by rw [hl1.out]; exact hlt))
        obtain ⟨p, hp⟩ : ∃ p, p = allI (f.take k) g := ⟨_, rfl⟩
        rw [← hp]
        have HP := Lib.hid hp
        clear hp
        have HE := Lib.hid hE
        clear hE
        obtain ⟨s, hs⟩ : ∃ s, s = f.getD k [] := ⟨_, rfl⟩
        have HS := Lib.hid hs
        obtain ⟨b1, off1, a3, n3, c3, rfl, hc3, hi3⟩ := (HF.out.ext HE.out).cell hlt
        rw [← hs] at hi3
        have HI3 := Lib.hid hi3
        clear hs hi3
        go_wp2_with fail
        obtain ⟨wo, hwo⟩ : ∃ x, x = wr := ⟨_, rfl⟩
        rw [← hwo] at HE hc3 HI3 ⊢
        clear hwo
        go_loopw [6, 8] (fun c i wr => ∃ j : Nat, j ≤ n2 ∧ i = .int .i64 (j : Nat) ∧ c = .bool (p && rowI (g.take j) s) ∧ Ext none wo wr)
          (fun _ i _ => n2 - (intOf i).toNat)
        case atStart => exact ⟨0, by omega, rfl, by simp [rowI], Ext.refl _ _⟩
        case round =>
          obtain ⟨j, hj, rfl, rfl, hy⟩ := hrel
          by_cases hjt : j < n2
          · have hjtI : (j : Int) < (n2 : Int) := by omega
            have hst2 := Lib.hid (rowI_step g s j (by rw [hl2.out]; exact hjt))
            obtain ⟨r, hr⟩ : ∃ r, r = (p && rowI (g.take j) s) := ⟨_, rfl⟩
            rw [← hr]
            have HR := Lib.hid hr
            clear hr
            have HY := Lib.hid hy
            clear hy
            have hc3' := HY.out.cell hc3
            have hdr : Ext none wr wr.drew := (Ext.refl _ _).drew
            have E3 := Lib.hid (HY.out.trans hdr)
            obtain ⟨b2, off2, a4, n4, c4, rfl, hc4, hi4⟩ := ((HG.out.ext HE.out).ext HY.out).cell hjt
            have HI4 := Lib.hid (hi4.ext hdr)
            have HI3d := Lib.hid (HI3.out.ext E3.out)
            clear hi4 hdr
            cases r
            · go_wp2_with fail
              go_quiet (fail)
              all_goals
                go_wp2_with fail
                go_roundw
                case rel => exact ⟨j + 1, by omega, by go_num, by rw [hst2.out, ← Bool.and_assoc, ← HR.out, Bool.false_and], HY.out.drewN _⟩
                case measure => simp [intOf]; omega
            · go_wp2_with fail
              go_region_law (go_simp; go_at_call 13; refine (SetIntersect_any HI3d.out HI4.out).mono ?_; rintro e w5 ⟨a5, n5, c5, rfl, o5, e5⟩; have hn5 := Lib.hid o5.len; have E5 := Lib.hid (E3.out.trans e5); clear o5 e5)
              all_goals
                go_wp2_with fail
                go_roundw
                case rel => exact ⟨j + 1, by omega, by go_num, by rw [hst2.out, ← Bool.and_assoc, ← HR.out, hn5.out]; simp, E5.out⟩
                case measure => simp [intOf]; omega
          · obtain rfl : j = n2 := by omega
            have hall := Lib.hid (show g.take j = g from List.take_of_length_le (by rw [hl2.out]; exact Nat.le_refl _))
            go_wp2_with fail
            go_roundw
            case rel => exact ⟨k + 1, by omega, by go_num, by rw [hst.out, ← HP.out, hall.out, HS.out], HE.out.trans hy⟩
            case measure => simp [intOf]; omega
      · obtain rfl : k = n1 := by omega
        have hall := Lib.hid (show f.take k = f from List.take_of_length_le (by rw [hl1.out]; exact Nat.le_refl _))
        go_wp2_with fail
        exact ⟨⟨rfl, rfl, rfl, rfl, rfl, rfl, congrArg Value.bool (by rw [hall.out]; exact HALL.out)⟩, hE⟩
  have hA := h
  clear h
  obtain ⟨T, ds⟩ := A
  obtain ⟨hsz, hds, h_2, h_3, h_4, h_5, h_6⟩ := hA
  obtain rfl : ds = [] := hds
  try clear hds
  replace hsz : T.size = 76 := hsz
  revert h_2 h_3 h_4 h_5 h_6
  revert hsz
  revert T
  refine arr76 ?_
  intro e0 e1 e2 e3 e4 e5 e6 e7 e8 e9 e10 e11 e12 e13 e14 e15 e16 e17 e18 e19 e20 e21 e22 e23 e24 e25 e26 e27 e28 e29 e30 e31 e32 e33 e34 e35 e36 e37 e38 e39 e40 e41 e42 e43 e44 e45 e46 e47 e48 e49 e50 e51 e52 e53 e54 e55 e56 e57 e58 e59 e60 e61 e62 e63 e64 e65 e66 e67 e68 e69 e70 e71 e72 e73 e74 e75 h_2 h_3 h_4 h_5 h_6
  have h_2 : e2 = .bool false := h_2
  subst h_2
  have h_3 : e3 = .slice a1 n1 c1 := h_3
  subst h_3
  have h_4 : e4 = .slice a2 n2 c2 := h_4
  subst h_4
  have h_5 : e5 = .bool q := h_5
  subst h_5
  have h_6 : e6 = .bool q := h_6
  subst h_6
  replace hf : FamV u7 a1 n1 c1 f := by have := hf.ext hg.ext; exact this
  replace hg2 : FamV u7 a2 n2 c2 g := by have := hg2.ext hg.ext; exact this
  clear hg
  refine Gw.ctl rfl (fun w => stepG_seq (x := .region 15 rLI15 false) (y := .ret)) ?_
  refine Gw.ctl rfl (fun w => stepG_region) ?_
  rw [show List.range rLI15.size = [0, 1, 2, 3, 4, 5, 6, 7, 8, 9, 10] from rfl]
  refine Gw.mv (oo := rLI15.getD 0 default) rfl (.inl rfl) rfl (bkn _) ?_
  refine Gw.mv (oo := rLI15.getD 1 default) rfl (.inl rfl) rfl (bkn _) ?_
  refine (?_ : ∀ A : Act, (A.tmps.size = 76 ∧ A.defers = [] ∧ A.tmps.getD 2 undef = .bool false ∧ A.tmps.getD 3 undef = .slice a1 n1 c1 ∧ A.tmps.getD 4 undef = .slice a2 n2 c2 ∧ A.tmps.getD 5 undef = .bool q ∧ A.tmps.getD 6 undef = .bool q ∧ A.tmps.getD 66 undef = .bool q ∧ A.tmps.getD 67 undef = .bool q) → Gw _ _ _ _ _ _ (G ((base 7).at A _) _)) _ ⟨rfl, rfl, rfl, rfl, rfl, rfl, rfl, rfl, rfl⟩
  intro A hA
  obtain ⟨T, ds⟩ := A
  obtain ⟨hsz, hds, h_2, h_3, h_4, h_5, h_6, h_66, h_67⟩ := hA
  obtain rfl : ds = [] := hds
  try clear hds
  replace hsz : T.size = 76 := hsz
  revert h_2 h_3 h_4 h_5 h_6 h_66 h_67
  revert hsz
  revert T
  refine arr76 ?_
  intro e0 e1 e2 e3 e4 e5 e6 e7 e8 e9 e10 e11 e12 e13 e14 e15 e16 e17 e18 e19 e20 e21 e22 e23 e24 e25 e26 e27 e28 e29 e30 e31 e32 e33 e34 e35 e36 e37 e38 e39 e40 e41 e42 e43 e44 e45 e46 e47 e48 e49 e50 e51 e52 e53 e54 e55 e56 e57 e58 e59 e60 e61 e62 e63 e64 e65 e66 e67 e68 e69 e70 e71 e72 e73 e74 e75 h_2 h_3 h_4 h_5 h_6 h_66 h_67
  have h_2 : e2 = .bool false := h_2
  subst h_2
  have h_3 : e3 = .slice a1 n1 c1 := h_3
  subst h_3
  have h_4 : e4 = .slice a2 n2 c2 := h_4
  subst h_4
  have h_5 : e5 = .bool q := h_5
  subst h_5
  have h_6 : e6 = .bool q := h_6
  subst h_6
  have h_66 : e66 = .bool q := h_66
  subst h_66
  have h_67 : e67 = .bool q := h_67
  subst h_67
  refine Gw.val (oo := rLI15.getD 2 default) rfl rfl (bkn _) (fun w => eqt_run (p := q) rfl rfl rfl) ?_
  refine Gw.mv (oo := rLI15.getD 3 default) rfl (.inl rfl) rfl (bkn _) ?_
  refine (?_ : ∀ A : Act, (A.tmps.size = 76 ∧ A.defers = [] ∧ A.tmps.getD 2 undef = .bool false ∧ A.tmps.getD 3 undef = .slice a1 n1 c1 ∧ A.tmps.getD 4 undef = .slice a2 n2 c2 ∧ A.tmps.getD 5 undef = .bool q ∧ A.tmps.getD 6 undef = .bool q ∧ A.tmps.getD 69 undef = .bool true) → Gw _ _ _ _ _ _ (G ((base 7).at A _) _)) _ ⟨rfl, rfl, rfl, rfl, rfl, rfl, rfl, rfl⟩
  intro A hA
  obtain ⟨T, ds⟩ := A
  obtain ⟨hsz, hds, h_2, h_3, h_4, h_5, h_6, h_69⟩ := hA
  obtain rfl : ds = [] := hds
  try clear hds
  replace hsz : T.size = 76 := hsz
  revert h_2 h_3 h_4 h_5 h_6 h_69
  revert hsz
  revert T
  refine arr76 ?_
  intro e0 e1 e2 e3 e4 e5 e6 e7 e8 e9 e10 e11 e12 e13 e14 e15 e16 e17 e18 e19 e20 e21 e22 e23 e24 e25 e26 e27 e28 e29 e30 e31 e32 e33 e34 e35 e36 e37 e38 e39 e40 e41 e42 e43 e44 e45 e46 e47 e48 e49 e50 e51 e52 e53 e54 e55 e56 e57 e58 e59 e60 e61 e62 e63 e64 e65 e66 e67 e68 e69 e70 e71 e72 e73 e74 e75 h_2 h_3 h_4 h_5 h_6 h_69
  have h_2 : e2 = .bool false := h_2
  subst h_2
  have h_3 : e3 = .slice a1 n1 c1 := h_3
  subst h_3
  have h_4 : e4 = .slice a2 n2 c2 := h_4
  subst h_4
  have h_5 : e5 = .bool q := h_5
  subst h_5
  have h_6 : e6 = .bool q := h_6
  subst h_6
  have h_69 : e69 = .bool true := h_69
  subst h_69
  refine Gw.mv (oo := rLI15.getD 4 default) rfl (.inl rfl) rfl (bkn _) ?_
  refine Gw.mv (oo := rLI15.getD 5 default) rfl (.inl rfl) rfl (bkn _) ?_
  refine (?_ : ∀ A : Act, (A.tmps.size = 76 ∧ A.defers = [] ∧ A.tmps.getD 2 undef = .bool false ∧ A.tmps.getD 3 undef = .slice a1 n1 c1 ∧ A.tmps.getD 4 undef = .slice a2 n2 c2 ∧ A.tmps.getD 5 undef = .bool q ∧ A.tmps.getD 6 undef = .bool q ∧ A.tmps.getD 69 undef = .bool true ∧ A.tmps.getD 70 undef = .slice a2 n2 c2 ∧ A.tmps.getD 71 undef = .slice a1 n1 c1) → Gw _ _ _ _ _ _ (G ((base 7).at A _) _)) _ ⟨rfl, rfl, rfl, rfl, rfl, rfl, rfl, rfl, rfl, rfl⟩
  intro A hA
  obtain ⟨T, ds⟩ := A
  obtain ⟨hsz, hds, h_2, h_3, h_4, h_5, h_6, h_69, h_70, h_71⟩ := hA
  obtain rfl : ds = [] := hds
  try clear hds
  replace hsz : T.size = 76 := hsz
  revert h_2 h_3 h_4 h_5 h_6 h_69 h_70 h_71
  revert hsz
  revert T
  refine arr76 ?_
  intro e0 e1 e2 e3 e4 e5 e6 e7 e8 e9 e10 e11 e12 e13 e14 e15 e16 e17 e18 e19 e20 e21 e22 e23 e24 e25 e26 e27 e28 e29 e30 e31 e32 e33 e34 e35 e36 e37 e38 e39 e40 e41 e42 e43 e44 e45 e46 e47 e48 e49 e50 e51 e52 e53 e54 e55 e56 e57 e58 e59 e60 e61 e62 e63 e64 e65 e66 e67 e68 e69 e70 e71 e72 e73 e74 e75 h_2 h_3 h_4 h_5 h_6 h_69 h_70 h_71
  have h_2 : e2 = .bool false := h_2
  subst h_2
  have h_3 : e3 = .slice a1 n1 c1 := h_3
  subst h_3
  have h_4 : e4 = .slice a2 n2 c2 := h_4
  subst h_4
  have h_5 : e5 = .bool q := h_5
  subst h_5
  have h_6 : e6 = .bool q := h_6
  subst h_6
  have h_69 : e69 = .bool true := h_69
  subst h_69
  have h_70 : e70 = .slice a2 n2 c2 := h_70
  subst h_70
  have h_71 : e71 = .slice a1 n1 c1 := h_71
  subst h_71
  refine Gw.gcall (oo := rLI15.getD 6 default) (g := 14) (args := #[.tmp 70, .tmp 71]) rfl rfl (bkn _) rfl Try.func14 nmInt rfl (vals := #[.slice a2 n2 c2, .slice a1 n1 c1]) (by simp [Act.eval]) (Intersects_g hg2.1 hf.1) fun X5 v u8 hg8 hv => ?_
  rw [intL_symm, hq] at hv
  subst hv
  refine Gw.mv (oo := rLI15.getD 7 default) rfl (.inl rfl) rfl (bkn _) ?_
  refine (?_ : ∀ A : Act, (A.tmps.size = 76 ∧ A.defers = [] ∧ A.tmps.getD 2 undef = .bool false ∧ A.tmps.getD 3 undef = .slice a1 n1 c1 ∧ A.tmps.getD 4 undef = .slice a2 n2 c2 ∧ A.tmps.getD 5 undef = .bool q ∧ A.tmps.getD 6 undef = .bool q ∧ A.tmps.getD 69 undef = .bool true ∧ A.tmps.getD 72 undef = .bool q ∧ A.tmps.getD 73 undef = .bool q) → Gw _ _ _ _ _ _ (G ((base 7).at A _) _)) _ ⟨rfl, rfl, rfl, rfl, rfl, rfl, rfl, rfl, rfl, rfl⟩
  intro A hA
  obtain ⟨T, ds⟩ := A
  obtain ⟨hsz, hds, h_2, h_3, h_4, h_5, h_6, h_69, h_72, h_73⟩ := hA
  obtain rfl : ds = [] := hds
  try clear hds
  replace hsz : T.size = 76 := hsz
  revert h_2 h_3 h_4 h_5 h_6 h_69 h_72 h_73
  revert hsz
  revert T
  refine arr76 ?_
  intro e0 e1 e2 e3 e4 e5 e6 e7 e8 e9 e10 e11 e12 e13 e14 e15 e16 e17 e18 e19 e20 e21 e22 e23 e24 e25 e26 e27 e28 e29 e30 e31 e32 e33 e34 e35 e36 e37 e38 e39 e40 e41 e42 e43 e44 e45 e46 e47 e48 e49 e50 e51 e52 e53 e54 e55 e56 e57 e58 e59 e60 e61 e62 e63 e64 e65 e66 e67 e68 e69 e70 e71 e72 e73 e74 e75 h_2 h_3 h_4 h_5 h_6 h_69 h_72 h_73
  have h_2 : e2 = .bool false := h_2
  subst h_2
  have h_3 : e3 = .slice a1 n1 c1 := h_3
  subst h_3
  have h_4 : e4 = .slice a2 n2 c2 := h_4
  subst h_4
  have h_5 : e5 = .bool q := h_5
  subst h_5
  have h_6 : e6 = .bool q := h_6
  subst h_6
  have h_69 : e69 = .bool true := h_69
  subst h_69
  have h_72 : e72 = .bool q := h_72
  subst h_72
  have h_73 : e73 = .bool q := h_73
  subst h_73
  refine Gw.val (oo := rLI15.getD 8 default) rfl rfl (bkn _) (fun w => eqt_run (p := q) rfl rfl rfl) ?_
  refine Gw.val (oo := rLI15.getD 9 default) rfl rfl (bkn _) (fun w => pick_run (t := true) rfl rfl) ?_
  refine Gw.mv (oo := rLI15.getD 10 default) rfl (.inr rfl) rfl (bkn _) ?_
  refine Gw.ctl rfl (fun w => stepG_region_end) ?_
  refine (?_ : ∀ A : Act, (A.tmps.size = 76 ∧ A.defers = [] ∧ A.tmps.getD 2 undef = .bool true) → Gw _ _ _ _ _ _ (G ((base 7).at A _) _)) _ ⟨rfl, rfl, rfl⟩
  intro A hA
  refine Gw.ctl rfl (fun w => stepG_ret') ?_
  exact leave hA.2.1 hA.2.2
end Go.Proofs.Ytnifgfnhcjhodaa
