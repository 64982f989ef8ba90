/- The walk of laws.FnExactConfigMembers. Conditions: the argument is what its type says; the sentinels lie in memory. -/
import Derived.Test.YtnifgfnhcjhodaaDoorY6
import Derived.Deep.RegionHeld3
set_option linter.unusedVariables false
set_option linter.unusedSimpArgs false
namespace Go.Proofs.YtnifgfnhcjhodaaDoor
open Go.Conc Go.RowKit

noncomputable def bXM : Code := Tryd.f3.body.getD .skip
noncomputable def rXM6 : Array Oper := co (cl (ct 6 bXM))
noncomputable def rXM18 : Array Oper := co (cl (ct 18 bXM))
set_option maxRecDepth 10000 in
theorem arr69 {motive : Array Value → Prop} (k : ∀ e0 e1 e2 e3 e4 e5 e6 e7 e8 e9 e10 e11 e12 e13 e14 e15 e16 e17 e18 e19 e20 e21 e22 e23 e24 e25 e26 e27 e28 e29 e30 e31 e32 e33 e34 e35 e36 e37 e38 e39 e40 e41 e42 e43 e44 e45 e46 e47 e48 e49 e50 e51 e52 e53 e54 e55 e56 e57 e58 e59 e60 e61 e62 e63 e64 e65 e66 e67 e68 : Value, motive #[e0, e1, e2, e3, e4, e5, e6, e7, e8, e9, e10, e11, e12, e13, e14, e15, e16, e17, e18, e19, e20, e21, e22, e23, e24, e25, e26, e27, e28, e29, e30, e31, e32, e33, e34, e35, e36, e37, e38, e39, e40, e41, e42, e43, e44, e45, e46, e47, e48, e49, e50, e51, e52, e53, e54, e55, e56, e57, e58, e59, e60, e61, e62, e63, e64, e65, e66, e67, e68]) : ∀ T : Array Value, T.size = 69 → motive T := by
  intro T h
  obtain ⟨l⟩ := T
  have h : l.length = 69 := h
  obtain ⟨e0, l0, rfl, h0⟩ := lcons h
  obtain ⟨e1, l1, rfl, h1⟩ := lcons h0
  obtain ⟨e2, l2, rfl, h2⟩ := lcons h1
  obtain ⟨e3, l3, rfl, h3⟩ := lcons h2
  obtain ⟨e4, l4, rfl, h4⟩ := lcons h3
  obtain ⟨e5, l5, rfl, h5⟩ := lcons h4
  obtain ⟨e6, l6, rfl, h6⟩ := lcons h5
  obtain ⟨e7, l7, rfl, h7⟩ := lcons h6
  obtain ⟨e8, l8, rfl, h8⟩ := lcons h7
  obtain ⟨e9, l9, rfl, h9⟩ := lcons h8
  obtain ⟨e10, l10, rfl, h10⟩ := lcons h9
  obtain ⟨e11, l11, rfl, h11⟩ := lcons h10
  obtain ⟨e12, l12, rfl, h12⟩ := lcons h11
  obtain ⟨e13, l13, rfl, h13⟩ := lcons h12
  obtain ⟨e14, l14, rfl, h14⟩ := lcons h13
  obtain ⟨e15, l15, rfl, h15⟩ := lcons h14
  obtain ⟨e16, l16, rfl, h16⟩ := lcons h15
  obtain ⟨e17, l17, rfl, h17⟩ := lcons h16
  obtain ⟨e18, l18, rfl, h18⟩ := lcons h17
  obtain ⟨e19, l19, rfl, h19⟩ := lcons h18
  obtain ⟨e20, l20, rfl, h20⟩ := lcons h19
  obtain ⟨e21, l21, rfl, h21⟩ := lcons h20
  obtain ⟨e22, l22, rfl, h22⟩ := lcons h21
  obtain ⟨e23, l23, rfl, h23⟩ := lcons h22
  obtain ⟨e24, l24, rfl, h24⟩ := lcons h23
  obtain ⟨e25, l25, rfl, h25⟩ := lcons h24
  obtain ⟨e26, l26, rfl, h26⟩ := lcons h25
  obtain ⟨e27, l27, rfl, h27⟩ := lcons h26
  obtain ⟨e28, l28, rfl, h28⟩ := lcons h27
  obtain ⟨e29, l29, rfl, h29⟩ := lcons h28
  obtain ⟨e30, l30, rfl, h30⟩ := lcons h29
  obtain ⟨e31, l31, rfl, h31⟩ := lcons h30
  obtain ⟨e32, l32, rfl, h32⟩ := lcons h31
  obtain ⟨e33, l33, rfl, h33⟩ := lcons h32
  obtain ⟨e34, l34, rfl, h34⟩ := lcons h33
  obtain ⟨e35, l35, rfl, h35⟩ := lcons h34
  obtain ⟨e36, l36, rfl, h36⟩ := lcons h35
  obtain ⟨e37, l37, rfl, h37⟩ := lcons h36
  obtain ⟨e38, l38, rfl, h38⟩ := lcons h37
  obtain ⟨e39, l39, rfl, h39⟩ := lcons h38
  obtain ⟨e40, l40, rfl, h40⟩ := lcons h39
  obtain ⟨e41, l41, rfl, h41⟩ := lcons h40
  obtain ⟨e42, l42, rfl, h42⟩ := lcons h41
  obtain ⟨e43, l43, rfl, h43⟩ := lcons h42
  obtain ⟨e44, l44, rfl, h44⟩ := lcons h43
  obtain ⟨e45, l45, rfl, h45⟩ := lcons h44
  obtain ⟨e46, l46, rfl, h46⟩ := lcons h45
  obtain ⟨e47, l47, rfl, h47⟩ := lcons h46
  obtain ⟨e48, l48, rfl, h48⟩ := lcons h47
  obtain ⟨e49, l49, rfl, h49⟩ := lcons h48
  obtain ⟨e50, l50, rfl, h50⟩ := lcons h49
  obtain ⟨e51, l51, rfl, h51⟩ := lcons h50
  obtain ⟨e52, l52, rfl, h52⟩ := lcons h51
  obtain ⟨e53, l53, rfl, h53⟩ := lcons h52
  obtain ⟨e54, l54, rfl, h54⟩ := lcons h53
  obtain ⟨e55, l55, rfl, h55⟩ := lcons h54
  obtain ⟨e56, l56, rfl, h56⟩ := lcons h55
  obtain ⟨e57, l57, rfl, h57⟩ := lcons h56
  obtain ⟨e58, l58, rfl, h58⟩ := lcons h57
  obtain ⟨e59, l59, rfl, h59⟩ := lcons h58
  obtain ⟨e60, l60, rfl, h60⟩ := lcons h59
  obtain ⟨e61, l61, rfl, h61⟩ := lcons h60
  obtain ⟨e62, l62, rfl, h62⟩ := lcons h61
  obtain ⟨e63, l63, rfl, h63⟩ := lcons h62
  obtain ⟨e64, l64, rfl, h64⟩ := lcons h63
  obtain ⟨e65, l65, rfl, h65⟩ := lcons h64
  obtain ⟨e66, l66, rfl, h66⟩ := lcons h65
  obtain ⟨e67, l67, rfl, h67⟩ := lcons h66
  obtain ⟨e68, l68, rfl, h68⟩ := lcons h67
  obtain rfl := List.length_eq_zero_iff.1 h68
  exact k e0 e1 e2 e3 e4 e5 e6 e7 e8 e9 e10 e11 e12 e13 e14 e15 e16 e17 e18 e19 e20 e21 e22 e23 e24 e25 e26 e27 e28 e29 e30 e31 e32 e33 e34 e35 e36 e37 e38 e39 e40 e41 e42 e43 e44 e45 e46 e47 e48 e49 e50 e51 e52 e53 e54 e55 e56 e57 e58 e59 e60 e61 e62 e63 e64 e65 e66 e67 e68

def B20 (n : Nat) : Prop := n ≤ 1048576
def Zok2 (z : Int) : Prop := 0 ≤ z ∧ z ≤ 60000000
theorem Gx.blk {u u' : World} {B : Nat} {o : Obj} (g : Gx u u') (h : u.heap[B]? = some o) : u'.heap[B]? = some o := (g.block _ (cfg_lt h)).trans h
theorem kna_nil {T : Tame} {f : FuncId} {args : Array Value} (h : T.K f = []) : KnA T f args := by unfold KnA; rw [h]; intro x hx; cases hx
theorem eqIntS_is {a : Option Addr} {n c : Nat} {xs : List Int} {b : Option Addr} {m d : Nat} {ys : List Int} {w : World} {q : Bool} (hx : Ints w a n xs) (hy : Ints w b m ys) (hq : same xs ys = q) :
    Calls Tryd.prog 8 #[.slice a n c, .slice b m d] w fun e w' => e = .returned (.bool q) ∧ Dr w w' := by
  rw [← hq]; exact eqIntS_any hx hy
theorem cmL_len (f g : List (List Int)) : (cmL f g).length ≤ 6 := by
  cases h : okC f g
  · rw [cmL_no h]; simp
  · rw [cmL_yes h]; exact mem_len
theorem nmMb : (Tryd.f7.name == "runtime.NumGoroutine") = false := by kernel_rfl
theorem loadLaw_op {a : Act} {w : World} {o : Oper} {x : Operand} {B : Nat} {s0 s1 : Value} (h : o.op = .load 24 x) (hx : a.eval x = .pointer (some ⟨B, 0, none⟩)) (hc : w.heap[B]? = some (.cells #[s0, s1] 24 (0, 0))) :
    Fit Tryd.prog (execOp a.eval o) ∧ (execOp a.eval o).run Tryd.prog w = .ok (.value (.agg #[s0, s1])) w := by
  obtain ⟨k0, k1, _, _⟩ := cfg_cell hc
  constructor
  · unfold execOp
    simp only [h]
    exact .bd (fit_loadAt _ _) fun _ => .pr _
  · unfold execOp
    simp only [h, hx]
    simp [go_sem, k0, k1]
set_option maxRecDepth 20000 in
set_option maxHeartbeats 4000000 in
theorem FnExactConfigMembers_g {a : Option Addr} {n ca : Nat} {f : List (List Int)} {b : Option Addr} {m cb : Nat} {g : List (List Int)} {a0 a1 : Addr} {u : World} (h1 : Fam u a n f) (h2 : Fam u b m g) (E0 : Errs u a0 a1) :
    GLaw Tryd.prog 3 #[.agg #[.slice a n ca, .slice b m cb]] u := by
  refine GLaw.of (cd := bXM) Tryd.func3 rfl ?_
  have leave : ∀ {X : Nat → Prop} {u1 : World} {a' : Act} {todo : List Item}, a'.defers = [] → a'.tmps.getD 2 undef = .bool true → Gw Tryd.prog (fun _ => False) u (QEnd Tryd.prog 3 u) X u1 (G { (base 3).at a' todo with mode := .returning } []) := fun hd h2 =>
    Gw.fin Tryd.func3 hd (by rw [← h2]; simp [results, Tryd.f3])
  refine Gw.ctl rfl (fun w => stepG_seq (x := cl (ct 0 bXM)) (y := (ct 1 bXM))) ?_
  refine Gw.seg CC RR (f := 3) (N := fun a' u' => ∃ B1, (a'.tmps.size = 69 ∧ a'.defers = [] ∧ a'.tmps.getD 1 undef = .pointer (some ⟨B1, 0, none⟩)) ∧ u'.heap[B1]? = some (.cells #[.slice a n ca, .slice b m cb] 24 (0, 0))) (Rt := fun a' u' => False) rfl (kn_nil rfl) rfl (by kernel_rfl) (fun _ _ _ _ h => h) (fun _ _ _ _ h => h) (fun t d => ?_) (fun A u1 hg h => ?_) fun _ _ _ _ _ h => h.elim
  · generalize World.re u t d = v
    simp only [bXM, cl, cr, ct, co, Tryd.f3, Option.getD_some, List.size_toArray, List.length_cons, List.length_nil, Nat.reduceAdd, Nat.reduceSub, Array.replicate_succ, Array.replicate_zero, List.push_toArray, List.append_toArray, List.nil_append, List.cons_append]
    have K1 := cfg_blk v #[.slice a n ca, .slice b m cb] 24
    have HE := (Ext.refl none v).alloc (.cells #[.slice a n ca, .slice b m cb] 24)
    go_wp2_with fail
    exact ⟨⟨_, ⟨rfl, rfl, rfl⟩, K1⟩, HE⟩
  obtain ⟨B1, hA, hB1⟩ := h
  obtain ⟨T, ds⟩ := A
  obtain ⟨hsz, hds, h_1⟩ := hA
  obtain rfl : ds = [] := hds
  try clear hds
  replace hsz : T.size = 69 := hsz
  revert h_1
  revert hsz
  revert T
  refine arr69 ?_
  intro e0 e1 e2 e3 e4 e5 e6 e7 e8 e9 e10 e11 e12 e13 e14 e15 e16 e17 e18 e19 e20 e21 e22 e23 e24 e25 e26 e27 e28 e29 e30 e31 e32 e33 e34 e35 e36 e37 e38 e39 e40 e41 e42 e43 e44 e45 e46 e47 e48 e49 e50 e51 e52 e53 e54 e55 e56 e57 e58 e59 e60 e61 e62 e63 e64 e65 e66 e67 e68 h_1
  have h_1 : e1 = .pointer (some ⟨B1, 0, none⟩) := h_1
  subst h_1
  replace h1 : Fam u1 a n f := hg.fam h1
  replace h2 : Fam u1 b m g := hg.fam h2
  clear hg
  refine Gw.ctl rfl (fun w => stepG_seq (x := cl (ct 1 bXM)) (y := (ct 2 bXM))) ?_
  refine Gw.seg CC RR (f := 3) (N := fun a' u' => (a'.tmps.size = 69 ∧ a'.defers = [] ∧ a'.tmps.getD 1 undef = .pointer (some ⟨B1, 0, none⟩) ∧ a'.tmps.getD 3 undef = .int .i64 1048576)) (Rt := fun a' u' => False) rfl (kn_nil rfl) rfl (by kernel_rfl) (fun _ _ _ _ h => h) (fun _ _ _ _ h => h) (fun t d => ?_) (fun A u2 hg h => ?_) fun _ _ _ _ _ h => h.elim
  · generalize World.re u1 t d = v
    simp only [bXM, cl, cr, ct, co, Tryd.f3, Option.getD_some]
    go_wp2_with fail
    exact ⟨⟨rfl, rfl, rfl, rfl⟩, Ext.refl _ _⟩
  have hA := h
  clear h
  obtain ⟨T, ds⟩ := A
  obtain ⟨hsz, hds, h_1, h_3⟩ := hA
  obtain rfl : ds = [] := hds
  try clear hds
  replace hsz : T.size = 69 := hsz
  revert h_1 h_3
  revert hsz
  revert T
  refine arr69 ?_
  intro e0 e1 e2 e3 e4 e5 e6 e7 e8 e9 e10 e11 e12 e13 e14 e15 e16 e17 e18 e19 e20 e21 e22 e23 e24 e25 e26 e27 e28 e29 e30 e31 e32 e33 e34 e35 e36 e37 e38 e39 e40 e41 e42 e43 e44 e45 e46 e47 e48 e49 e50 e51 e52 e53 e54 e55 e56 e57 e58 e59 e60 e61 e62 e63 e64 e65 e66 e67 e68 h_1 h_3
  have h_1 : e1 = .pointer (some ⟨B1, 0, none⟩) := h_1
  subst h_1
  have h_3 : e3 = .int .i64 1048576 := h_3
  subst h_3
  replace h1 : Fam u2 a n f := hg.fam h1
  replace h2 : Fam u2 b m g := hg.fam h2
  replace hB1 := hg.blk hB1
  clear hg
  refine Gw.ctl rfl (fun w => stepG_seq (x := cl (ct 2 bXM)) (y := (ct 3 bXM))) ?_
  refine Gw.seg CC RR (f := 3) (N := fun a' u' => ∃ r, (a'.tmps.size = 69 ∧ a'.defers = [] ∧ a'.tmps.getD 1 undef = .pointer (some ⟨B1, 0, none⟩) ∧ a'.tmps.getD 3 undef = .int .i64 r) ∧ ((∃ k : Nat, r = (k : Int) ∧ k ≤ 1048576 ∧ tot f + tot g ≤ 1048576) ∨ r = -1)) (Rt := fun a' u' => False) rfl (kn_nil rfl) rfl (by kernel_rfl) (fun _ _ _ _ h => h) (fun _ _ _ _ h => h) (fun t d => ?_) (fun A u3 hg h => ?_) fun _ _ _ _ _ h => h.elim
  · have H1 : Fam (World.re u2 t d) a n f := h1
    have H2 : Fam (World.re u2 t d) b m g := h2
    have HB : (World.re u2 t d).heap[B1]? = some (.cells #[.slice a n ca, .slice b m cb] 24 (0, 0)) := hB1
    generalize World.re u2 t d = v at H1 H2 HB
    simp only [bXM, cl, cr, ct, co, Tryd.f3, Option.getD_some]
    obtain ⟨k0, k1, _, _⟩ := cfg_cell HB
    go_wp2_with fail
    refine (szConfig_any H1 H2).mono ?_; rintro e w1 ⟨⟨ht, k, hk, rfl⟩ | rfl, e1⟩
    · go_wp2_with fail
      exact ⟨⟨_, ⟨rfl, rfl, rfl, rfl⟩, .inl ⟨k, rfl, hk, ht⟩⟩, e1⟩
    · go_wp2_with fail
      exact ⟨⟨_, ⟨rfl, rfl, rfl, rfl⟩, .inr rfl⟩, e1⟩
  obtain ⟨r, hA, hr⟩ := h
  obtain ⟨T, ds⟩ := A
  obtain ⟨hsz, hds, h_1, h_3⟩ := hA
  obtain rfl : ds = [] := hds
  try clear hds
  replace hsz : T.size = 69 := hsz
  revert h_1 h_3
  revert hsz
  revert T
  refine arr69 ?_
  intro e0 e1 e2 e3 e4 e5 e6 e7 e8 e9 e10 e11 e12 e13 e14 e15 e16 e17 e18 e19 e20 e21 e22 e23 e24 e25 e26 e27 e28 e29 e30 e31 e32 e33 e34 e35 e36 e37 e38 e39 e40 e41 e42 e43 e44 e45 e46 e47 e48 e49 e50 e51 e52 e53 e54 e55 e56 e57 e58 e59 e60 e61 e62 e63 e64 e65 e66 e67 e68 h_1 h_3
  have h_1 : e1 = .pointer (some ⟨B1, 0, none⟩) := h_1
  subst h_1
  have h_3 : e3 = .int .i64 r := h_3
  subst h_3
  replace h1 : Fam u3 a n f := hg.fam h1
  replace h2 : Fam u3 b m g := hg.fam h2
  replace hB1 := hg.blk hB1
  clear hg
  refine Gw.ctl rfl (fun w => stepG_seq (x := cl (ct 3 bXM)) (y := (ct 4 bXM))) ?_
  refine Gw.seg CC RR (f := 3) (N := fun a' u' => (a'.tmps.size = 69 ∧ a'.defers = [] ∧ a'.tmps.getD 1 undef = .pointer (some ⟨B1, 0, none⟩)) ∧ B20 (tot f + tot g)) (Rt := fun a' u' => a'.tmps.getD 2 undef = .bool true) rfl (kn_nil rfl) rfl (by kernel_rfl) (fun _ _ _ _ h => h) (fun _ _ _ _ h => h) (fun t d => ?_) (fun A u4 hg h => ?_) (fun A u4 todo hd hg h => ?_)
  · generalize World.re u3 t d = v
    simp only [bXM, cl, cr, ct, co, Tryd.f3, Option.getD_some]
    rcases hr with ⟨k, rfl, hk, ht⟩ | rfl
    · have hk0 : ¬ (k : Int) < 0 := by omega
      go_wp2_with fail
      exact ⟨⟨⟨rfl, rfl, rfl⟩, ht⟩, Ext.refl _ _⟩
    · go_wp2_with fail
      exact ⟨rfl, Ext.refl _ _⟩
  rotate_left
  · exact leave hd h
  obtain ⟨hA, hth⟩ := h
  obtain ⟨T, ds⟩ := A
  obtain ⟨hsz, hds, h_1⟩ := hA
  obtain rfl : ds = [] := hds
  try clear hds
  replace hsz : T.size = 69 := hsz
  revert h_1
  revert hsz
  revert T
  refine arr69 ?_
  intro e0 e1 e2 e3 e4 e5 e6 e7 e8 e9 e10 e11 e12 e13 e14 e15 e16 e17 e18 e19 e20 e21 e22 e23 e24 e25 e26 e27 e28 e29 e30 e31 e32 e33 e34 e35 e36 e37 e38 e39 e40 e41 e42 e43 e44 e45 e46 e47 e48 e49 e50 e51 e52 e53 e54 e55 e56 e57 e58 e59 e60 e61 e62 e63 e64 e65 e66 e67 e68 h_1
  have h_1 : e1 = .pointer (some ⟨B1, 0, none⟩) := h_1
  subst h_1
  replace h1 : Fam u4 a n f := hg.fam h1
  replace h2 : Fam u4 b m g := hg.fam h2
  replace hB1 := hg.blk hB1
  clear hg
  clear hr
  have ht1 : tot f ≤ 1048576 := by unfold B20 at hth; omega
  have ht2 : tot g ≤ 1048576 := by unfold B20 at hth; omega
  clear hth
  refine Gw.ctl rfl (fun w => stepG_seq (x := cl (ct 4 bXM)) (y := (ct 5 bXM))) ?_
  refine Gw.seg CC RR (f := 3) (N := fun a' u' => ∃ a4 n4 c4, (a'.tmps.size = 69 ∧ a'.defers = [] ∧ a'.tmps.getD 1 undef = .pointer (some ⟨B1, 0, none⟩) ∧ a'.tmps.getD 4 undef = .slice a4 n4 c4) ∧ Ints u' a4 n4 (cmL f g)) (Rt := fun a' u' => False) rfl (kn_nil rfl) rfl (by kernel_rfl) (fun _ _ _ _ h => h) (fun _ _ _ _ h => h) (fun t d => ?_) (fun A u5 hg h => ?_) fun _ _ _ _ _ h => h.elim
  · have H1 : Fam (World.re u4 t d) a n f := h1
    have H2 : Fam (World.re u4 t d) b m g := h2
    have HB : (World.re u4 t d).heap[B1]? = some (.cells #[.slice a n ca, .slice b m cb] 24 (0, 0)) := hB1
    generalize World.re u4 t d = v at H1 H2 HB
    simp only [bXM, cl, cr, ct, co, Tryd.f3, Option.getD_some]
    have HT1 := Lib.hid ht1
    have HT2 := Lib.hid ht2
    clear ht1 ht2
    obtain ⟨k0, k1, _, _⟩ := cfg_cell HB
    go_wp2_with fail
    refine (toConfig_any H1 H2 HT1.out HT2.out).mono ?_; rintro e w1 ⟨x1, x2, x3, y1, y2, y3, lo, mid, hi, rfl, o1, o2, _, _, _, _, e1⟩
    have F1 := Lib.hid o1.fam
    have F2 := Lib.hid o2.fam
    have HE := Lib.hid e1
    clear o1 o2 e1
    go_wp2_with fail
    refine (sConfigMembers_any F1.out F2.out).mono ?_; rintro e w2 ⟨z1, z2, z3, rfl, i2, e2⟩
    go_wp2_with fail
    exact ⟨⟨_, _, _, ⟨rfl, rfl, rfl, rfl⟩, i2⟩, HE.out.trans e2⟩
  obtain ⟨a4, n4, c4, hA, i4⟩ := h
  obtain ⟨T, ds⟩ := A
  obtain ⟨hsz, hds, h_1, h_4⟩ := hA
  obtain rfl : ds = [] := hds
  try clear hds
  replace hsz : T.size = 69 := hsz
  revert h_1 h_4
  revert hsz
  revert T
  refine arr69 ?_
  intro e0 e1 e2 e3 e4 e5 e6 e7 e8 e9 e10 e11 e12 e13 e14 e15 e16 e17 e18 e19 e20 e21 e22 e23 e24 e25 e26 e27 e28 e29 e30 e31 e32 e33 e34 e35 e36 e37 e38 e39 e40 e41 e42 e43 e44 e45 e46 e47 e48 e49 e50 e51 e52 e53 e54 e55 e56 e57 e58 e59 e60 e61 e62 e63 e64 e65 e66 e67 e68 h_1 h_4
  have h_1 : e1 = .pointer (some ⟨B1, 0, none⟩) := h_1
  subst h_1
  have h_4 : e4 = .slice a4 n4 c4 := h_4
  subst h_4
  replace h1 : Fam u5 a n f := hg.fam h1
  replace h2 : Fam u5 b m g := hg.fam h2
  replace hB1 := hg.blk hB1
  clear hg
  refine Gw.has fun GU => ?_
  have lu : u.heap.size ≤ u5.heap.size := GU.size
  clear GU
  have G5 : Gx u5 u5 := .refl u5
  refine Gw.ctl rfl (fun w => stepG_seq (x := cl (ct 5 bXM)) (y := (ct 6 bXM))) ?_
  refine Gw.seg CC RR (f := 3) (N := fun a' u' => ∃ xa xn xc ya yn yc B5 lo mid hi, (a'.tmps.size = 69 ∧ a'.defers = [] ∧ a'.tmps.getD 1 undef = .pointer (some ⟨B1, 0, none⟩) ∧ a'.tmps.getD 4 undef = .slice a4 n4 c4 ∧ a'.tmps.getD 5 undef = .pointer (some ⟨B5, 0, none⟩)) ∧ u'.heap[B5]? = some (.cells #[.slice xa xn xc, .slice ya yn yc] 28 (0, 0)) ∧ OwnG u' lo mid xa xn xc f ∧ OwnG u' mid hi ya yn yc g ∧ lo ≤ mid ∧ mid ≤ hi ∧ hi ≤ B5 ∧ u5.heap.size ≤ lo) (Rt := fun a' u' => False) rfl (kn_nil rfl) rfl (by kernel_rfl) (fun _ _ _ _ h => h) (fun _ _ _ _ h => h) (fun t d => ?_) (fun A u6 hg h => ?_) fun _ _ _ _ _ h => h.elim
  · have H1 : Fam (World.re u5 t d) a n f := G5.fam h1
    have H2 : Fam (World.re u5 t d) b m g := G5.fam h2
    have HB : (World.re u5 t d).heap[B1]? = some (.cells #[.slice a n ca, .slice b m cb] 24 (0, 0)) := G5.blk hB1
    have HS : u5.heap.size ≤ ((World.re u5 t d)).heap.size := Nat.le_refl _
    generalize World.re u5 t d = v at H1 H2 HB HS
    simp only [bXM, cl, cr, ct, co, Tryd.f3, Option.getD_some]
    have HT1 := Lib.hid ht1
    have HT2 := Lib.hid ht2
    clear ht1 ht2
    obtain ⟨k0, k1, _, _⟩ := cfg_cell HB
    go_wp2_with fail
    refine (toConfig_any H1 H2 HT1.out HT2.out).mono ?_; rintro e w1 ⟨x1, x2, x3, y1, y2, y3, lo, mid, hi, rfl, o1, o2, s1, s2, s3, s4, e1⟩
    have K := cfg_blk w1 #[.slice x1 x2 x3, .slice y1 y2 y3] 28
    have ea := (Ext.refl none w1).alloc (.cells #[.slice x1 x2 x3, .slice y1 y2 y3] 28)
    have r1 := o1.ext0 ea
    have r2 := o2.ext0 ea
    have r3 := e1.trans ea
    go_wp2_with fail
    exact ⟨⟨_, _, _, _, _, _, _, lo, mid, hi, ⟨rfl, rfl, rfl, rfl, rfl⟩, K, r1, r2, s2, s3, s4, Nat.le_trans HS s1⟩, r3⟩
  obtain ⟨xa, xn, xc, ya, yn, yc, B5, lo, mid, hi, hA, hB5, xo, yo, l1, l2, l3, l4⟩ := h
  obtain ⟨T, ds⟩ := A
  obtain ⟨hsz, hds, h_1, h_4, h_5⟩ := hA
  obtain rfl : ds = [] := hds
  try clear hds
  replace hsz : T.size = 69 := hsz
  revert h_1 h_4 h_5
  revert hsz
  revert T
  refine arr69 ?_
  intro e0 e1 e2 e3 e4 e5 e6 e7 e8 e9 e10 e11 e12 e13 e14 e15 e16 e17 e18 e19 e20 e21 e22 e23 e24 e25 e26 e27 e28 e29 e30 e31 e32 e33 e34 e35 e36 e37 e38 e39 e40 e41 e42 e43 e44 e45 e46 e47 e48 e49 e50 e51 e52 e53 e54 e55 e56 e57 e58 e59 e60 e61 e62 e63 e64 e65 e66 e67 e68 h_1 h_4 h_5
  have h_1 : e1 = .pointer (some ⟨B1, 0, none⟩) := h_1
  subst h_1
  have h_4 : e4 = .slice a4 n4 c4 := h_4
  subst h_4
  have h_5 : e5 = .pointer (some ⟨B5, 0, none⟩) := h_5
  subst h_5
  replace G5 : Gx u5 u6 := G5.trans hg
  clear hg
  refine Gw.ctl rfl (fun w => stepG_seq (x := .region 7 rXM6 false) (y := ct 7 bXM)) ?_
  refine Gw.ctl rfl (fun w => stepG_region) ?_
  rw [show List.range rXM6.size = [0, 1, 2] from rfl]
  refine Gw.fop (oo := rXM6.getD 0 default) (v := .agg #[.slice xa xn xc, .slice ya yn yc]) rfl rfl (bkn _) (loadCfg_op (w := u6) (o := rXM6.getD 0 default) (x := .tmp 5) rfl rfl hB5).1 (loadCfg_op (w := u6) (o := rXM6.getD 0 default) (x := .tmp 5) rfl rfl hB5).2 ?_
  refine (?_ : ∀ A : Act, (A.tmps.size = 69 ∧ A.defers = [] ∧ A.tmps.getD 1 undef = .pointer (some ⟨B1, 0, none⟩) ∧ A.tmps.getD 4 undef = .slice a4 n4 c4 ∧ A.tmps.getD 5 undef = .pointer (some ⟨B5, 0, none⟩) ∧ A.tmps.getD 21 undef = .agg #[.slice xa xn xc, .slice ya yn yc]) → Gw _ _ _ _ _ _ (G ((base 3).at A _) _)) _ ⟨rfl, rfl, rfl, rfl, rfl, rfl⟩
  intro A hA
  obtain ⟨T, ds⟩ := A
  obtain ⟨hsz, hds, h_1, h_4, h_5, h_21⟩ := hA
  obtain rfl : ds = [] := hds
  try clear hds
  replace hsz : T.size = 69 := hsz
  revert h_1 h_4 h_5 h_21
  revert hsz
  revert T
  refine arr69 ?_
  intro e0 e1 e2 e3 e4 e5 e6 e7 e8 e9 e10 e11 e12 e13 e14 e15 e16 e17 e18 e19 e20 e21 e22 e23 e24 e25 e26 e27 e28 e29 e30 e31 e32 e33 e34 e35 e36 e37 e38 e39 e40 e41 e42 e43 e44 e45 e46 e47 e48 e49 e50 e51 e52 e53 e54 e55 e56 e57 e58 e59 e60 e61 e62 e63 e64 e65 e66 e67 e68 h_1 h_4 h_5 h_21
  have h_1 : e1 = .pointer (some ⟨B1, 0, none⟩) := h_1
  subst h_1
  have h_4 : e4 = .slice a4 n4 c4 := h_4
  subst h_4
  have h_5 : e5 = .pointer (some ⟨B5, 0, none⟩) := h_5
  subst h_5
  have h_21 : e21 = .agg #[.slice xa xn xc, .slice ya yn yc] := h_21
  subst h_21
  refine Gw.has fun GU => ?_
  have E6 := E0.gx GU
  clear GU
  refine Gw.gcall (oo := rXM6.getD 1 default) (g := 7) (args := #[.tmp 21]) rfl rfl (bkn _) rfl Tryd.func7 nmMb rfl (vals := #[.agg #[.slice xa xn xc, .slice ya yn yc]]) (by simp [Act.eval]) (ConfigMembers_g xo.fam yo.fam E6) fun X4 v u7 hg ⟨a6, n6, c6, hv, k6⟩ => ?_
  subst hv
  refine Gw.mv (oo := rXM6.getD 2 default) rfl (.inr rfl) rfl (bkn _) ?_
  refine Gw.ctl rfl (fun w => stepG_region_end) ?_
  refine (?_ : ∀ A : Act, (A.tmps.size = 69 ∧ A.defers = [] ∧ A.tmps.getD 1 undef = .pointer (some ⟨B1, 0, none⟩) ∧ A.tmps.getD 4 undef = .slice a4 n4 c4 ∧ A.tmps.getD 5 undef = .pointer (some ⟨B5, 0, none⟩) ∧ A.tmps.getD 6 undef = .slice a6 n6 c6) → Gw _ _ _ _ _ _ (G ((base 3).at A _) _)) _ ⟨rfl, rfl, rfl, rfl, rfl, rfl⟩
  intro A hA
  obtain ⟨T, ds⟩ := A
  obtain ⟨hsz, hds, h_1, h_4, h_5, h_6⟩ := hA
  obtain rfl : ds = [] := hds
  try clear hds
  replace hsz : T.size = 69 := hsz
  revert h_1 h_4 h_5 h_6
  revert hsz
  revert T
  refine arr69 ?_
  intro e0 e1 e2 e3 e4 e5 e6 e7 e8 e9 e10 e11 e12 e13 e14 e15 e16 e17 e18 e19 e20 e21 e22 e23 e24 e25 e26 e27 e28 e29 e30 e31 e32 e33 e34 e35 e36 e37 e38 e39 e40 e41 e42 e43 e44 e45 e46 e47 e48 e49 e50 e51 e52 e53 e54 e55 e56 e57 e58 e59 e60 e61 e62 e63 e64 e65 e66 e67 e68 h_1 h_4 h_5 h_6
  have h_1 : e1 = .pointer (some ⟨B1, 0, none⟩) := h_1
  subst h_1
  have h_4 : e4 = .slice a4 n4 c4 := h_4
  subst h_4
  have h_5 : e5 = .pointer (some ⟨B5, 0, none⟩) := h_5
  subst h_5
  have h_6 : e6 = .slice a6 n6 c6 := h_6
  subst h_6
  replace G5 : Gx u5 u7 := G5.trans hg
  replace k6 := k6.mono (Nat.le_of_lt (cfg_lt hB5))
  replace xo := hg.ownG xo
  replace yo := hg.ownG yo
  replace hB5 := hg.blk hB5
  clear hg E6
  have hn6 : n6 ≤ 6 := by rw [← k6.len]; exact cmL_len f g
  refine Gw.ctl rfl (fun w => stepG_seq (x := cl (ct 7 bXM)) (y := (ct 8 bXM))) ?_
  refine Gw.seg CC RR (f := 3) (N := fun a' u' => (a'.tmps.size = 69 ∧ a'.defers = [] ∧ a'.tmps.getD 1 undef = .pointer (some ⟨B1, 0, none⟩) ∧ a'.tmps.getD 4 undef = .slice a4 n4 c4 ∧ a'.tmps.getD 5 undef = .pointer (some ⟨B5, 0, none⟩) ∧ a'.tmps.getD 6 undef = .slice a6 n6 c6)) (Rt := fun a' u' => False) rfl (kn_nil rfl) rfl (by kernel_rfl) (fun _ _ _ _ h => h) (fun _ _ _ _ h => h) (fun t d => ?_) (fun A u8 hg h => ?_) fun _ _ _ _ _ h => h.elim
  · have K6 : Ints (World.re u7 t d) a6 n6 (cmL f g) := k6.ints
    have I4 : Ints (World.re u7 t d) a4 n4 (cmL f g) := G5.ints i4
    generalize World.re u7 t d = v at K6 I4
    simp only [bXM, cl, cr, ct, co, Tryd.f3, Option.getD_some]
    have HE1 := Lib.hid (same_refl (cmL f g))
    go_wp2_with fail
    refine (eqIntS_is K6 I4 HE1.out).mono ?_; rintro e w1 ⟨rfl, d1⟩
    have HE := Lib.hid (d1.ext (r := none))
    clear d1
    go_wp2_with fail
    exact ⟨⟨rfl, rfl, rfl, rfl, rfl, rfl⟩, HE.out⟩
  have hA := h
  clear h
  obtain ⟨T, ds⟩ := A
  obtain ⟨hsz, hds, h_1, h_4, h_5, h_6⟩ := hA
  obtain rfl : ds = [] := hds
  try clear hds
  replace hsz : T.size = 69 := hsz
  revert h_1 h_4 h_5 h_6
  revert hsz
  revert T
  refine arr69 ?_
  intro e0 e1 e2 e3 e4 e5 e6 e7 e8 e9 e10 e11 e12 e13 e14 e15 e16 e17 e18 e19 e20 e21 e22 e23 e24 e25 e26 e27 e28 e29 e30 e31 e32 e33 e34 e35 e36 e37 e38 e39 e40 e41 e42 e43 e44 e45 e46 e47 e48 e49 e50 e51 e52 e53 e54 e55 e56 e57 e58 e59 e60 e61 e62 e63 e64 e65 e66 e67 e68 h_1 h_4 h_5 h_6
  have h_1 : e1 = .pointer (some ⟨B1, 0, none⟩) := h_1
  subst h_1
  have h_4 : e4 = .slice a4 n4 c4 := h_4
  subst h_4
  have h_5 : e5 = .pointer (some ⟨B5, 0, none⟩) := h_5
  subst h_5
  have h_6 : e6 = .slice a6 n6 c6 := h_6
  subst h_6
  replace G5 : Gx u5 u8 := G5.trans hg
  replace xo := hg.ownG xo
  replace yo := hg.ownG yo
  replace hB5 := hg.blk hB5
  replace k6 := hg.ownI k6
  clear hg
  refine Gw.ctl rfl (fun w => stepG_seq (x := cl (ct 8 bXM)) (y := (ct 9 bXM))) ?_
  refine Gw.seg CC RR (f := 3) (N := fun a' u' => (a'.tmps.size = 69 ∧ a'.defers = [] ∧ a'.tmps.getD 1 undef = .pointer (some ⟨B1, 0, none⟩) ∧ a'.tmps.getD 4 undef = .slice a4 n4 c4 ∧ a'.tmps.getD 5 undef = .pointer (some ⟨B5, 0, none⟩) ∧ a'.tmps.getD 6 undef = .slice a6 n6 c6)) (Rt := fun a' u' => False) rfl (kn_nil rfl) rfl (by kernel_rfl) (fun _ _ _ _ h => h) (fun _ _ _ _ h => h) (fun t d => ?_) (fun A u9 hg h => ?_) fun _ _ _ _ _ h => h.elim
  · have H1 : Fam (World.re u8 t d) a n f := G5.fam h1
    have H2 : Fam (World.re u8 t d) b m g := G5.fam h2
    have HB : (World.re u8 t d).heap[B1]? = some (.cells #[.slice a n ca, .slice b m cb] 24 (0, 0)) := G5.blk hB1
    have HB5 : (World.re u8 t d).heap[B5]? = some (.cells #[.slice xa xn xc, .slice ya yn yc] 28 (0, 0)) := hB5
    have HX : Fam (World.re u8 t d) xa xn f := xo.fam
    have HY : Fam (World.re u8 t d) ya yn g := yo.fam
    generalize World.re u8 t d = v at H1 H2 HB HB5 HX HY
    simp only [bXM, cl, cr, ct, co, Tryd.f3, Option.getD_some]
    have HT1 := Lib.hid ht1
    have HT2 := Lib.hid ht2
    clear ht1 ht2
    obtain ⟨k0, k1, _, _⟩ := cfg_cell HB
    obtain ⟨k2, k3, _, _⟩ := cfg_cell HB5
    have hdr := Lib.hid (show Ext none v v.drew from (Ext.refl _ _).drew)
    have F1 := Lib.hid H1
    have F2 := Lib.hid H2
    have X1 := Lib.hid HX
    have X2 := Lib.hid HY
    clear H1 H2 HX HY xo yo hB5 k6 h1 h2 hB1 i4 G5 HB HB5
    go_wp2_with fail
    go_region_held3 (fun w' => w'.cell? ⟨B5, 0, none⟩ = some (.slice xa xn xc) ∧ w'.cell? ⟨B5, 1, none⟩ = some (.slice ya yn yc) ∧ w'.cell? ⟨B1, 0, none⟩ = some (.slice a n ca) ∧ w'.cell? ⟨B1, 1, none⟩ = some (.slice b m cb))
      (first | exact ⟨E9.cell k2, E9.cell k3, E9.cell k0, E9.cell k1⟩ | exact ⟨E8.cell k2, E8.cell k3, E8.cell k0, E8.cell k1⟩ | exact ⟨k2, k3, k0, k1⟩ | go_keep)
      ((first
      | (have E8b := E8; go_simp; go_at_call 9; refine (eqConfig_is (X1.out.ext E8) (X2.out.ext E8) o8a.out o8b.out).mono ?_; rintro e wB ⟨rfl, e9⟩; have E9 := E8.trans e9; clear e9)
      | (go_simp; go_at_call 6; refine (toConfig_any (F1.out.ext hdr.out) (F2.out.ext hdr.out) HT1.out HT2.out).mono ?_; rintro e wA ⟨a8, n8, c8, b8, m8, d8, lo8, mid8, hi8, rfl, o8, o9, _, _, _, _, e8⟩; have o8a := Lib.hid o8.fam; have o8b := Lib.hid o9.fam; have E8 := hdr.out.trans e8; clear e8 o8 o9)))
    all_goals
      go_wp2_with fail
      exact ⟨⟨rfl, rfl, rfl, rfl, rfl, rfl⟩, E9⟩
  have hA := h
  clear h
  obtain ⟨T, ds⟩ := A
  obtain ⟨hsz, hds, h_1, h_4, h_5, h_6⟩ := hA
  obtain rfl : ds = [] := hds
  try clear hds
  replace hsz : T.size = 69 := hsz
  revert h_1 h_4 h_5 h_6
  revert hsz
  revert T
  refine arr69 ?_
  intro e0 e1 e2 e3 e4 e5 e6 e7 e8 e9 e10 e11 e12 e13 e14 e15 e16 e17 e18 e19 e20 e21 e22 e23 e24 e25 e26 e27 e28 e29 e30 e31 e32 e33 e34 e35 e36 e37 e38 e39 e40 e41 e42 e43 e44 e45 e46 e47 e48 e49 e50 e51 e52 e53 e54 e55 e56 e57 e58 e59 e60 e61 e62 e63 e64 e65 e66 e67 e68 h_1 h_4 h_5 h_6
  have h_1 : e1 = .pointer (some ⟨B1, 0, none⟩) := h_1
  subst h_1
  have h_4 : e4 = .slice a4 n4 c4 := h_4
  subst h_4
  have h_5 : e5 = .pointer (some ⟨B5, 0, none⟩) := h_5
  subst h_5
  have h_6 : e6 = .slice a6 n6 c6 := h_6
  subst h_6
  replace G5 : Gx u5 u9 := G5.trans hg
  replace xo := hg.ownG xo
  replace yo := hg.ownG yo
  replace hB5 := hg.blk hB5
  replace k6 := hg.ownI k6
  clear hg
  refine Gw.ctl rfl (fun w => stepG_seq (x := cl (ct 9 bXM)) (y := (ct 10 bXM))) ?_
  refine Gw.seg CC RR (f := 3) (N := fun a' u' => (a'.tmps.size = 69 ∧ a'.defers = [] ∧ a'.tmps.getD 1 undef = .pointer (some ⟨B1, 0, none⟩) ∧ a'.tmps.getD 4 undef = .slice a4 n4 c4 ∧ a'.tmps.getD 5 undef = .pointer (some ⟨B5, 0, none⟩) ∧ a'.tmps.getD 6 undef = .slice a6 n6 c6 ∧ a'.tmps.getD 7 undef = .int .i64 1)) (Rt := fun a' u' => False) rfl (kn_nil rfl) rfl (by kernel_rfl) (fun _ _ _ _ h => h) (fun _ _ _ _ h => h) (fun t d => ?_) (fun A u10 hg h => ?_) fun _ _ _ _ _ h => h.elim
  · generalize World.re u9 t d = v
    simp only [bXM, cl, cr, ct, co, Tryd.f3, Option.getD_some]
    go_wp2_with fail
    exact ⟨⟨rfl, rfl, rfl, rfl, rfl, rfl, rfl⟩, Ext.refl _ _⟩
  have hA := h
  clear h
  obtain ⟨T, ds⟩ := A
  obtain ⟨hsz, hds, h_1, h_4, h_5, h_6, h_7⟩ := hA
  obtain rfl : ds = [] := hds
  try clear hds
  replace hsz : T.size = 69 := hsz
  revert h_1 h_4 h_5 h_6 h_7
  revert hsz
  revert T
  refine arr69 ?_
  intro e0 e1 e2 e3 e4 e5 e6 e7 e8 e9 e10 e11 e12 e13 e14 e15 e16 e17 e18 e19 e20 e21 e22 e23 e24 e25 e26 e27 e28 e29 e30 e31 e32 e33 e34 e35 e36 e37 e38 e39 e40 e41 e42 e43 e44 e45 e46 e47 e48 e49 e50 e51 e52 e53 e54 e55 e56 e57 e58 e59 e60 e61 e62 e63 e64 e65 e66 e67 e68 h_1 h_4 h_5 h_6 h_7
  have h_1 : e1 = .pointer (some ⟨B1, 0, none⟩) := h_1
  subst h_1
  have h_4 : e4 = .slice a4 n4 c4 := h_4
  subst h_4
  have h_5 : e5 = .pointer (some ⟨B5, 0, none⟩) := h_5
  subst h_5
  have h_6 : e6 = .slice a6 n6 c6 := h_6
  subst h_6
  have h_7 : e7 = .int .i64 1 := h_7
  subst h_7
  replace G5 : Gx u5 u10 := G5.trans hg
  replace xo := hg.ownG xo
  replace yo := hg.ownG yo
  replace hB5 := hg.blk hB5
  replace k6 := hg.ownI k6
  clear hg
  refine Gw.ctl rfl (fun w => stepG_seq (x := cl (ct 10 bXM)) (y := (ct 11 bXM))) ?_
  refine Gw.segG CC RR (f := 3) (N := fun a' u' => ∃ z, (a'.tmps.size = 69 ∧ a'.defers = [] ∧ a'.tmps.getD 1 undef = .pointer (some ⟨B1, 0, none⟩) ∧ a'.tmps.getD 4 undef = .slice a4 n4 c4 ∧ a'.tmps.getD 6 undef = .slice a6 n6 c6 ∧ a'.tmps.getD 7 undef = .int .i64 z) ∧ Zok2 z ∧ Gx u5 u' ∧ OwnI u' B5 a6 n6 c6 (cmL f g)) (Rt := fun a' u' => False) rfl (kn_nil rfl) rfl (by kernel_rfl) (fun _ _ _ _ ⟨z, h1, hz, hg, r⟩ => ⟨z, h1, hz, hg.re _ _, r⟩) (fun _ _ _ _ h => h) (fun t d GU => ?_) (fun A u11 h => ?_) fun _ _ _ _ h => h.elim
  · have HG : Gx u5 (World.re u10 t d) := G5.re _ _
    have HX : OwnG (World.re u10 t d) lo mid xa xn xc f := xo
    have HY : OwnG (World.re u10 t d) mid hi ya yn yc g := yo
    have O6 : OwnI (World.re u10 t d) B5 a6 n6 c6 (cmL f g) := k6
    have HB5 : (World.re u10 t d).heap[B5]? = some (.cells #[.slice xa xn xc, .slice ya yn yc] 28 (0, 0)) := hB5
    generalize World.re u10 t d = v at GU HG HX HY O6 HB5
    simp only [bXM, cl, cr, ct, co, Tryd.f3, Option.getD_some]
    have HT1 := Lib.hid ht1
    have HT2 := Lib.hid ht2
    clear ht1 ht2
    obtain ⟨k0, k1, _, _⟩ := cfg_cell HB5
    go_wp2_with fail
    refine (markConfig_to HX HY l1 l2 (Nat.le_trans l3 (Nat.le_of_lt (cfg_lt HB5))) HT1.out HT2.out).mono ?_; rintro e w1 ⟨⟨z, hz0, hz1, rfl⟩, cm⟩
    have r1 := HG.of_chg cm l4
    have r2 := O6.chg cm l3
    have r3 := GU.of_chg cm (Nat.le_trans lu l4)
    have hz : Zok2 z := ⟨hz0, hz1⟩
    clear cm
    go_wp2_with fail
    exact ⟨⟨_, ⟨rfl, rfl, rfl, rfl, rfl, rfl⟩, hz, r1, r2⟩, r3⟩
  clear xo yo k6 G5 hB5
  obtain ⟨z, hA, zh, G5, k6⟩ := h
  obtain ⟨T, ds⟩ := A
  obtain ⟨hsz, hds, h_1, h_4, h_6, h_7⟩ := hA
  obtain rfl : ds = [] := hds
  try clear hds
  replace hsz : T.size = 69 := hsz
  revert h_1 h_4 h_6 h_7
  revert hsz
  revert T
  refine arr69 ?_
  intro e0 e1 e2 e3 e4 e5 e6 e7 e8 e9 e10 e11 e12 e13 e14 e15 e16 e17 e18 e19 e20 e21 e22 e23 e24 e25 e26 e27 e28 e29 e30 e31 e32 e33 e34 e35 e36 e37 e38 e39 e40 e41 e42 e43 e44 e45 e46 e47 e48 e49 e50 e51 e52 e53 e54 e55 e56 e57 e58 e59 e60 e61 e62 e63 e64 e65 e66 e67 e68 h_1 h_4 h_6 h_7
  have h_1 : e1 = .pointer (some ⟨B1, 0, none⟩) := h_1
  subst h_1
  have h_4 : e4 = .slice a4 n4 c4 := h_4
  subst h_4
  have h_6 : e6 = .slice a6 n6 c6 := h_6
  subst h_6
  have h_7 : e7 = .int .i64 z := h_7
  subst h_7
  have l5 : u5.heap.size ≤ B5 := Nat.le_trans l4 (Nat.le_trans l1 (Nat.le_trans l2 l3))
  refine Gw.ctl rfl (fun w => stepG_seq (x := cl (ct 11 bXM)) (y := (ct 12 bXM))) ?_
  refine Gw.seg CC RR (f := 3) (N := fun a' u' => (a'.tmps.size = 69 ∧ a'.defers = [] ∧ a'.tmps.getD 1 undef = .pointer (some ⟨B1, 0, none⟩) ∧ a'.tmps.getD 4 undef = .slice a4 n4 c4 ∧ a'.tmps.getD 6 undef = .slice a6 n6 c6)) (Rt := fun a' u' => False) rfl (kn_nil rfl) rfl (by kernel_rfl) (fun _ _ _ _ h => h) (fun _ _ _ _ h => h) (fun t d => ?_) (fun A u12 hg h => ?_) fun _ _ _ _ _ h => h.elim
  · have K6 : Ints (World.re u11 t d) a6 n6 (cmL f g) := k6.ints
    have I4 : Ints (World.re u11 t d) a4 n4 (cmL f g) := G5.ints i4
    generalize World.re u11 t d = v at K6 I4
    simp only [bXM, cl, cr, ct, co, Tryd.f3, Option.getD_some]
    have hz := zh
    unfold Zok2 at hz
    obtain ⟨hz0, _⟩ := hz
    have hzn : ¬ (z < 0) := by omega
    clear zh
    have HE1 := Lib.hid (same_refl (cmL f g))
    go_wp2_with fail
    refine (eqIntS_is K6 I4 HE1.out).mono ?_; rintro e w1 ⟨rfl, d1⟩
    have HE := Lib.hid (d1.ext (r := none))
    clear d1
    go_wp2_with fail
    exact ⟨⟨rfl, rfl, rfl, rfl, rfl⟩, HE.out⟩
  have hA := h
  clear h
  obtain ⟨T, ds⟩ := A
  obtain ⟨hsz, hds, h_1, h_4, h_6⟩ := hA
  obtain rfl : ds = [] := hds
  try clear hds
  replace hsz : T.size = 69 := hsz
  revert h_1 h_4 h_6
  revert hsz
  revert T
  refine arr69 ?_
  intro e0 e1 e2 e3 e4 e5 e6 e7 e8 e9 e10 e11 e12 e13 e14 e15 e16 e17 e18 e19 e20 e21 e22 e23 e24 e25 e26 e27 e28 e29 e30 e31 e32 e33 e34 e35 e36 e37 e38 e39 e40 e41 e42 e43 e44 e45 e46 e47 e48 e49 e50 e51 e52 e53 e54 e55 e56 e57 e58 e59 e60 e61 e62 e63 e64 e65 e66 e67 e68 h_1 h_4 h_6
  have h_1 : e1 = .pointer (some ⟨B1, 0, none⟩) := h_1
  subst h_1
  have h_4 : e4 = .slice a4 n4 c4 := h_4
  subst h_4
  have h_6 : e6 = .slice a6 n6 c6 := h_6
  subst h_6
  replace G5 : Gx u5 u12 := G5.trans hg
  replace k6 := hg.ownI k6
  clear hg
  clear zh
  refine Gw.ctl rfl (fun w => stepG_seq (x := cl (ct 12 bXM)) (y := (ct 13 bXM))) ?_
  refine Gw.seg CC RR (f := 3) (N := fun a' u' => (a'.tmps.size = 69 ∧ a'.defers = [] ∧ a'.tmps.getD 1 undef = .pointer (some ⟨B1, 0, none⟩) ∧ a'.tmps.getD 4 undef = .slice a4 n4 c4 ∧ a'.tmps.getD 6 undef = .slice a6 n6 c6 ∧ a'.tmps.getD 8 undef = .int .i64 1)) (Rt := fun a' u' => False) rfl (kn_nil rfl) rfl (by kernel_rfl) (fun _ _ _ _ h => h) (fun _ _ _ _ h => h) (fun t d => ?_) (fun A u13 hg h => ?_) fun _ _ _ _ _ h => h.elim
  · generalize World.re u12 t d = v
    simp only [bXM, cl, cr, ct, co, Tryd.f3, Option.getD_some]
    go_wp2_with fail
    exact ⟨⟨rfl, rfl, rfl, rfl, rfl, rfl⟩, Ext.refl _ _⟩
  have hA := h
  clear h
  obtain ⟨T, ds⟩ := A
  obtain ⟨hsz, hds, h_1, h_4, h_6, h_8⟩ := hA
  obtain rfl : ds = [] := hds
  try clear hds
  replace hsz : T.size = 69 := hsz
  revert h_1 h_4 h_6 h_8
  revert hsz
  revert T
  refine arr69 ?_
  intro e0 e1 e2 e3 e4 e5 e6 e7 e8 e9 e10 e11 e12 e13 e14 e15 e16 e17 e18 e19 e20 e21 e22 e23 e24 e25 e26 e27 e28 e29 e30 e31 e32 e33 e34 e35 e36 e37 e38 e39 e40 e41 e42 e43 e44 e45 e46 e47 e48 e49 e50 e51 e52 e53 e54 e55 e56 e57 e58 e59 e60 e61 e62 e63 e64 e65 e66 e67 e68 h_1 h_4 h_6 h_8
  have h_1 : e1 = .pointer (some ⟨B1, 0, none⟩) := h_1
  subst h_1
  have h_4 : e4 = .slice a4 n4 c4 := h_4
  subst h_4
  have h_6 : e6 = .slice a6 n6 c6 := h_6
  subst h_6
  have h_8 : e8 = .int .i64 1 := h_8
  subst h_8
  replace G5 : Gx u5 u13 := G5.trans hg
  replace k6 := hg.ownI k6
  clear hg
  refine Gw.ctl rfl (fun w => stepG_seq (x := cl (ct 13 bXM)) (y := (ct 14 bXM))) ?_
  refine Gw.segG CC RR (f := 3) (N := fun a' u' => (a'.tmps.size = 69 ∧ a'.defers = [] ∧ a'.tmps.getD 1 undef = .pointer (some ⟨B1, 0, none⟩) ∧ a'.tmps.getD 4 undef = .slice a4 n4 c4 ∧ a'.tmps.getD 6 undef = .slice a6 n6 c6 ∧ a'.tmps.getD 8 undef = .int .i64 (1 + (n6 : Int))) ∧ Gx u5 u' ∧ Ints u' a6 n6 (seqI 1 n6)) (Rt := fun a' u' => False) rfl (kn_nil rfl) rfl (by kernel_rfl) (fun _ _ _ _ ⟨h1, hg, r⟩ => ⟨h1, hg.re _ _, r⟩) (fun _ _ _ _ h => h) (fun t d GU => ?_) (fun A u14 h => ?_) fun _ _ _ _ h => h.elim
  · have HG : Gx u5 (World.re u13 t d) := G5.re _ _
    have O6 : OwnI (World.re u13 t d) B5 a6 n6 c6 (cmL f g) := k6
    generalize World.re u13 t d = v at GU HG O6
    simp only [bXM, cl, cr, ct, co, Tryd.f3, Option.getD_some]
    go_wp2_with fail
    refine (markIntS_any O6 (by omega) (by omega) (by omega)).mono ?_; rintro e w1 ⟨rfl, om, gm⟩
    have hlo : ∀ k, (Value.slice a6 n6 c6).ownBlock = some k → B5 ≤ k := fun k hk => (World.ownsRow.lt O6 k hk).1
    have r1 := HG.of_grown gm fun k hk => Nat.le_trans l5 (hlo k hk)
    have r5 := GU.of_grown gm fun k hk => Nat.le_trans lu (Nat.le_trans l5 (hlo k hk))
    clear gm hlo
    go_wp2_with fail
    exact ⟨⟨⟨rfl, rfl, rfl, rfl, rfl, rfl⟩, r1, om.ints⟩, r5⟩
  clear k6 G5
  obtain ⟨hA, G5, k6⟩ := h
  obtain ⟨T, ds⟩ := A
  obtain ⟨hsz, hds, h_1, h_4, h_6, h_8⟩ := hA
  obtain rfl : ds = [] := hds
  try clear hds
  replace hsz : T.size = 69 := hsz
  revert h_1 h_4 h_6 h_8
  revert hsz
  revert T
  refine arr69 ?_
  intro e0 e1 e2 e3 e4 e5 e6 e7 e8 e9 e10 e11 e12 e13 e14 e15 e16 e17 e18 e19 e20 e21 e22 e23 e24 e25 e26 e27 e28 e29 e30 e31 e32 e33 e34 e35 e36 e37 e38 e39 e40 e41 e42 e43 e44 e45 e46 e47 e48 e49 e50 e51 e52 e53 e54 e55 e56 e57 e58 e59 e60 e61 e62 e63 e64 e65 e66 e67 e68 h_1 h_4 h_6 h_8
  have h_1 : e1 = .pointer (some ⟨B1, 0, none⟩) := h_1
  subst h_1
  have h_4 : e4 = .slice a4 n4 c4 := h_4
  subst h_4
  have h_6 : e6 = .slice a6 n6 c6 := h_6
  subst h_6
  have h_8 : e8 = .int .i64 (1 + (n6 : Int)) := h_8
  subst h_8
  refine Gw.ctl rfl (fun w => stepG_seq (x := cl (ct 14 bXM)) (y := (ct 15 bXM))) ?_
  refine Gw.seg CC RR (f := 3) (N := fun a' u' => (a'.tmps.size = 69 ∧ a'.defers = [] ∧ a'.tmps.getD 1 undef = .pointer (some ⟨B1, 0, none⟩) ∧ a'.tmps.getD 4 undef = .slice a4 n4 c4 ∧ a'.tmps.getD 6 undef = .slice a6 n6 c6 ∧ a'.tmps.getD 8 undef = .int .i64 (1 + (n6 : Int)) ∧ a'.tmps.getD 9 undef = .int .i64 1)) (Rt := fun a' u' => False) rfl (kn_nil rfl) rfl (by kernel_rfl) (fun _ _ _ _ h => h) (fun _ _ _ _ h => h) (fun t d => ?_) (fun A u15 hg h => ?_) fun _ _ _ _ _ h => h.elim
  · generalize World.re u14 t d = v
    simp only [bXM, cl, cr, ct, co, Tryd.f3, Option.getD_some]
    go_wp2_with fail
    exact ⟨⟨rfl, rfl, rfl, rfl, rfl, rfl, rfl⟩, Ext.refl _ _⟩
  have hA := h
  clear h
  obtain ⟨T, ds⟩ := A
  obtain ⟨hsz, hds, h_1, h_4, h_6, h_8, h_9⟩ := hA
  obtain rfl : ds = [] := hds
  try clear hds
  replace hsz : T.size = 69 := hsz
  revert h_1 h_4 h_6 h_8 h_9
  revert hsz
  revert T
  refine arr69 ?_
  intro e0 e1 e2 e3 e4 e5 e6 e7 e8 e9 e10 e11 e12 e13 e14 e15 e16 e17 e18 e19 e20 e21 e22 e23 e24 e25 e26 e27 e28 e29 e30 e31 e32 e33 e34 e35 e36 e37 e38 e39 e40 e41 e42 e43 e44 e45 e46 e47 e48 e49 e50 e51 e52 e53 e54 e55 e56 e57 e58 e59 e60 e61 e62 e63 e64 e65 e66 e67 e68 h_1 h_4 h_6 h_8 h_9
  have h_1 : e1 = .pointer (some ⟨B1, 0, none⟩) := h_1
  subst h_1
  have h_4 : e4 = .slice a4 n4 c4 := h_4
  subst h_4
  have h_6 : e6 = .slice a6 n6 c6 := h_6
  subst h_6
  have h_8 : e8 = .int .i64 (1 + (n6 : Int)) := h_8
  subst h_8
  have h_9 : e9 = .int .i64 1 := h_9
  subst h_9
  replace G5 : Gx u5 u15 := G5.trans hg
  replace k6 : Ints u15 a6 n6 (seqI 1 n6) := hg.ints k6
  clear hg
  refine Gw.ctl rfl (fun w => stepG_seq (x := cl (ct 15 bXM)) (y := (ct 16 bXM))) ?_
  refine Gw.seg CC RR (f := 3) (N := fun a' u' => (a'.tmps.size = 69 ∧ a'.defers = [] ∧ a'.tmps.getD 1 undef = .pointer (some ⟨B1, 0, none⟩) ∧ a'.tmps.getD 4 undef = .slice a4 n4 c4 ∧ a'.tmps.getD 6 undef = .slice a6 n6 c6 ∧ a'.tmps.getD 8 undef = .int .i64 (1 + (n6 : Int)) ∧ a'.tmps.getD 9 undef = .int .i64 (1 + (n6 : Int)))) (Rt := fun a' u' => False) rfl (kn_nil rfl) rfl (by kernel_rfl) (fun _ _ _ _ h => h) (fun _ _ _ _ h => h) (fun t d => ?_) (fun A u16 hg h => ?_) fun _ _ _ _ _ h => h.elim
  · have S6 : Ints (World.re u15 t d) a6 n6 (seqI 1 n6) := k6
    generalize World.re u15 t d = v at S6
    simp only [bXM, cl, cr, ct, co, Tryd.f3, Option.getD_some]
    go_wp2_with fail
    refine (heldIntS_any S6 (by omega) (by omega) (by omega)).mono ?_; rintro e w1 ⟨rfl, rfl⟩
    go_wp2_with fail
    exact ⟨⟨rfl, rfl, rfl, rfl, rfl, rfl, rfl⟩, Ext.refl _ _⟩
  have hA := h
  clear h
  obtain ⟨T, ds⟩ := A
  obtain ⟨hsz, hds, h_1, h_4, h_6, h_8, h_9⟩ := hA
  obtain rfl : ds = [] := hds
  try clear hds
  replace hsz : T.size = 69 := hsz
  revert h_1 h_4 h_6 h_8 h_9
  revert hsz
  revert T
  refine arr69 ?_
  intro e0 e1 e2 e3 e4 e5 e6 e7 e8 e9 e10 e11 e12 e13 e14 e15 e16 e17 e18 e19 e20 e21 e22 e23 e24 e25 e26 e27 e28 e29 e30 e31 e32 e33 e34 e35 e36 e37 e38 e39 e40 e41 e42 e43 e44 e45 e46 e47 e48 e49 e50 e51 e52 e53 e54 e55 e56 e57 e58 e59 e60 e61 e62 e63 e64 e65 e66 e67 e68 h_1 h_4 h_6 h_8 h_9
  have h_1 : e1 = .pointer (some ⟨B1, 0, none⟩) := h_1
  subst h_1
  have h_4 : e4 = .slice a4 n4 c4 := h_4
  subst h_4
  have h_6 : e6 = .slice a6 n6 c6 := h_6
  subst h_6
  have h_8 : e8 = .int .i64 (1 + (n6 : Int)) := h_8
  subst h_8
  have h_9 : e9 = .int .i64 (1 + (n6 : Int)) := h_9
  subst h_9
  replace G5 : Gx u5 u16 := G5.trans hg
  replace k6 : Ints u16 a6 n6 (seqI 1 n6) := hg.ints k6
  clear hg
  refine Gw.ctl rfl (fun w => stepG_seq (x := cl (ct 16 bXM)) (y := (ct 17 bXM))) ?_
  refine Gw.seg CC RR (f := 3) (N := fun a' u' => (a'.tmps.size = 69 ∧ a'.defers = [] ∧ a'.tmps.getD 1 undef = .pointer (some ⟨B1, 0, none⟩) ∧ a'.tmps.getD 4 undef = .slice a4 n4 c4 ∧ a'.tmps.getD 6 undef = .slice a6 n6 c6 ∧ a'.tmps.getD 8 undef = .int .i64 (1 + (n6 : Int)) ∧ a'.tmps.getD 9 undef = .int .i64 (1 + (n6 : Int)))) (Rt := fun a' u' => False) rfl (kn_nil rfl) rfl (by kernel_rfl) (fun _ _ _ _ h => h) (fun _ _ _ _ h => h) (fun t d => ?_) (fun A u17 hg h => ?_) fun _ _ _ _ _ h => h.elim
  · generalize World.re u16 t d = v
    simp only [bXM, cl, cr, ct, co, Tryd.f3, Option.getD_some]
    have hq1 : ¬ ((1 + (n6 : Int)) < 0) := by omega
    go_wp2_with fail
    exact ⟨⟨rfl, rfl, rfl, rfl, rfl, rfl, rfl⟩, Ext.refl _ _⟩
  have hA := h
  clear h
  obtain ⟨T, ds⟩ := A
  obtain ⟨hsz, hds, h_1, h_4, h_6, h_8, h_9⟩ := hA
  obtain rfl : ds = [] := hds
  try clear hds
  replace hsz : T.size = 69 := hsz
  revert h_1 h_4 h_6 h_8 h_9
  revert hsz
  revert T
  refine arr69 ?_
  intro e0 e1 e2 e3 e4 e5 e6 e7 e8 e9 e10 e11 e12 e13 e14 e15 e16 e17 e18 e19 e20 e21 e22 e23 e24 e25 e26 e27 e28 e29 e30 e31 e32 e33 e34 e35 e36 e37 e38 e39 e40 e41 e42 e43 e44 e45 e46 e47 e48 e49 e50 e51 e52 e53 e54 e55 e56 e57 e58 e59 e60 e61 e62 e63 e64 e65 e66 e67 e68 h_1 h_4 h_6 h_8 h_9
  have h_1 : e1 = .pointer (some ⟨B1, 0, none⟩) := h_1
  subst h_1
  have h_4 : e4 = .slice a4 n4 c4 := h_4
  subst h_4
  have h_6 : e6 = .slice a6 n6 c6 := h_6
  subst h_6
  have h_8 : e8 = .int .i64 (1 + (n6 : Int)) := h_8
  subst h_8
  have h_9 : e9 = .int .i64 (1 + (n6 : Int)) := h_9
  subst h_9
  replace G5 : Gx u5 u17 := G5.trans hg
  replace k6 : Ints u17 a6 n6 (seqI 1 n6) := hg.ints k6
  clear hg
  refine Gw.ctl rfl (fun w => stepG_seq (x := cl (ct 17 bXM)) (y := (ct 18 bXM))) ?_
  refine Gw.seg CC RR (f := 3) (N := fun a' u' => (a'.tmps.size = 69 ∧ a'.defers = [] ∧ a'.tmps.getD 1 undef = .pointer (some ⟨B1, 0, none⟩) ∧ a'.tmps.getD 4 undef = .slice a4 n4 c4 ∧ a'.tmps.getD 6 undef = .slice a6 n6 c6 ∧ a'.tmps.getD 8 undef = .int .i64 (1 + (n6 : Int)))) (Rt := fun a' u' => False) rfl (kn_nil rfl) rfl (by kernel_rfl) (fun _ _ _ _ h => h) (fun _ _ _ _ h => h) (fun t d => ?_) (fun A u18 hg h => ?_) fun _ _ _ _ _ h => h.elim
  · generalize World.re u17 t d = v
    simp only [bXM, cl, cr, ct, co, Tryd.f3, Option.getD_some]
    go_wp2_with fail
    exact ⟨⟨rfl, rfl, rfl, rfl, rfl, rfl⟩, Ext.refl _ _⟩
  have hA := h
  clear h
  obtain ⟨T, ds⟩ := A
  obtain ⟨hsz, hds, h_1, h_4, h_6, h_8⟩ := hA
  obtain rfl : ds = [] := hds
  try clear hds
  replace hsz : T.size = 69 := hsz
  revert h_1 h_4 h_6 h_8
  revert hsz
  revert T
  refine arr69 ?_
  intro e0 e1 e2 e3 e4 e5 e6 e7 e8 e9 e10 e11 e12 e13 e14 e15 e16 e17 e18 e19 e20 e21 e22 e23 e24 e25 e26 e27 e28 e29 e30 e31 e32 e33 e34 e35 e36 e37 e38 e39 e40 e41 e42 e43 e44 e45 e46 e47 e48 e49 e50 e51 e52 e53 e54 e55 e56 e57 e58 e59 e60 e61 e62 e63 e64 e65 e66 e67 e68 h_1 h_4 h_6 h_8
  have h_1 : e1 = .pointer (some ⟨B1, 0, none⟩) := h_1
  subst h_1
  have h_4 : e4 = .slice a4 n4 c4 := h_4
  subst h_4
  have h_6 : e6 = .slice a6 n6 c6 := h_6
  subst h_6
  have h_8 : e8 = .int .i64 (1 + (n6 : Int)) := h_8
  subst h_8
  replace G5 : Gx u5 u18 := G5.trans hg
  replace k6 : Ints u18 a6 n6 (seqI 1 n6) := hg.ints k6
  clear hg
  refine Gw.ctl rfl (fun w => stepG_seq (x := .region 24 rXM18 false) (y := ct 19 bXM)) ?_
  refine Gw.ctl rfl (fun w => stepG_region) ?_
  rw [show List.range rXM18.size = [0, 1, 2, 3] from rfl]
  have hB1b := G5.blk hB1
  refine Gw.fop (oo := rXM18.getD 0 default) (v := .agg #[.slice a n ca, .slice b m cb]) rfl rfl (bkn _) (loadLaw_op (w := u18) (o := rXM18.getD 0 default) (x := .tmp 1) rfl rfl hB1b).1 (loadLaw_op (w := u18) (o := rXM18.getD 0 default) (x := .tmp 1) rfl rfl hB1b).2 ?_
  clear hB1b
  refine (?_ : ∀ A : Act, (A.tmps.size = 69 ∧ A.defers = [] ∧ A.tmps.getD 1 undef = .pointer (some ⟨B1, 0, none⟩) ∧ A.tmps.getD 4 undef = .slice a4 n4 c4 ∧ A.tmps.getD 6 undef = .slice a6 n6 c6 ∧ A.tmps.getD 8 undef = .int .i64 (1 + (n6 : Int)) ∧ A.tmps.getD 54 undef = .agg #[.slice a n ca, .slice b m cb]) → Gw _ _ _ _ _ _ (G ((base 3).at A _) _)) _ ⟨rfl, rfl, rfl, rfl, rfl, rfl, rfl⟩
  intro A hA
  obtain ⟨T, ds⟩ := A
  obtain ⟨hsz, hds, h_1, h_4, h_6, h_8, h_54⟩ := hA
  obtain rfl : ds = [] := hds
  try clear hds
  replace hsz : T.size = 69 := hsz
  revert h_1 h_4 h_6 h_8 h_54
  revert hsz
  revert T
  refine arr69 ?_
  intro e0 e1 e2 e3 e4 e5 e6 e7 e8 e9 e10 e11 e12 e13 e14 e15 e16 e17 e18 e19 e20 e21 e22 e23 e24 e25 e26 e27 e28 e29 e30 e31 e32 e33 e34 e35 e36 e37 e38 e39 e40 e41 e42 e43 e44 e45 e46 e47 e48 e49 e50 e51 e52 e53 e54 e55 e56 e57 e58 e59 e60 e61 e62 e63 e64 e65 e66 e67 e68 h_1 h_4 h_6 h_8 h_54
  have h_1 : e1 = .pointer (some ⟨B1, 0, none⟩) := h_1
  subst h_1
  have h_4 : e4 = .slice a4 n4 c4 := h_4
  subst h_4
  have h_6 : e6 = .slice a6 n6 c6 := h_6
  subst h_6
  have h_8 : e8 = .int .i64 (1 + (n6 : Int)) := h_8
  subst h_8
  have h_54 : e54 = .agg #[.slice a n ca, .slice b m cb] := h_54
  subst h_54
  refine Gw.scall CC RR (oo := rXM18.getD 1 default) (g := 6) (args := #[.tmp 54]) rfl rfl (bkn _) rfl rfl (vals := #[.agg #[.slice a n ca, .slice b m cb]]) (by simp [Act.eval]) (kna_nil rfl) (Post := fun v u' => ∃ x1 x2 x3 y1 y2 y3, v = .agg #[.slice x1 x2 x3, .slice y1 y2 y3] ∧ Fam u' x1 x2 f ∧ Fam u' y1 y2 g) (fun _ _ _ _ h => h) (fun t d => ?_) fun v u19 hg ⟨x1, x2, x3, y1, y2, y3, hv, xf, yf⟩ => ?_
  · have H1 : Fam (World.re u18 t d) a n f := G5.fam h1
    have H2 : Fam (World.re u18 t d) b m g := G5.fam h2
    exact (toConfig_any H1 H2 ht1 ht2).mono fun e w1 ⟨z1, z2, z3, z4, z5, z6, lo, mid, hi, he, o1, o2, _, _, _, _, e1⟩ => ⟨_, he, ⟨z1, z2, z3, z4, z5, z6, rfl, o1.fam, o2.fam⟩, e1⟩
  subst hv
  refine (?_ : ∀ A : Act, (A.tmps.size = 69 ∧ A.defers = [] ∧ A.tmps.getD 1 undef = .pointer (some ⟨B1, 0, none⟩) ∧ A.tmps.getD 4 undef = .slice a4 n4 c4 ∧ A.tmps.getD 6 undef = .slice a6 n6 c6 ∧ A.tmps.getD 8 undef = .int .i64 (1 + (n6 : Int)) ∧ A.tmps.getD 55 undef = .agg #[.slice x1 x2 x3, .slice y1 y2 y3]) → Gw _ _ _ _ _ _ (G ((base 3).at A _) _)) _ ⟨rfl, rfl, rfl, rfl, rfl, rfl, rfl⟩
  intro A hA
  obtain ⟨T, ds⟩ := A
  obtain ⟨hsz, hds, h_1, h_4, h_6, h_8, h_55⟩ := hA
  obtain rfl : ds = [] := hds
  try clear hds
  replace hsz : T.size = 69 := hsz
  revert h_1 h_4 h_6 h_8 h_55
  revert hsz
  revert T
  refine arr69 ?_
  intro e0 e1 e2 e3 e4 e5 e6 e7 e8 e9 e10 e11 e12 e13 e14 e15 e16 e17 e18 e19 e20 e21 e22 e23 e24 e25 e26 e27 e28 e29 e30 e31 e32 e33 e34 e35 e36 e37 e38 e39 e40 e41 e42 e43 e44 e45 e46 e47 e48 e49 e50 e51 e52 e53 e54 e55 e56 e57 e58 e59 e60 e61 e62 e63 e64 e65 e66 e67 e68 h_1 h_4 h_6 h_8 h_55
  have h_1 : e1 = .pointer (some ⟨B1, 0, none⟩) := h_1
  subst h_1
  have h_4 : e4 = .slice a4 n4 c4 := h_4
  subst h_4
  have h_6 : e6 = .slice a6 n6 c6 := h_6
  subst h_6
  have h_8 : e8 = .int .i64 (1 + (n6 : Int)) := h_8
  subst h_8
  have h_55 : e55 = .agg #[.slice x1 x2 x3, .slice y1 y2 y3] := h_55
  subst h_55
  replace G5 : Gx u5 u19 := G5.trans hg
  replace k6 : Ints u19 a6 n6 (seqI 1 n6) := hg.ints k6
  clear hg
  refine Gw.has fun GU => ?_
  have E6 := E0.gx GU
  clear GU
  refine Gw.gcall (oo := rXM18.getD 2 default) (g := 7) (args := #[.tmp 55]) rfl rfl (bkn _) rfl Tryd.func7 nmMb rfl (vals := #[.agg #[.slice x1 x2 x3, .slice y1 y2 y3]]) (by simp [Act.eval]) (ConfigMembers_g xf yf E6) fun X5 v u20 hg ⟨a10, n10, c10, hv, j10⟩ => ?_
  subst hv
  refine Gw.mv (oo := rXM18.getD 3 default) rfl (.inr rfl) rfl (bkn _) ?_
  refine Gw.ctl rfl (fun w => stepG_region_end) ?_
  refine (?_ : ∀ A : Act, (A.tmps.size = 69 ∧ A.defers = [] ∧ A.tmps.getD 1 undef = .pointer (some ⟨B1, 0, none⟩) ∧ A.tmps.getD 4 undef = .slice a4 n4 c4 ∧ A.tmps.getD 6 undef = .slice a6 n6 c6 ∧ A.tmps.getD 8 undef = .int .i64 (1 + (n6 : Int)) ∧ A.tmps.getD 10 undef = .slice a10 n10 c10) → Gw _ _ _ _ _ _ (G ((base 3).at A _) _)) _ ⟨rfl, rfl, rfl, rfl, rfl, rfl, rfl⟩
  intro A hA
  obtain ⟨T, ds⟩ := A
  obtain ⟨hsz, hds, h_1, h_4, h_6, h_8, h_10⟩ := hA
  obtain rfl : ds = [] := hds
  try clear hds
  replace hsz : T.size = 69 := hsz
  revert h_1 h_4 h_6 h_8 h_10
  revert hsz
  revert T
  refine arr69 ?_
  intro e0 e1 e2 e3 e4 e5 e6 e7 e8 e9 e10 e11 e12 e13 e14 e15 e16 e17 e18 e19 e20 e21 e22 e23 e24 e25 e26 e27 e28 e29 e30 e31 e32 e33 e34 e35 e36 e37 e38 e39 e40 e41 e42 e43 e44 e45 e46 e47 e48 e49 e50 e51 e52 e53 e54 e55 e56 e57 e58 e59 e60 e61 e62 e63 e64 e65 e66 e67 e68 h_1 h_4 h_6 h_8 h_10
  have h_1 : e1 = .pointer (some ⟨B1, 0, none⟩) := h_1
  subst h_1
  have h_4 : e4 = .slice a4 n4 c4 := h_4
  subst h_4
  have h_6 : e6 = .slice a6 n6 c6 := h_6
  subst h_6
  have h_8 : e8 = .int .i64 (1 + (n6 : Int)) := h_8
  subst h_8
  have h_10 : e10 = .slice a10 n10 c10 := h_10
  subst h_10
  replace G5 : Gx u5 u20 := G5.trans hg
  replace k6 : Ints u20 a6 n6 (seqI 1 n6) := hg.ints k6
  clear hg
  refine Gw.seg CC RR (f := 3) (cd := ct 19 bXM) (N := fun _ _ => False) (Rt := fun a' _ => a'.tmps.getD 2 undef = .bool true) rfl (kn_nil rfl) rfl (by kernel_rfl) (fun _ _ _ _ h => h) (fun _ _ _ _ h => h) (fun t d => ?_) (fun _ _ _ h => h.elim) fun A u21 todo hd hg h => leave hd h
  · have J1 : Ints (World.re u20 t d) a10 n10 (cmL f g) := j10.ints
    have I4 : Ints (World.re u20 t d) a4 n4 (cmL f g) := G5.ints i4
    have S6 : Ints (World.re u20 t d) a6 n6 (seqI 1 n6) := k6
    generalize World.re u20 t d = v at J1 I4 S6
    clear ht1 ht2 h1 h2 j10 i4 k6 leave xf yf
    simp only [bXM, cl, cr, ct, co, Tryd.f3, Option.getD_some]
    have hq1 : ¬ ((1 + (n6 : Int)) < 0) := by omega
    have HE1 := Lib.hid (same_refl (cmL f g))
    go_wp2_with fail
    refine (eqIntS_is J1 I4 HE1.out).mono ?_; rintro e w1 ⟨rfl, d1⟩
    have HE := Lib.hid (d1.ext (r := none))
    clear d1
    go_wp2_with fail
    refine (heldIntS_any (S6.ext HE.out) (by omega) (by omega) (by omega)).mono ?_; rintro e w3 ⟨rfl, rfl⟩
    go_wp2_with fail
    exact ⟨rfl, HE.out⟩
end Go.Proofs.YtnifgfnhcjhodaaDoor
